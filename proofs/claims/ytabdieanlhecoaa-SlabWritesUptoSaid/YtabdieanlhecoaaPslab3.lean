import Derived.Test.YtabdieanlhecoaaPslab2
namespace Go.Proofs.Ytabdieanlhecoaa
open Go Go.Proofs.Ytabdieanlhecoaa.V
set_option maxRecDepth 20000
attribute [local irreducible] CallS AOK AOKn ALoop Side Ref.ok
def datT (D : List (List UInt8)) : List (List AV) := D.map fun d => [.sl 1 (bs d) true]
theorem datT_length (D : List (List UInt8)) : (datT D).length = D.length := by simp [datT]
theorem datT_append (D E : List (List UInt8)) : datT (D ++ E) = datT D ++ datT E := by simp [datT]
theorem fresh_datT (D : List (List UInt8)) : FreshA (.sl 1 (datT D) true) := by
  refine FreshA.sl _ _ fun x hx => ?_
  simp only [datT, List.mem_flatten, List.mem_map] at hx
  obtain ⟨r, ⟨p, _, rfl⟩, hx⟩ := hx
  simp only [List.mem_singleton] at hx
  subst hx
  exact .sl _ _ FreshA_bs
theorem untag_datT (D : List (List UInt8)) : untagLL (datT D) = dat D := by
  induction D with
  | nil => rfl
  | cons d D ih =>
    have e1 : datT (d :: D) = [.sl 1 (bs d) true] :: datT D := rfl
    have e2 : dat (d :: D) = [.sl 1 (bs d) false] :: dat D := rfl
    rw [e1, e2, untagLL, ih]
    simp [untagL, untag, untagLL_bs]
theorem Looks.owndat {σ : AH} {x : AV} {D : List (List UInt8)} (h : Own σ 1 x (datT D)) : Looks σ x (.sl 1 (Go.Proofs.Ytabdieanlhecoaa.dat D) false) := by
  have := Looks.own h
  rwa [untag_datT] at this
def rof (t : List UInt8) : Int := (getV t 0 : Nat) - 1
def rbit (t : List UInt8) : Nat := getV t 1
def bitB (b j : Nat) : Bool := decide (b / 2 ^ j % 2 = 1)
def rcs (b k : Nat) : List Nat := (List.range k).filter (bitB b)
def rcI (b k : Nat) : List Int := (rcs b k).map fun j => ((j : Nat) : Int)
def cel (c : Int) (t : List UInt8) (k : Int) : List UInt8 := (t.drop (cof c k)).take (8 * (cw c).toNat)
def rdD (c : Int) (t : List UInt8) (b k : Nat) : List (List UInt8) := (rcs b k).map fun (j : Nat) => cel c t (j : Int)
theorem rcs_yes {b k : Nat} (h : bitB b k = true) : rcs b (k + 1) = rcs b k ++ [k] := by simp [rcs, List.range_succ, List.filter_append, h]
theorem rcs_no {b k : Nat} (h : bitB b k = false) : rcs b (k + 1) = rcs b k := by simp [rcs, List.range_succ, List.filter_append, h]
theorem rcs_len (b k : Nat) : (rcs b k).length ≤ k := by
  have := List.length_filter_le (bitB b) (List.range k)
  simpa [rcs] using this
def rC (t : List UInt8) : List Int := rcI (rbit t) (cn (rof t)).toNat
def rD (t : List UInt8) : List (List UInt8) := rdD (rof t) t (rbit t) (cn (rof t)).toNat
def rN (t : List UInt8) : Int := (getV t 2 : Nat)
def rP (t : List UInt8) : Int := (getV t 3 : Nat)
def srOk (t : List UInt8) : Bool := decide (t.length = 256) && (swOk (rof t) (rC t) (rD t) (rN t) (rP t) && decide (swR (rof t) (rC t) (rD t) (rN t) (rP t) = t))
def srI (t : List UInt8) (x : Int) : Int := if srOk t then x else 0
def srC (t : List UInt8) : List Int := if srOk t then rC t else []
def srD (t : List UInt8) : List (List UInt8) := if srOk t then rD t else []
theorem Get_call (s : List UInt8) (i : Int) (hs : s.length ≤ 4611686018427) {σ : AH} {x : AV} (hx : Looks σ x (.sl 1 (bs s) false)) {Q : AV → AH → Prop} (h : ∀ σ', Gr σ σ' none → Q (.tup [.int .i64 (getV s i : Nat), .bool (getOk s i)]) σ') : CallS Try.prog F.words_Get [x, .int .i64 i] σ Q :=
  call_two (words_Get_ok s i hs) (.cons hx (.cons (.int _ _ _) .nil)) rfl rfl h
theorem getV_bd (s : List UInt8) (i : Int) : getV s i < 4611686018427387904 := by
  unfold getV
  split
  · rename_i h
    simp only [getOk, Bool.and_eq_true, inR, decide_eq_true_eq] at h
    exact val_top _ 7 (by rw [wd_length (by omega)]) (by simpa [okW] using h.2)
  · omega
theorem cellBytes_val (σ : AH) (t : List UInt8) (fr : Bool) (c k : Int) (ht : t.length = 256) (h6 : ceOk c k = true) (Q : AV → AH → Prop)
    (h : ∀ σ', Gr σ σ' none → Q (.sl 1 (bs (cel c t k)) fr) σ') : CallS Try.prog F.slab_cellBytes [.sl 1 (bs t) fr, .int .i64 c, .int .i64 k] σ Q := by
  obtain ⟨e1, e2, e3⟩ := cof_bd h6
  have hc := cn_bd c
  have htn := bs_length t
  have eV : ceV c k = 4 + k * cw c := by rw [ceV, h6, if_pos rfl]
  refine call_of_body mixed fc_slab_cellBytes_ok (by simp [fc_slab_cellBytes]) ?_
  skip
  all_goals (conv => whnf)
  all_goals (try dsimp only)
  refine Cell_call c k fun H1 hg1 => ?_
  rw [eV]
  skip
  all_goals (conv => whnf)
  all_goals (try dsimp only)
  refine Words_call c fun H2 hg2 => ?_
  generalize hX : 4 + k * cw c = X at *
  repeat' (first
    | ((with_reducible refine Side.intro ?_) <;> (first
    | omega
    ))
    | ((conv => whnf) <;> (first
    | (with_reducible refine and_same ?_)
    | (with_reducible refine and_side ?_ ?_)
    | ((with_reducible apply Br.yes) ; (focus omega))
    | (with_reducible refine SliceW.of ?_)
    ))
    )
  all_goals (conv => whnf)
  all_goals (try dsimp only)
  have := h H2 (hg1.trans hg2)
  rw [bs_take, bs_drop, List.drop_take, show ((X + cw c) * 8).toNat - (X * 8).toNat = 8 * (cw c).toNat from by omega, show (X * 8).toNat = cof c k from by omega]
  exact this
theorem and_lo {a b : Int} {n c : Nat} (ha : a = (n : Int)) (hb : b = (c : Nat)) (hc : c < 9223372036854775808) (hn : n < 9223372036854775808) :
    IntKind.wrap .i64 (((BitVec.ofInt IntKind.i64.bits a &&& BitVec.ofInt IntKind.i64.bits b).toNat : Nat) : Int) = ((n &&& c : Nat) : Int) := by
  subst ha; subst hb
  show IntKind.wrap .i64 (((BitVec.ofInt 64 (n : Int) &&& BitVec.ofInt 64 (c : Int)).toNat : Nat) : Int) = _
  rw [BitVec.toNat_and, bv_nat hn, bv_nat hc]
  exact wrap_nat (Nat.lt_of_le_of_lt Nat.and_le_left hn)
theorem shr_bit {b k : Nat} (hb : b < 4611686018427387904) (hk : k < 14) : IntKind.wrap .i64 (((BitVec.ofInt IntKind.i64.bits ((b : Int).fdiv (2 ^ min (k : Int).toNat IntKind.i64.bits)) &&& BitVec.ofInt IntKind.i64.bits 1).toNat : Nat) : Int) = ((b / 2 ^ k % 2 : Nat) : Int) := by
  have e1 : min (k : Int).toNat IntKind.i64.bits = k := by
    show min (k : Int).toNat 64 = k
    omega
  have e2 : (2 : Int) ^ k = ((2 ^ k : Nat) : Int) := by norm_cast
  have h3 : b / 2 ^ k ≤ b := Nat.div_le_self _ _
  rw [e1, e2, fdiv_nat, and_lo (a := ((b / 2 ^ k : Nat) : Int)) (b := 1) (n := b / 2 ^ k) (c := 1) rfl rfl (by omega) (by omega), Nat.and_one_is_mod]
theorem ce_of {c : Int} {k : Nat} (h : k < (cn c).toNat) : ceOk c k = true := by
  have hc : clOk c = true := by
    cases ho : clOk c
    · have := (cl_no ho).2
      rw [this] at h
      simp at h
    · rfl
  rw [ceOk, hc, decide_eq_true (by omega)]; rfl
theorem ce_cw {c k : Int} (h : ceOk c k = true) : 2 ≤ cw c := by
  simp only [ceOk, Bool.and_eq_true] at h
  rcases cl_six h.1 with rfl | rfl | rfl | rfl | rfl | rfl <;> decide
theorem cel_len {c : Int} {t : List UInt8} {k : Int} (ht : t.length = 256) (h : ceOk c k = true) : (cel c t k).length = 8 * (cw c).toNat := by
  have := cof_bd h
  unfold cel
  rw [List.length_take, List.length_drop]
  omega
theorem Equal_ok (s t : List UInt8) (hs : s.length ≤ 4611686018) (ht : t.length ≤ 4611686018) : AOKn Try.prog F.bytes_Equal [.sl 1 (bs s) false, .sl 1 (bs t) false] fun y => y = .bool (decide (s = t)) := by
  refine AOKn.by_steps mixed fc_bytes_Equal_ok (by simp [fc_bytes_Equal]) ?_
  repeat' (first
    | ((with_reducible refine Side.intro ?_) <;> (first
    | (simp only [List.append_nil, List.nil_append, List.map_nil]; first | exact List.nodup_nil | exact nodup_bid1 _ | exact nodup_bid2 (by assumption))
    | ((first | refine fresh_tup ?_ | skip); (repeat (first | exact fresh_datT _ |  exact FreshA.sl _ _ FreshA_bs | exact FreshA.sl _ _ FreshA_is | exact FreshA.nils | exact FreshA.nilp | exact FreshA.int _ _ | exact FreshA.bool _ | exact FreshA.str _ | exact fresh_nil | refine fresh_cons ?_ ?_ | with_reducible refine fresh_aggR ?_ | with_reducible refine fresh_agg ?_ | with_reducible exact fresh_nilA | with_reducible refine fresh_consA ?_ ?_)); done)
    ))
    | ((conv => whnf) <;> (first
    | (with_reducible refine and_side ?_ ?_)
    | (with_reducible refine Br.mk (fun _ => ?_) (fun _ => ?_))
    | (with_reducible refine NOut.lit ?_)
    | (with_reducible refine rowsR_sl ?_)
    | ((with_reducible apply bytesR_intro) ; (focus (first | rfl | (simp only [bs_take, bs_drop, bs_append]; rfl))))
    ))
    )
  all_goals (conv => whnf)
  all_goals (try dsimp only)
  · exact ret_bool (decide_eq_true ‹_›).symm
  · exact ret_bool (decide_eq_false ‹_›).symm
theorem Equal_call (s t : List UInt8) (hs : s.length ≤ 4611686018) (ht : t.length ≤ 4611686018) {σ : AH} {x y : AV} (hx : Looks σ x (.sl 1 (bs s) false)) (hy : Looks σ y (.sl 1 (bs t) false)) {Q : AV → AH → Prop} (h : ∀ σ', Gr σ σ' none → Q (.bool (decide (s = t))) σ') : CallS Try.prog F.bytes_Equal [x, y] σ Q :=
  call_one (Equal_ok s t hs ht) (.cons hx (.cons hy .nil)) rfl h
theorem ret_nil23 {a d e f : AV} {s1 s2 : Nat} {b1 b2 : Bool} : ∃ y0, NilR (.tup [a, .nils, .nils, d, e, f]) y0 ∧ y0 = .tup [a, .sl s1 [] b1, .sl s2 [] b2, d, e, f] :=
  ⟨_, .tup (.cons (.refl _) (.cons (.nil _ _) (.cons (.nil _ _) (.cons (.refl _) (.cons (.refl _) (.cons (.refl _) .nil)))))), rfl⟩
theorem sr_no {t : List UInt8} (h : srOk t = false) : (∀ x, srI t x = 0) ∧ srC t = [] ∧ srD t = [] := ⟨fun x => by rw [srI, h]; rfl, by rw [srC, h]; rfl, by rw [srD, h]; rfl⟩
theorem sr_yes {t : List UInt8} (h : srOk t = true) : (∀ x, srI t x = x) ∧ srC t = rC t ∧ srD t = rD t := ⟨fun x => by rw [srI, h]; rfl, by rw [srC, h]; rfl, by rw [srD, h]; rfl⟩
theorem pgF_len (c : Int) : ∀ (l : List Int) (D : List (List UInt8)) (p : List UInt8), (∀ k, k ∈ l → ceOk c k = true) → (∀ d, d ∈ D → d.length ≤ 8 * (cw c).toNat) → p.length = 256 → (pgF c p l D).length = 256
  | [], D, p, h1, h2, h3 => by cases D <;> simpa [pgF] using h3
  | k :: r, [], p, h1, h2, h3 => by simpa [pgF] using h3
  | k :: r, d :: D, p, h1, h2, h3 => by
    have a1 := cof_bd (h1 k (by simp))
    have a2 := h2 d (by simp)
    refine pgF_len c r D _ (fun j hj => h1 j (by simp [hj])) (fun e he => h2 e (by simp [he])) ?_
    rw [putC_length (by omega)]; exact h3
theorem swR_len {c : Int} {l : List Int} {D : List (List UInt8)} {nx pv : Int} (h : swOk c l D nx pv = true) : (swR c l D nx pv).length = 256 := by
  rw [swR, h, if_pos rfl]
  simp only [swOk, Bool.and_eq_true] at h
  obtain ⟨h1, h2⟩ := h
  obtain ⟨q1, _⟩ := swB_iff.1 h1
  refine pgF_len c l D _ (fun k hk => bt_ce q1 hk) (fun d hd => ?_) (pg0_len c l nx pv)
  exact of_decide_eq_true (List.all_eq_true.1 h2 d hd)
theorem disj_keep {x y : AV} (h : x.bid = none ∨ x.bid ≠ y.bid) : y.bid = none ∨ x.bid ≠ y.bid := by
  rcases h with h | h
  · cases hy : y.bid with
    | none => exact .inl rfl
    | some a => right; rw [h]; simp
  · exact .inr h
set_option maxHeartbeats 4000000 in
theorem SRead_ok (t : List UInt8) (hs : t.length ≤ 4611686018) : AOKn Try.prog F.slab_Read [.sl 1 (bs t) false] fun y => y = .tup [.int .i64 (srI t (rof t)), .sl 1 (is (srC t)) true, .sl 1 (datT (srD t)) true, .int .i64 (srI t (rN t)), .int .i64 (srI t (rP t)), .bool (srOk t)] := by
  have htn := bs_length t
  refine AOKn.by_steps mixed fc_slab_Read_ok (by simp [fc_slab_Read]) ?_
  by_cases hlen : t.length = 256
  · have g0 := getV_bd t 0
    have g1 := getV_bd t 1
    have g2 := getV_bd t 2
    have g3 := getV_bd t 3
    repeat' (first
      | ((conv => whnf) <;> (first
      | (with_reducible refine and_same ?_)
      | ((with_reducible apply Br.no) ; (focus omega))
      | (with_reducible refine lenR_sl ?_)
      ))
      )
    all_goals (conv => whnf)
    all_goals (try dsimp only)
    refine Get_call t 0 (by omega) (.bs _ _ _) fun H1 hg1 => ?_
    skip
    all_goals (conv => whnf)
    all_goals (try dsimp only)
    refine Get_call t 1 (by omega) (.bs _ _ _) fun H2 hg2 => ?_
    skip
    all_goals (conv => whnf)
    all_goals (try dsimp only)
    refine Get_call t 2 (by omega) (.bs _ _ _) fun H3 hg3 => ?_
    skip
    all_goals (conv => whnf)
    all_goals (try dsimp only)
    refine Get_call t 3 (by omega) (.bs _ _ _) fun H4 hg4 => ?_
    repeat' (first
      | ((conv => whnf) <;> (first
      | (with_reducible refine and_same ?_)
      | ((with_reducible apply Br.yes) ; (focus omega))
      ))
      )
    all_goals (conv => whnf)
    all_goals (try dsimp only)
    refine Cells_call (rof t) fun H5 hg5 => ?_
    have hcb := cn_bd (rof t)
    skip
    all_goals (conv => whnf)
    all_goals (try dsimp only)
    refine loop_at (α := Nat × AH × AV × AV) (fun a => [(3, a.2.2.1), (4, a.2.2.2), (48, .int .i64 a.1)]) (fun a => a.2.1) (fun a => a.1 ≤ (cn (rof t)).toNat ∧ Own a.2.1 1 a.2.2.1 (is (rcI (rbit t) a.1)) ∧ Own a.2.1 1 a.2.2.2 (datT (rdD (rof t) t (rbit t) a.1)) ∧ (a.2.2.1.bid = none ∨ a.2.2.1.bid ≠ a.2.2.2.bid)) (fun a => (cn (rof t)).toNat - a.1) (0, H5, .nils, .nils) ⟨by dsimp only; omega, Own.nil _ _, Own.nil _ _, .inl rfl⟩ rfl rfl ?_
    rintro ⟨k, σ, ca, da⟩ ⟨hk, hca, hda, hdj⟩
    dsimp only at hk hca hda hdj ⊢
    by_cases hlt : k < (cn (rof t)).toNat
    · have e := shr_bit (b := getV t 1) (k := k) g1 (by omega)
      have hce := ce_of hlt
      have hlc := rcs_len (rbit t) k
      have hil : (is (rcI (rbit t) k)).length ≤ k := by rw [is_length, rcI, List.length_map]; exact hlc
      have hdl : (datT (rdD (rof t) t (rbit t) k)).length ≤ k := by rw [datT_length, rdD, List.length_map]; exact hlc
      by_cases hbit : getV t 1 / 2 ^ k % 2 = 1
      · have hb1 : bitB (rbit t) k = true := decide_eq_true hbit
        repeat' (first
          | ((with_reducible refine Side.intro ?_) <;> (first
          | omega
          | exact Nat.le_of_ble_eq_true rfl
          | exact rfl
          ))
          | ((conv => whnf) <;> (first
          | (with_reducible refine and_same ?_)
          | (with_reducible refine and_side ?_ ?_)
          | ((with_reducible apply Br.yes) ; (focus omega))
          | ((with_reducible apply blkAt_intro) ; (focus (first
          | ((repeat (first
          | exact get_new
          )); done)
          )) ; (focus (first | rfl | assumption | omega)) ; (try dsimp only))
          | (with_reducible refine AppC.frz ?_)
          | (with_reducible refine rowsR_rsl ?_)
          ))
          )
        all_goals (conv => whnf)
        all_goals (try dsimp only)
        refine appendR_own (rows := is (rcI (rbit t) k)) (hca.keepN (by (repeat (first
              | exact Gr.refl _ _
              | refine Gr.addN ?_ _
              )))) (by simp only [List.length_take, List.length_drop, List.length_set, List.length_replicate]; omega) ?_
        intro ca' σ1 hca' hg1' hb1'
        skip
        all_goals (conv => whnf)
        all_goals (try dsimp only)
        refine cellBytes_val σ1 t false (rof t) k hlen hce _ ?_
        intro σ2 hgs2
        have hcl := cel_len hlen hce
        skip
        all_goals (conv => whnf)
        all_goals (try dsimp only)
        refine call_sl (bytes_Clone_ok (cel (rof t) t k) (by have := cn_bd (rof t); omega)) (.cons (.bs _ _ _) .nil) fun σ3 x hg3' hx hxn => ?_
        have hcw := ce_cw hce
        have hbl := bs_length (cel (rof t) t k)
        obtain ⟨idx, genx, spx, rfl, hbx⟩ := hx.ne (fun e => by rw [e] at hbl; simp at hbl; omega)
        clear hx
        have hda1 : Own σ1 1 da (datT (rdD (rof t) t (rbit t) k)) := Own.keep hg1' (Own.keepN (by (repeat (first
              | exact Gr.refl _ _
              | refine Gr.addN ?_ _
              ))) hda) (disj_keep hdj)
        have hda3 := (hda1.keepN hgs2).keepN hg3'
        have hca3 := (hca'.keepN hgs2).keepN hg3'
        have hid : σ2.length ≤ idx := hxn idx rfl
        have l12 := hgs2.1
        have l23 := hg3'.1
        have l01 := hg1'.1
        simp only [newB_length] at l01
        have nd : da.bid ≠ some idx := fun e => by
          have := hda1.lt e
          omega
        have nc : ca'.bid ≠ some idx := fun e => by
          have := hca'.lt e
          omega
        have D1 : ca'.bid = none ∨ ca'.bid ≠ da.bid := by
          rcases hb1' with q | q
          · rw [q]; exact hdj
          · right
            rw [q]
            intro e
            have := hda.lt e.symm
            simp only [newB_length] at this
            omega
        repeat' (first
          | ((with_reducible refine Side.intro ?_) <;> (first
          | omega
          | exact Nat.le_of_ble_eq_true rfl
          | (simp only [bs_length, List.length_append, List.length_cons, List.length_nil, List.length_take, List.length_drop, List.length_set, List.length_replicate]; omega)
          | exact rfl
          ))
          | ((conv => whnf) <;> (first
          | (with_reducible refine and_same ?_)
          | (with_reducible refine and_side ?_ ?_)
          | ((with_reducible apply blkAt_intro) ; (focus (first
          | ((repeat (first
          | assumption
          | exact get_new
          | apply get_old
          )); done)
          )) ; (focus (first | rfl | assumption | omega)) ; (try dsimp only))
          | (with_reducible refine AppC.frz ?_)
          | (with_reducible refine rowsR_rsl ?_)
          ))
          )
        all_goals (conv => whnf)
        all_goals (try dsimp only)
        refine appendR_own (rows := datT (rdD (rof t) t (rbit t) k)) (Own.keep (Gr.set _ idx _) (Own.keepN (by (repeat (first
              | exact Gr.refl _ _
              | refine Gr.addN ?_ _
              ))) hda3) (.inr fun e => nd e.symm)) (by simp only [List.length_cons, List.length_nil]; omega) ?_
        intro da' σ4 hda' hg4' hb4'
        have hca4 := Own.keep hg4' (Own.keep (Gr.set _ idx _) (Own.keepN (by (repeat (first
              | exact Gr.refl _ _
              | refine Gr.addN ?_ _
              ))) hca3) (.inr fun e => nc e.symm)) (disj_keep (disj_symm D1))
        have D2 : ca'.bid = none ∨ ca'.bid ≠ da'.bid := by
          rcases hb4' with q | q
          · rw [q]; exact D1
          · right
            rw [q]
            intro e
            have := hca'.lt e
            simp only [newB_length, List.length_set] at this
            omega
        repeat' (first
          | ((conv => whnf) <;> (first
          | (with_reducible refine and_same ?_)
          | ((with_reducible apply Br.yes) ; (focus omega))
          ))
          )
        all_goals (conv => whnf)
        all_goals (try dsimp only)
        refine ⟨(k + 1, σ4, ca', da'), rfl, rfl, ⟨by dsimp only; omega, ?_, ?_, D2⟩, by dsimp only; omega⟩
        · dsimp only
          rw [rcI, rcs_yes hb1, List.map_append, ← is_append]
          exact hca4
        · dsimp only
          rw [rdD, rcs_yes hb1, List.map_append, datT_append]
          have et : List.take (bs (cel (rof t) t k)).length (List.drop 0 (bs (cel (rof t) t k) ++ spx)) = bs (cel (rof t) t k) := by
            rw [List.drop_zero, List.take_left]
          rw [et] at hda'
          exact hda'
      · have hb1 : bitB (rbit t) k = false := decide_eq_false hbit
        have em : (getV t 1 / 2 ^ k % 2 : Nat) = 0 := by omega
        repeat' (first
          | ((with_reducible refine Side.intro ?_) <;> (first
          | omega
          ))
          | ((conv => whnf) <;> (first
          | (with_reducible refine and_same ?_)
          | (with_reducible refine and_side ?_ ?_)
          | ((with_reducible apply Br.yes) ; (focus omega))
          | ((with_reducible apply Br.no) ; (focus omega))
          ))
          )
        all_goals (conv => whnf)
        all_goals (try dsimp only)
        refine ⟨(k + 1, σ, ca, da), rfl, rfl, ⟨by dsimp only; omega, ?_, ?_, hdj⟩, by dsimp only; omega⟩
        · dsimp only
          rw [rcI, rcs_no hb1]; exact hca
        · dsimp only
          rw [rdD, rcs_no hb1]; exact hda
    · have hkk : k = (cn (rof t)).toNat := by omega
      subst hkk
      have eC : rcI (rbit t) (cn (rof t)).toNat = rC t := rfl
      have eD : rdD (rof t) t (rbit t) (cn (rof t)).toNat = rD t := rfl
      rw [eC] at hca
      rw [eD] at hda
      have hrl := rcs_len (rbit t) (cn (rof t)).toNat
      have hcl : (rC t).length ≤ 14 := by rw [← eC, rcI, List.length_map]; omega
      have hdl : (rD t).length ≤ 14 := by rw [← eD, rdD, List.length_map]; omega
      have hdd : ∀ d, d ∈ rD t → d.length ≤ 4611686018 := by
        intro d hd
        rw [← eD] at hd
        simp only [rdD, List.mem_map] at hd
        obtain ⟨j, _, rfl⟩ := hd
        unfold cel
        rw [List.length_take, List.length_drop]; omega
      have eO : srOk t = (swOk (rof t) (rC t) (rD t) (rN t) (rP t) && decide (swR (rof t) (rC t) (rD t) (rN t) (rP t) = t)) := by rw [srOk, decide_eq_true hlen, Bool.true_and]
      repeat' (first
        | ((conv => whnf) <;> (first
        | (with_reducible refine and_same ?_)
        | ((with_reducible apply Br.no) ; (focus omega))
        ))
        )
      all_goals (conv => whnf)
      all_goals (try dsimp only)
      refine SWrite_call (rof t) (rC t) (rD t) (rN t) (rP t) (by omega) (by omega) hdd (Looks.ownis hca) (Looks.owndat hda) fun H6 y hg6 hy hyn => ?_
      cases hw : swOk (rof t) (rC t) (rD t) (rN t) (rP t)
      · have h0 : srOk t = false := by rw [eO, hw]; rfl
        obtain ⟨r1, r2, r3⟩ := sr_no h0
        rw [r1, r1, r1, r2, r3, h0, show swE (rof t) (rC t) (rD t) (rN t) (rP t) = 1 from by rw [swE, hw]; rfl]
        repeat' (first
          | ((with_reducible refine Side.intro ?_) <;> (first
          | (simp only [List.append_nil, List.nil_append, List.map_nil]; first | exact List.nodup_nil | exact nodup_bid1 _ | exact nodup_bid2 (by assumption))
          | ((first | refine fresh_tup ?_ | skip); (repeat (first | exact fresh_datT _ |  exact FreshA.sl _ _ FreshA_bs | exact FreshA.sl _ _ FreshA_is | exact FreshA.nils | exact FreshA.nilp | exact FreshA.int _ _ | exact FreshA.bool _ | exact FreshA.str _ | exact fresh_nil | refine fresh_cons ?_ ?_ | with_reducible refine fresh_aggR ?_ | with_reducible refine fresh_agg ?_ | with_reducible exact fresh_nilA | with_reducible refine fresh_consA ?_ ?_)); done)
          ))
          | ((conv => whnf) <;> (first
          | (with_reducible refine and_same ?_)
          | (with_reducible refine and_side ?_ ?_)
          | ((with_reducible apply Br.yes) ; (focus omega))
          | (with_reducible refine NOut.lit ?_)
          ))
          )
        all_goals (conv => whnf)
        all_goals (try dsimp only)
        exact ret_nil23
      · rw [show swE (rof t) (rC t) (rD t) (rN t) (rP t) = 0 from by rw [swE, hw]; rfl]
        have hwl : (swR (rof t) (rC t) (rD t) (rN t) (rP t)).length ≤ 4611686018 := by rw [swR_len hw]; omega
        repeat' (first
          | ((conv => whnf) <;> (first
          | (with_reducible refine and_same ?_)
          | ((with_reducible apply Br.no) ; (focus omega))
          ))
          )
        all_goals (conv => whnf)
        all_goals (try dsimp only)
        refine Equal_call _ t hwl hs (Looks.ownbs hy) (.bs _ _ _) fun H7 hg7 => ?_
        by_cases he : swR (rof t) (rC t) (rD t) (rN t) (rP t) = t
        · have h0 : srOk t = true := by rw [eO, hw, decide_eq_true he]; rfl
          obtain ⟨r1, r2, r3⟩ := sr_yes h0
          rw [r1, r1, r1, r2, r3, h0, decide_eq_true he]
          replace hca := hca.keepN (hg6.trans hg7)
          replace hda := hda.keepN (hg6.trans hg7)
          have hnd : ∀ id, ca.bid = some id → da.bid ≠ some id := fun id h1 h2 => by
            rcases hdj with q | q
            · rw [q] at h1; cases h1
            · exact q (by rw [h1, h2])
          repeat' (first
            | ((with_reducible refine Side.intro ?_) <;> (first
            | (simp only [List.append_nil, List.nil_append, List.map_nil]; first | exact List.nodup_nil | exact nodup_bid1 _ | exact nodup_bid2 (by assumption))
            | ((first | refine fresh_tup ?_ | skip); (repeat (first | exact fresh_datT _ |  exact FreshA.sl _ _ FreshA_bs | exact FreshA.sl _ _ FreshA_is | exact FreshA.nils | exact FreshA.nilp | exact FreshA.int _ _ | exact FreshA.bool _ | exact FreshA.str _ | exact fresh_nil | refine fresh_cons ?_ ?_ | with_reducible refine fresh_aggR ?_ | with_reducible refine fresh_agg ?_ | with_reducible exact fresh_nilA | with_reducible refine fresh_consA ?_ ?_)); done)
            ))
            | ((conv => whnf) <;> (first
            | (with_reducible refine and_side ?_ ?_)
            | ((with_reducible apply NOut.own) ; (focus assumption))
            | (with_reducible refine NOut.lit ?_)
            ))
            )
          all_goals (conv => whnf)
          all_goals (try dsimp only)
          all_goals first
            | exact ret_same rfl
            | trace_state
        · have h0 : srOk t = false := by rw [eO, hw, decide_eq_false he]; rfl
          obtain ⟨r1, r2, r3⟩ := sr_no h0
          rw [r1, r1, r1, r2, r3, h0, decide_eq_false he]
          repeat' (first
            | ((with_reducible refine Side.intro ?_) <;> (first
            | (simp only [List.append_nil, List.nil_append, List.map_nil]; first | exact List.nodup_nil | exact nodup_bid1 _ | exact nodup_bid2 (by assumption))
            | ((first | refine fresh_tup ?_ | skip); (repeat (first | exact fresh_datT _ |  exact FreshA.sl _ _ FreshA_bs | exact FreshA.sl _ _ FreshA_is | exact FreshA.nils | exact FreshA.nilp | exact FreshA.int _ _ | exact FreshA.bool _ | exact FreshA.str _ | exact fresh_nil | refine fresh_cons ?_ ?_ | with_reducible refine fresh_aggR ?_ | with_reducible refine fresh_agg ?_ | with_reducible exact fresh_nilA | with_reducible refine fresh_consA ?_ ?_)); done)
            ))
            | ((conv => whnf) <;> (first
            | (with_reducible refine and_side ?_ ?_)
            | (with_reducible refine NOut.lit ?_)
            ))
            )
          all_goals (conv => whnf)
          all_goals (try dsimp only)
          exact ret_nil23
  · have h0 : srOk t = false := by rw [srOk, decide_eq_false hlen]; rfl
    obtain ⟨r1, r2, r3⟩ := sr_no h0
    rw [r1, r1, r1, r2, r3, h0]
    repeat' (first
      | ((with_reducible refine Side.intro ?_) <;> (first
      | (simp only [List.append_nil, List.nil_append, List.map_nil]; first | exact List.nodup_nil | exact nodup_bid1 _ | exact nodup_bid2 (by assumption))
      | ((first | refine fresh_tup ?_ | skip); (repeat (first | exact fresh_datT _ |  exact FreshA.sl _ _ FreshA_bs | exact FreshA.sl _ _ FreshA_is | exact FreshA.nils | exact FreshA.nilp | exact FreshA.int _ _ | exact FreshA.bool _ | exact FreshA.str _ | exact fresh_nil | refine fresh_cons ?_ ?_ | with_reducible refine fresh_aggR ?_ | with_reducible refine fresh_agg ?_ | with_reducible exact fresh_nilA | with_reducible refine fresh_consA ?_ ?_)); done)
      ))
      | ((conv => whnf) <;> (first
      | (with_reducible refine and_same ?_)
      | (with_reducible refine and_side ?_ ?_)
      | ((with_reducible apply Br.yes) ; (focus omega))
      | (with_reducible refine NOut.lit ?_)
      | (with_reducible refine lenR_sl ?_)
      ))
      )
    all_goals (conv => whnf)
    all_goals (try dsimp only)
    exact ret_nil23
theorem rCD_len (b : List UInt8) : (rC b).length ≤ 14 ∧ (rD b).length ≤ 14 ∧ ∀ d, d ∈ rD b → d.length ≤ 4611686018 := by
  have hrl := rcs_len (rbit b) (cn (rof b)).toNat
  have hcb := cn_bd (rof b)
  refine ⟨by rw [rC, rcI, List.length_map]; omega, by rw [rD, rdD, List.length_map]; omega, ?_⟩
  intro d hd
  simp only [rD, rdD, List.mem_map] at hd
  obtain ⟨j, _, rfl⟩ := hd
  unfold cel
  rw [List.length_take, List.length_drop]; omega
theorem call_six {f : Nat} {xs vs : List AV} {σ : AH} {Q : AV → AH → Prop} {y1 y4 y5 y6 : AV} {r2 r3 : List (List AV)} (h : AOKn Try.prog f vs fun y => y = .tup [y1, .sl 1 r2 true, .sl 1 r3 true, y4, y5, y6]) (hs : LooksL σ xs vs) (h1 : y1.plain = true) (h4 : y4.plain = true) (h5 : y5.plain = true) (h6 : y6.plain = true)
    (hQ : ∀ σ' x2 x3, Gr σ σ' none → Own σ' 1 x2 r2 → Own σ' 1 x3 r3 → New σ x2 → New σ x3 → (x2.bid = none ∨ x2.bid ≠ x3.bid) → Q (.tup [y1, x2, x3, y4, y5, y6]) σ') : CallS Try.prog f xs σ Q := by
  refine h.call hs ?_
  rintro _ x σ1 rfl hg hG
  obtain ⟨m, rfl, ha⟩ := hG.tup_inv
  obtain ⟨x1, t1, k1, rfl, a1, b1, c1, hb⟩ := ha.cons_inv
  obtain ⟨x2, t2, k2, rfl, a2, b2, c2, hc⟩ := hb.cons_inv
  obtain ⟨x3, t3, k3, rfl, a3, b3, c3, hd⟩ := hc.cons_inv
  obtain ⟨x4, t4, k4, rfl, a4, b4, c4, he⟩ := hd.cons_inv
  obtain ⟨x5, t5, k5, rfl, a5, b5, c5, hf⟩ := he.cons_inv
  obtain ⟨x6, t6, k6, rfl, a6, b6, c6, hh⟩ := hf.cons_inv
  rw [hh.nil_inv]
  obtain rfl := a1.same_inv h1
  obtain rfl := a4.same_inv h4
  obtain rfl := a5.same_inv h5
  obtain rfl := a6.same_inv h6
  refine hQ σ1 x2 x3 hg a2.own_inv a3.own_inv (fun id h => ?_) (fun id h => ?_) ?_
  · have := (b2 id h).1; omega
  · have := (b3 id h).1; omega
  · cases hx : x2.bid with
    | none => exact .inl rfl
    | some a =>
      right
      intro e
      have p1 := (b2 a hx).2
      have p2 := (b3 a e.symm).1
      omega
theorem SRead_call (t : List UInt8) (hs : t.length ≤ 4611686018) {σ : AH} {x : AV} (hx : Looks σ x (.sl 1 (bs t) false)) {Q : AV → AH → Prop}
    (h : ∀ σ' c d, Gr σ σ' none → Own σ' 1 c (is (srC t)) → Own σ' 1 d (datT (srD t)) → New σ c → New σ d → (c.bid = none ∨ c.bid ≠ d.bid) → Q (.tup [.int .i64 (srI t (rof t)), c, d, .int .i64 (srI t (rN t)), .int .i64 (srI t (rP t)), .bool (srOk t)]) σ') : CallS Try.prog F.slab_Read [x] σ Q :=
  call_six (SRead_ok t hs) (.cons hx .nil) rfl rfl rfl rfl h
theorem Bits_call (c : Int) (l : List Int) (hl : l.length ≤ 4611686018) {σ : AH} {x : AV} (hx : Looks σ x (.sl 1 (is l) false)) {Q : AV → AH → Prop} (h : ∀ σ', Gr σ σ' none → Q (.tup [.int .i64 (btV c l), .int .i64 (btEr c l)]) σ') : CallS Try.prog F.slab_Bits [.int .i64 c, x] σ Q :=
  call_two (Bits_ok c l hl) (.cons (.int _ _ _) (.cons hx .nil)) rfl rfl h
end Go.Proofs.Ytabdieanlhecoaa
