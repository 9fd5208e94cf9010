import Derived.Test.YtbmocdcfcdmmkaaPlaws08g
namespace Go.Proofs.Ytbmocdcfcdmmkaa
open Go Go.Proofs.Ytbmocdcfcdmmkaa.V
set_option maxRecDepth 20000
attribute [local irreducible] CallS AOK AOKn ALoop Side Ref.ok
/-! ### Bytes read -/
def wd4 (W : List Int) (j : Nat) : Int := W.getD j 0
theorem wd4_some {W : List Int} {j : Nat} (h : j < W.length) : W[j]? = some (wd4 W j) := by simp [wd4, List.getD, h]
def sk (W : List Int) (k : Nat) : Sl := ⟨wd4 W (4 * k) / 4, decide (2 ≤ wd4 W (4 * k) % 4), decide (wd4 W (4 * k) % 2 = 1), wd4 W (4 * k + 1), wd4 W (4 * k + 2)⟩
def rd (W : List Int) (j : Nat) : List Sl := (List.range j).map (sk W)
theorem rd_succ (W : List Int) (j : Nat) : rd W (j + 1) = rd W j ++ [sk W j] := by simp [rd, List.range_succ]
theorem rd_length (W : List Int) (j : Nat) : (rd W j).length = j := by simp [rd]
def rdL (s : List UInt8) : List Sl := rd (allR s) ((allR s).length / 4)
def rdOk (s : List UInt8) : Bool := decide (s.length ≤ 1024) && (okL (rdL s) && decide (btR (rdL s) = s))
def rdR (s : List UInt8) : List Sl := if rdOk s then rdL s else []
theorem btR_length {l : List Sl} (h : okL l = true) : (btR l).length = 32 * l.length := by
  rw [btR, h, if_pos rfl, cat_length, ww_length l l.length 0 rfl]; omega
theorem and1 (m : Nat) : (m &&& 1) = m % 2 := Nat.and_one_is_mod m
theorem and2 (m : Nat) : (m &&& 2) = 2 * (m / 2 % 2) := by
  have h : (m &&& 2) = (m % 4 &&& 2) := by
    rw [show m % 4 = m % 2 ^ 2 from rfl, ← Nat.and_two_pow_sub_one_eq_mod m 2, Nat.and_assoc]; rfl
  rw [h, show m / 2 % 2 = (m % 4) / 2 from by omega]
  have h4 : m % 4 < 4 := Nat.mod_lt _ (by omega)
  generalize m % 4 = r at *
  match r, h4 with
  | 0, _ => rfl
  | 1, _ => rfl
  | 2, _ => rfl
  | 3, _ => rfl
theorem and_lo {a b : Int} {n c : Nat} (ha : a = (n : Int)) (hb : b = (c : Nat)) (hc : c < 9223372036854775808) (hn : n < 9223372036854775808) :
    IntKind.wrap .i64 (((BitVec.ofInt IntKind.i64.bits a &&& BitVec.ofInt IntKind.i64.bits b).toNat : Nat) : Int) = ((n &&& c : Nat) : Int) := by
  subst ha; subst hb
  show IntKind.wrap .i64 (((BitVec.ofInt 64 (n : Int) &&& BitVec.ofInt 64 (c : Int)).toNat : Nat) : Int) = _
  rw [BitVec.toNat_and, bv_nat hn, bv_nat hc]
  exact wrap_nat (Nat.lt_of_le_of_lt Nat.and_le_left hn)
theorem allR_bd {s : List UInt8} {v : Int} (h : v ∈ allR s) : 0 ≤ v ∧ v ≤ 4611686018427387903 := by
  unfold allR at h
  split at h
  · rename_i ho
    simp only [allOk, Bool.and_eq_true, decide_eq_true_eq, List.all_eq_true, List.mem_range] at ho
    simp only [vals, List.mem_map, List.mem_range] at h
    obtain ⟨i, hi, rfl⟩ := h
    have h1 := ho.2 i hi
    have h2 := wd_length (s := s) (i := i) hi
    have h3 := val_top (wd s i) 7 (by rw [h2]) (by simpa [okW] using h1)
    have e4 : 64 * 256 ^ 7 = 4611686018427387904 := by decide
    omega
  · simp at h
theorem allR_length (s : List UInt8) : (allR s).length ≤ s.length / 8 := by
  unfold allR
  split
  · simp [vals]
  · simp
theorem Bytes8_call (l : List Sl) (hs : l.length ≤ 4611686018) {σ : AH} {x : AV} (hx : Looks σ x (.sl 5 (ss l) false)) {Q : AV → AH → Prop} (h : ∀ σ' y, Gr σ σ' none → Own σ' 1 y (bs (btR l)) → New σ y → Q (.tup [y, .int .i64 (btE l)]) σ') : CallS Try.prog F.table_Bytes [x] σ Q :=
  call_sl1 (Bytes_ok8 l hs) (.cons hx .nil) rfl h
theorem RBytes8_call (l : List Sl) (hs : l.length ≤ 4611686018) {σ : AH} {x : AV} (hx : Looks σ x (.sl 5 (ss l) false)) {Q : AV → AH → Prop} (h : ∀ σ' y, Gr σ σ' none → Own σ' 1 y (bs (btR l)) → New σ y → Q (.tup [y, .int .i64 (btE l)]) σ') : CallS Try.prog F.joistref08_Bytes [x] σ Q :=
  call_sl1 (RBytes_ok8 l hs) (.cons hx .nil) rfl h
theorem Equal_ok (s t : List UInt8) (hs : s.length ≤ 4611686018) (ht : t.length ≤ 4611686018) : AOKn Try.prog F.bytes_Equal [.sl 1 (bs s) false, .sl 1 (bs t) false] fun y => y = .bool (decide (s = t)) := by
  refine AOKn.by_steps mixed fc_bytes_Equal_ok (by simp [fc_bytes_Equal]) ?_
  repeat' (first
    | ((with_reducible refine Side.intro ?_) <;> (first
    | (simp only [List.append_nil, List.nil_append, List.map_nil]; first | exact List.nodup_nil | exact nodup_bid1 _ | exact nodup_bid2 (by assumption))
    | ((first | refine fresh_tup ?_ | skip); (repeat (first | exact fresh_ss _ |  exact FreshA.sl _ _ FreshA_bs | exact FreshA.sl _ _ FreshA_is | exact FreshA.nils | exact FreshA.nilp | exact FreshA.int _ _ | exact FreshA.bool _ | exact FreshA.str _ | exact fresh_nil | refine fresh_cons ?_ ?_ | with_reducible refine fresh_aggR ?_ | with_reducible refine fresh_agg ?_ | with_reducible exact fresh_nilA | with_reducible refine fresh_consA ?_ ?_)); done)
    ))
    | ((conv => whnf) <;> (first
    | (with_reducible refine and_side ?_ ?_)
    | (with_reducible refine Br.mk (fun _ => ?_) (fun _ => ?_))
    | (with_reducible refine NOut.lit ?_)
    | (with_reducible refine rowsR_sl ?_)
    | ((with_reducible apply bytesR_intro) ; (focus (first | rfl | (simp only [bs_take, bs_drop, bs_append]; rfl))))
    ))
    )
  all_goals (conv => whnf)
  all_goals (try dsimp only)
  · exact ret_bool (decide_eq_true ‹_›).symm
  · exact ret_bool (decide_eq_false ‹_›).symm
theorem Equal_call (s t : List UInt8) (hs : s.length ≤ 4611686018) (ht : t.length ≤ 4611686018) {σ : AH} {x y : AV} (hx : Looks σ x (.sl 1 (bs s) false)) (hy : Looks σ y (.sl 1 (bs t) false)) {Q : AV → AH → Prop} (h : ∀ σ', Gr σ σ' none → Q (.bool (decide (s = t))) σ') : CallS Try.prog F.bytes_Equal [x, y] σ Q :=
  call_one (Equal_ok s t hs ht) (.cons hx (.cons hy .nil)) rfl h
theorem rdOk_no {s : List UInt8} (h : okL (rdL s) = false) : rdOk s = false ∧ rdR s = [] := by
  have : rdOk s = false := by rw [rdOk, h]; simp
  exact ⟨this, by rw [rdR, this]; rfl⟩
theorem rdOk_ne {s : List UInt8} (h : btR (rdL s) ≠ s) : rdOk s = false ∧ rdR s = [] := by
  have : rdOk s = false := by rw [rdOk, decide_eq_false h]; simp
  exact ⟨this, by rw [rdR, this]; rfl⟩
theorem rdOk_lg {s : List UInt8} (h : ¬ s.length ≤ 1024) : rdOk s = false ∧ rdR s = [] := by
  have : rdOk s = false := by rw [rdOk, decide_eq_false h]; rfl
  exact ⟨this, by rw [rdR, this]; rfl⟩
theorem rdOk_yes {s : List UInt8} (h1 : s.length ≤ 1024) (h2 : okL (rdL s) = true) (h3 : btR (rdL s) = s) : rdOk s = true ∧ rdR s = rdL s := by
  have : rdOk s = true := by rw [rdOk, decide_eq_true h1, h2, decide_eq_true h3]; rfl
  exact ⟨this, by rw [rdR, this]; rfl⟩
set_option maxHeartbeats 4000000 in
theorem Read_ok8 (s : List UInt8) (hs : s.length ≤ 4611686018) : AOKn Try.prog F.table_Read [.sl 1 (bs s) false] fun y => y = .tup [.sl 5 (ss (rdR s)) true, .bool (rdOk s)] := by
  have hn := bs_length s
  have hal := allR_length s
  refine AOKn.by_steps mixed fc_table_Read_ok (by simp [fc_table_Read]) ?_
  by_cases hlen : s.length ≤ 1024
  · repeat' (first
      | ((conv => whnf) <;> (first
      | (with_reducible refine and_same ?_)
      | ((with_reducible apply Br.no) ; (focus omega))
      | (with_reducible refine lenR_sl ?_)
      ))
      )
    all_goals (conv => whnf)
    all_goals (try dsimp only)
    refine All_call s (by omega) (.bs _ _ _) fun H1 w hg1 hw hn1 => ?_
    have hbd : ∀ v, v ∈ allR s → 0 ≤ v ∧ v ≤ 4611686018427387903 := fun v => allR_bd
    have eL : rdL s = rd (allR s) ((allR s).length / 4) := rfl
    have hwl := is_length (allR s)
    skip
    all_goals (conv => whnf)
    all_goals (try dsimp only)
    rcases hw with ⟨rfl, h0⟩ | ⟨id, gen, sp, rfl, hb⟩
    · have hW : allR s = [] := by
        have := congrArg List.length h0
        rw [hwl] at this
        exact List.length_eq_zero_iff.1 this
      refine loop_at (α := Unit) (fun a => [(4, .nils), (6, .nils)]) (fun a => H1) (fun a => True) (fun a => 0) () trivial rfl rfl ?_
      rintro ⟨⟩ _
      repeat' (first
        | ((conv => whnf) <;> (first
        | (with_reducible refine and_same ?_)
        | ((with_reducible apply Br.no) ; (focus omega))
        | (with_reducible refine lenR_nils ?_)
        ))
        )
      all_goals (conv => whnf)
      all_goals (try dsimp only)
      have hL0 : rdL s = [] := by rw [eL, hW]; rfl
      obtain ⟨r1, r2⟩ := rdOk_no (s := s) (by rw [hL0]; rfl)
      rw [r1, r2]
      refine Bytes8_call [] (by simp) (Looks.ownss (Own.nil _ _)) fun H2 y hg2 hy hn2 => ?_
      rw [show btE [] = 1 from rfl]
      repeat' (first
        | ((with_reducible refine Side.intro ?_) <;> (first
        | (simp only [List.append_nil, List.nil_append, List.map_nil]; first | exact List.nodup_nil | exact nodup_bid1 _ | exact nodup_bid2 (by assumption))
        | ((first | refine fresh_tup ?_ | skip); (repeat (first | exact fresh_ss _ |  exact FreshA.sl _ _ FreshA_bs | exact FreshA.sl _ _ FreshA_is | exact FreshA.nils | exact FreshA.nilp | exact FreshA.int _ _ | exact FreshA.bool _ | exact FreshA.str _ | exact fresh_nil | refine fresh_cons ?_ ?_ | with_reducible refine fresh_aggR ?_ | with_reducible refine fresh_agg ?_ | with_reducible exact fresh_nilA | with_reducible refine fresh_consA ?_ ?_)); done)
        ))
        | ((conv => whnf) <;> (first
        | (with_reducible refine and_same ?_)
        | (with_reducible refine and_side ?_ ?_)
        | ((with_reducible apply Br.yes) ; (focus omega))
        | (with_reducible refine NOut.lit ?_)
        ))
        )
      all_goals (conv => whnf)
      all_goals (try dsimp only)
      exact ret_nilt rfl
    · rw [hwl]
      refine loop_at (α := Nat × AH × AV) (fun a => [(4, .rsl id gen (4 * a.1) ((allR s).length - 4 * a.1) none), (6, a.2.2)]) (fun a => a.2.1) (fun a => 4 * a.1 ≤ (allR s).length ∧ a.2.1[id]? = some { sz := 1, els := is (allR s) ++ sp, gen := gen, wr := true, pure := true } ∧ Own a.2.1 5 a.2.2 (ss (rd (allR s) a.1)) ∧ a.2.2.bid ≠ some id) (fun a => (allR s).length - 4 * a.1) (0, H1, .nils) ⟨by dsimp only; omega, hb, Own.nil _ _, by simp [AV.bid]⟩ rfl rfl ?_
      rintro ⟨k, σ, acc⟩ ⟨hk, hb1, hacc, hd⟩
      dsimp only at hk hb1 hacc hd ⊢
      have hrl := rd_length (allR s) k
      have hrs := ss_length (rd (allR s) k)
      by_cases hlt : 4 ≤ (allR s).length - 4 * k
      · have g0 := wd4_some (W := allR s) (j := 4 * k + Int.toNat 0) (by show 4 * k + 0 < _; omega)
        have g1 := wd4_some (W := allR s) (j := 4 * k + Int.toNat 1) (by show 4 * k + 1 < _; omega)
        have g2 := wd4_some (W := allR s) (j := 4 * k + Int.toNat 2) (by show 4 * k + 2 < _; omega)
        have q0 := hbd _ (List.mem_of_getElem? g0)
        have esk : sk (allR s) k = ⟨wd4 (allR s) (4 * k + Int.toNat 0) / 4, decide (2 ≤ wd4 (allR s) (4 * k + Int.toNat 0) % 4), decide (wd4 (allR s) (4 * k + Int.toNat 0) % 2 = 1), wd4 (allR s) (4 * k + Int.toNat 1), wd4 (allR s) (4 * k + Int.toNat 2)⟩ := rfl
        generalize wd4 (allR s) (4 * k + Int.toNat 0) = v0 at *
        generalize wd4 (allR s) (4 * k + Int.toNat 1) = v1 at *
        generalize wd4 (allR s) (4 * k + Int.toNat 2) = v2 at *
        obtain ⟨m, rfl⟩ : ∃ m : Nat, v0 = m := ⟨v0.toNat, by omega⟩
        have a1 := and_lo (a := (m : Int)) (b := 2) (n := m) (c := 2) rfl rfl (by omega) (by omega)
        have a2 := and_lo (a := (m : Int)) (b := 1) (n := m) (c := 1) rfl rfl (by omega) (by omega)
        rw [and2] at a1
        rw [and1] at a2
        have hb4 : (2 ≤ (m : Int) % 4) ↔ m / 2 % 2 = 1 := by omega
        have hb2 : ((m : Int) % 2 = 1) ↔ m % 2 = 1 := by omega
        rw [decide_eq_decide.2 hb4, decide_eq_decide.2 hb2] at esk
        by_cases c1 : m / 2 % 2 = 1 <;> by_cases c2 : m % 2 = 1
        · rw [decide_eq_true c1, decide_eq_true c2] at esk
          repeat' (first
            | ((with_reducible refine Side.intro ?_) <;> (first
            | omega
            | exact Nat.le_of_ble_eq_true rfl
            | exact rfl
            ))
            | ((conv => whnf) <;> (first
            | (with_reducible refine and_same ?_)
            | (with_reducible refine and_side ?_ ?_)
            | ((with_reducible apply Br.yes) ; (focus omega))
            | ((with_reducible apply blkAt_intro) ; (focus (first
            | ((repeat (first
            | assumption
            | exact get_new
            )); done)
            )) ; (focus (first | rfl | assumption | omega)) ; (try dsimp only))
            | ((with_reducible apply nthR_is1) ; (focus assumption))
            | (with_reducible refine IaW.of ?_)
            | ((with_reducible apply nthR_left) ; (focus (first | omega | (simp only [List.length_append, List.length_cons, List.length_nil, List.length_take, List.length_drop, bs_length]; omega))))
            | (with_reducible refine lenR_rsl ?_)
            | (with_reducible refine rowsR_rsl ?_)
            ))
            )
          all_goals (conv => whnf)
          all_goals (try dsimp only)
          refine appendR_own (rows := ss (rd (allR s) k)) (hacc.keepN (by (repeat (first
                | exact Gr.refl _ _
                | refine Gr.addN ?_ _
                )))) (by rw [hrs, hrl]; simp only [List.length_take, List.length_drop, List.length_set, List.length_replicate]; omega) ?_
          intro acc' σ' ho' hg' hb'
          have hb2 := hg'.2 id _ (get_old hb1) hd
          have hd2 : acc'.bid ≠ some id := by
            rcases hb' with q | q
            · rw [q]; exact hd
            · rw [q]
              have := (List.getElem?_eq_some_iff.1 hb1).1
              intro e
              have := Option.some.inj e
              simp only [newB_length] at this
              omega
          repeat' (first
            | ((with_reducible refine Side.intro ?_) <;> (first
            | omega
            ))
            | ((conv => whnf) <;> (first
            | (with_reducible refine and_same ?_)
            | (with_reducible refine and_side ?_ ?_)
            | ((with_reducible apply blkAt_intro) ; (focus (first
            | ((repeat (first
            | assumption
            )); done)
            )) ; (focus (first | rfl | assumption | omega)) ; (try dsimp only))
            | (with_reducible refine SliceW.of ?_)
            ))
            )
          all_goals (conv => whnf)
          all_goals (try dsimp only)
          refine ⟨(k + 1, σ', acc'), ?_, rfl, ⟨by dsimp only; omega, hb2, ?_, hd2⟩, by dsimp only; omega⟩
          · dsimp only
            rfl
          · dsimp only
            rw [rd_succ, esk, ← ss_append]
            exact ho'
        · rw [decide_eq_true c1, decide_eq_false c2] at esk
          repeat' (first
            | ((with_reducible refine Side.intro ?_) <;> (first
            | omega
            | exact Nat.le_of_ble_eq_true rfl
            | exact rfl
            ))
            | ((conv => whnf) <;> (first
            | (with_reducible refine and_same ?_)
            | (with_reducible refine and_side ?_ ?_)
            | ((with_reducible apply Br.yes) ; (focus omega))
            | ((with_reducible apply Br.no) ; (focus omega))
            | ((with_reducible apply blkAt_intro) ; (focus (first
            | ((repeat (first
            | assumption
            | exact get_new
            )); done)
            )) ; (focus (first | rfl | assumption | omega)) ; (try dsimp only))
            | ((with_reducible apply nthR_is1) ; (focus assumption))
            | (with_reducible refine IaW.of ?_)
            | ((with_reducible apply nthR_left) ; (focus (first | omega | (simp only [List.length_append, List.length_cons, List.length_nil, List.length_take, List.length_drop, bs_length]; omega))))
            | (with_reducible refine lenR_rsl ?_)
            | (with_reducible refine rowsR_rsl ?_)
            ))
            )
          all_goals (conv => whnf)
          all_goals (try dsimp only)
          refine appendR_own (rows := ss (rd (allR s) k)) (hacc.keepN (by (repeat (first
                | exact Gr.refl _ _
                | refine Gr.addN ?_ _
                )))) (by rw [hrs, hrl]; simp only [List.length_take, List.length_drop, List.length_set, List.length_replicate]; omega) ?_
          intro acc' σ' ho' hg' hb'
          have hb2 := hg'.2 id _ (get_old hb1) hd
          have hd2 : acc'.bid ≠ some id := by
            rcases hb' with q | q
            · rw [q]; exact hd
            · rw [q]
              have := (List.getElem?_eq_some_iff.1 hb1).1
              intro e
              have := Option.some.inj e
              simp only [newB_length] at this
              omega
          repeat' (first
            | ((with_reducible refine Side.intro ?_) <;> (first
            | omega
            ))
            | ((conv => whnf) <;> (first
            | (with_reducible refine and_same ?_)
            | (with_reducible refine and_side ?_ ?_)
            | ((with_reducible apply blkAt_intro) ; (focus (first
            | ((repeat (first
            | assumption
            )); done)
            )) ; (focus (first | rfl | assumption | omega)) ; (try dsimp only))
            | (with_reducible refine SliceW.of ?_)
            ))
            )
          all_goals (conv => whnf)
          all_goals (try dsimp only)
          refine ⟨(k + 1, σ', acc'), ?_, rfl, ⟨by dsimp only; omega, hb2, ?_, hd2⟩, by dsimp only; omega⟩
          · dsimp only
            rfl
          · dsimp only
            rw [rd_succ, esk, ← ss_append]
            exact ho'
        · rw [decide_eq_false c1, decide_eq_true c2] at esk
          repeat' (first
            | ((with_reducible refine Side.intro ?_) <;> (first
            | omega
            | exact Nat.le_of_ble_eq_true rfl
            | exact rfl
            ))
            | ((conv => whnf) <;> (first
            | (with_reducible refine and_same ?_)
            | (with_reducible refine and_side ?_ ?_)
            | ((with_reducible apply Br.yes) ; (focus omega))
            | ((with_reducible apply Br.no) ; (focus omega))
            | ((with_reducible apply blkAt_intro) ; (focus (first
            | ((repeat (first
            | assumption
            | exact get_new
            )); done)
            )) ; (focus (first | rfl | assumption | omega)) ; (try dsimp only))
            | ((with_reducible apply nthR_is1) ; (focus assumption))
            | (with_reducible refine IaW.of ?_)
            | ((with_reducible apply nthR_left) ; (focus (first | omega | (simp only [List.length_append, List.length_cons, List.length_nil, List.length_take, List.length_drop, bs_length]; omega))))
            | (with_reducible refine lenR_rsl ?_)
            | (with_reducible refine rowsR_rsl ?_)
            ))
            )
          all_goals (conv => whnf)
          all_goals (try dsimp only)
          refine appendR_own (rows := ss (rd (allR s) k)) (hacc.keepN (by (repeat (first
                | exact Gr.refl _ _
                | refine Gr.addN ?_ _
                )))) (by rw [hrs, hrl]; simp only [List.length_take, List.length_drop, List.length_set, List.length_replicate]; omega) ?_
          intro acc' σ' ho' hg' hb'
          have hb2 := hg'.2 id _ (get_old hb1) hd
          have hd2 : acc'.bid ≠ some id := by
            rcases hb' with q | q
            · rw [q]; exact hd
            · rw [q]
              have := (List.getElem?_eq_some_iff.1 hb1).1
              intro e
              have := Option.some.inj e
              simp only [newB_length] at this
              omega
          repeat' (first
            | ((with_reducible refine Side.intro ?_) <;> (first
            | omega
            ))
            | ((conv => whnf) <;> (first
            | (with_reducible refine and_same ?_)
            | (with_reducible refine and_side ?_ ?_)
            | ((with_reducible apply blkAt_intro) ; (focus (first
            | ((repeat (first
            | assumption
            )); done)
            )) ; (focus (first | rfl | assumption | omega)) ; (try dsimp only))
            | (with_reducible refine SliceW.of ?_)
            ))
            )
          all_goals (conv => whnf)
          all_goals (try dsimp only)
          refine ⟨(k + 1, σ', acc'), ?_, rfl, ⟨by dsimp only; omega, hb2, ?_, hd2⟩, by dsimp only; omega⟩
          · dsimp only
            rfl
          · dsimp only
            rw [rd_succ, esk, ← ss_append]
            exact ho'
        · rw [decide_eq_false c1, decide_eq_false c2] at esk
          repeat' (first
            | ((with_reducible refine Side.intro ?_) <;> (first
            | omega
            | exact Nat.le_of_ble_eq_true rfl
            | exact rfl
            ))
            | ((conv => whnf) <;> (first
            | (with_reducible refine and_same ?_)
            | (with_reducible refine and_side ?_ ?_)
            | ((with_reducible apply Br.yes) ; (focus omega))
            | ((with_reducible apply Br.no) ; (focus omega))
            | ((with_reducible apply blkAt_intro) ; (focus (first
            | ((repeat (first
            | assumption
            | exact get_new
            )); done)
            )) ; (focus (first | rfl | assumption | omega)) ; (try dsimp only))
            | ((with_reducible apply nthR_is1) ; (focus assumption))
            | (with_reducible refine IaW.of ?_)
            | ((with_reducible apply nthR_left) ; (focus (first | omega | (simp only [List.length_append, List.length_cons, List.length_nil, List.length_take, List.length_drop, bs_length]; omega))))
            | (with_reducible refine lenR_rsl ?_)
            | (with_reducible refine rowsR_rsl ?_)
            ))
            )
          all_goals (conv => whnf)
          all_goals (try dsimp only)
          refine appendR_own (rows := ss (rd (allR s) k)) (hacc.keepN (by (repeat (first
                | exact Gr.refl _ _
                | refine Gr.addN ?_ _
                )))) (by rw [hrs, hrl]; simp only [List.length_take, List.length_drop, List.length_set, List.length_replicate]; omega) ?_
          intro acc' σ' ho' hg' hb'
          have hb2 := hg'.2 id _ (get_old hb1) hd
          have hd2 : acc'.bid ≠ some id := by
            rcases hb' with q | q
            · rw [q]; exact hd
            · rw [q]
              have := (List.getElem?_eq_some_iff.1 hb1).1
              intro e
              have := Option.some.inj e
              simp only [newB_length] at this
              omega
          repeat' (first
            | ((with_reducible refine Side.intro ?_) <;> (first
            | omega
            ))
            | ((conv => whnf) <;> (first
            | (with_reducible refine and_same ?_)
            | (with_reducible refine and_side ?_ ?_)
            | ((with_reducible apply blkAt_intro) ; (focus (first
            | ((repeat (first
            | assumption
            )); done)
            )) ; (focus (first | rfl | assumption | omega)) ; (try dsimp only))
            | (with_reducible refine SliceW.of ?_)
            ))
            )
          all_goals (conv => whnf)
          all_goals (try dsimp only)
          refine ⟨(k + 1, σ', acc'), ?_, rfl, ⟨by dsimp only; omega, hb2, ?_, hd2⟩, by dsimp only; omega⟩
          · dsimp only
            rfl
          · dsimp only
            rw [rd_succ, esk, ← ss_append]
            exact ho'
      · have hkk : k = (allR s).length / 4 := by omega
        subst hkk
        rw [← eL] at hacc hrl hrs
        repeat' (first
          | ((conv => whnf) <;> (first
          | (with_reducible refine and_same ?_)
          | ((with_reducible apply Br.no) ; (focus omega))
          | ((with_reducible apply blkAt_intro) ; (focus (first
          | ((repeat (first
          | assumption
          )); done)
          )) ; (focus (first | rfl | assumption | omega)) ; (try dsimp only))
          | (with_reducible refine lenR_rsl ?_)
          ))
          )
        all_goals (conv => whnf)
        all_goals (try dsimp only)
        refine Bytes8_call (rdL s) (by omega) (Looks.ownss hacc) fun H2 y hg2 hy hn2 => ?_
        cases ho : okL (rdL s)
        · obtain ⟨r1, r2⟩ := rdOk_no ho
          rw [r1, r2, show btE (rdL s) = 1 from by simp [btE, ho]]
          repeat' (first
            | ((with_reducible refine Side.intro ?_) <;> (first
            | (simp only [List.append_nil, List.nil_append, List.map_nil]; first | exact List.nodup_nil | exact nodup_bid1 _ | exact nodup_bid2 (by assumption))
            | ((first | refine fresh_tup ?_ | skip); (repeat (first | exact fresh_ss _ |  exact FreshA.sl _ _ FreshA_bs | exact FreshA.sl _ _ FreshA_is | exact FreshA.nils | exact FreshA.nilp | exact FreshA.int _ _ | exact FreshA.bool _ | exact FreshA.str _ | exact fresh_nil | refine fresh_cons ?_ ?_ | with_reducible refine fresh_aggR ?_ | with_reducible refine fresh_agg ?_ | with_reducible exact fresh_nilA | with_reducible refine fresh_consA ?_ ?_)); done)
            ))
            | ((conv => whnf) <;> (first
            | (with_reducible refine and_same ?_)
            | (with_reducible refine and_side ?_ ?_)
            | ((with_reducible apply Br.yes) ; (focus omega))
            | (with_reducible refine NOut.lit ?_)
            ))
            )
          all_goals (conv => whnf)
          all_goals (try dsimp only)
          exact ret_nilt rfl
        · rw [show btE (rdL s) = 0 from by simp [btE, ho]]
          have hbl := btR_length ho
          repeat' (first
            | ((conv => whnf) <;> (first
            | (with_reducible refine and_same ?_)
            | ((with_reducible apply Br.no) ; (focus omega))
            ))
            )
          all_goals (conv => whnf)
          all_goals (try dsimp only)
          refine Equal_call _ _ (by omega) (by omega) (Looks.ownbs hy) (.bs _ _ _) fun H3 hg3 => ?_
          by_cases he : btR (rdL s) = s
          · obtain ⟨r1, r2⟩ := rdOk_yes hlen ho he
            rw [r1, r2, decide_eq_true he]
            replace hacc := hacc.keepN (show Gr σ H3 none from by (repeat (first
                  | exact Gr.trans (by assumption) (by assumption)
                  )))
            repeat' (first
              | ((with_reducible refine Side.intro ?_) <;> (first
              | (simp only [List.append_nil, List.nil_append, List.map_nil]; first | exact List.nodup_nil | exact nodup_bid1 _ | exact nodup_bid2 (by assumption))
              | ((first | refine fresh_tup ?_ | skip); (repeat (first | exact fresh_ss _ |  exact FreshA.sl _ _ FreshA_bs | exact FreshA.sl _ _ FreshA_is | exact FreshA.nils | exact FreshA.nilp | exact FreshA.int _ _ | exact FreshA.bool _ | exact FreshA.str _ | exact fresh_nil | refine fresh_cons ?_ ?_ | with_reducible refine fresh_aggR ?_ | with_reducible refine fresh_agg ?_ | with_reducible exact fresh_nilA | with_reducible refine fresh_consA ?_ ?_)); done)
              ))
              | ((conv => whnf) <;> (first
              | (with_reducible refine and_side ?_ ?_)
              | ((with_reducible apply NOut.own) ; (focus assumption))
              | (with_reducible refine NOut.lit ?_)
              ))
              )
            all_goals (conv => whnf)
            all_goals (try dsimp only)
            exact ret_same rfl
          · obtain ⟨r1, r2⟩ := rdOk_ne he
            rw [r1, r2, decide_eq_false he]
            repeat' (first
              | ((with_reducible refine Side.intro ?_) <;> (first
              | (simp only [List.append_nil, List.nil_append, List.map_nil]; first | exact List.nodup_nil | exact nodup_bid1 _ | exact nodup_bid2 (by assumption))
              | ((first | refine fresh_tup ?_ | skip); (repeat (first | exact fresh_ss _ |  exact FreshA.sl _ _ FreshA_bs | exact FreshA.sl _ _ FreshA_is | exact FreshA.nils | exact FreshA.nilp | exact FreshA.int _ _ | exact FreshA.bool _ | exact FreshA.str _ | exact fresh_nil | refine fresh_cons ?_ ?_ | with_reducible refine fresh_aggR ?_ | with_reducible refine fresh_agg ?_ | with_reducible exact fresh_nilA | with_reducible refine fresh_consA ?_ ?_)); done)
              ))
              | ((conv => whnf) <;> (first
              | (with_reducible refine and_side ?_ ?_)
              | (with_reducible refine NOut.lit ?_)
              ))
              )
            all_goals (conv => whnf)
            all_goals (try dsimp only)
            exact ret_nilt rfl
  · obtain ⟨r1, r2⟩ := rdOk_lg hlen
    rw [r1, r2]
    repeat' (first
      | ((with_reducible refine Side.intro ?_) <;> (first
      | (simp only [List.append_nil, List.nil_append, List.map_nil]; first | exact List.nodup_nil | exact nodup_bid1 _ | exact nodup_bid2 (by assumption))
      | ((first | refine fresh_tup ?_ | skip); (repeat (first | exact fresh_ss _ |  exact FreshA.sl _ _ FreshA_bs | exact FreshA.sl _ _ FreshA_is | exact FreshA.nils | exact FreshA.nilp | exact FreshA.int _ _ | exact FreshA.bool _ | exact FreshA.str _ | exact fresh_nil | refine fresh_cons ?_ ?_ | with_reducible refine fresh_aggR ?_ | with_reducible refine fresh_agg ?_ | with_reducible exact fresh_nilA | with_reducible refine fresh_consA ?_ ?_)); done)
      ))
      | ((conv => whnf) <;> (first
      | (with_reducible refine and_same ?_)
      | (with_reducible refine and_side ?_ ?_)
      | ((with_reducible apply Br.yes) ; (focus omega))
      | (with_reducible refine NOut.lit ?_)
      | (with_reducible refine lenR_sl ?_)
      ))
      )
    all_goals (conv => whnf)
    all_goals (try dsimp only)
    exact ret_nilt rfl
theorem Read8_call (s : List UInt8) (hs : s.length ≤ 4611686018) {σ : AH} {x : AV} (hx : Looks σ x (.sl 1 (bs s) false)) {Q : AV → AH → Prop} (h : ∀ σ' y, Gr σ σ' none → Own σ' 5 y (ss (rdR s)) → New σ y → Q (.tup [y, .bool (rdOk s)]) σ') : CallS Try.prog F.table_Read [x] σ Q :=
  call_sl1 (Read_ok8 s hs) (.cons hx .nil) rfl h
end Go.Proofs.Ytbmocdcfcdmmkaa
