import Derived.Test.YtabdieanlhecoaaPslab
import Derived.Test.YtabdieanlhecoaaPwcalls
namespace Go.Proofs.Ytabdieanlhecoaa
open Go Go.Proofs.Ytabdieanlhecoaa.V
set_option maxRecDepth 20000
attribute [local irreducible] CallS AOK AOKn ALoop Side Ref.ok
def dat (D : List (List UInt8)) : List (List AV) := D.map fun d => [.sl 1 (bs d) false]
theorem dat_length (D : List (List UInt8)) : (dat D).length = D.length := by simp [dat]
theorem nthR_dat {D : List (List UInt8)} {k : Nat} {K : List AV → Prop} {d : List UInt8} (h : D[k]? = some d) (hk : K [.sl 1 (bs d) false]) : nthR (dat D) k K :=
  nthR_intro (x := [.sl 1 (bs d) false]) (by simp [dat, h]) hk
def nbB (n : Int) : Bool := decide (0 ≤ n ∧ n ≤ 64)
theorem nb_val (σ : AH) (n : Int) (Q : AV → AH → Prop) (h : Q (.bool (nbB n)) σ) : CallS Try.prog F.slab_neighbor [.int .i64 n] σ Q := by
  refine call_of_body mixed fc_slab_neighbor_ok (by simp [fc_slab_neighbor]) ?_
  by_cases hn : 0 ≤ n ∧ n ≤ 64
  · rw [nbB, decide_eq_true hn] at h
    repeat' (first
      | ((conv => whnf) <;> (first
      | (with_reducible refine and_same ?_)
      | ((with_reducible apply Br.yes) ; (focus omega))
      ))
      )
    all_goals (conv => whnf)
    all_goals (try dsimp only)
    all_goals first
      | exact h
      | omega
  · rw [nbB, decide_eq_false hn] at h
    repeat' (first
      | ((conv => whnf) <;> (first
      | (with_reducible refine and_same ?_)
      | ((with_reducible apply Br.no) ; (focus omega))
      | (with_reducible refine Br.mk (fun _ => ?_) (fun _ => ?_))
      ))
      )
    all_goals (conv => whnf)
    all_goals (try dsimp only)
    all_goals first
      | exact h
      | omega
def cof (c k : Int) : Nat := (4 + k * cw c).toNat * 8
theorem cof_bd {c k : Int} (h : ceOk c k = true) : (cof c k : Int) = (4 + k * cw c) * 8 ∧ 32 ≤ cof c k ∧ cof c k + 8 * (cw c).toNat ≤ 256 := by
  simp only [ceOk, Bool.and_eq_true, decide_eq_true_eq] at h
  obtain ⟨h1, h2⟩ := h
  unfold cof
  rcases cl_six h1 with rfl | rfl | rfl | rfl | rfl | rfl
  all_goals
    simp only [cw, cn] at h2 ⊢
    simp only [show ((1 : Int) = 0) = False from by simp, show ((2 : Int) = 0) = False from by simp, show ((2 : Int) = 1) = False from by simp, show ((3 : Int) = 0) = False from by simp, show ((3 : Int) = 1) = False from by simp, show ((3 : Int) = 2) = False from by simp, show ((4 : Int) = 0) = False from by simp, show ((4 : Int) = 1) = False from by simp, show ((4 : Int) = 2) = False from by simp, show ((4 : Int) = 3) = False from by simp, show ((5 : Int) = 0) = False from by simp, show ((5 : Int) = 1) = False from by simp, show ((5 : Int) = 2) = False from by simp, show ((5 : Int) = 3) = False from by simp, show ((5 : Int) = 4) = False from by simp, if_true, if_false] at h2 ⊢
    refine ⟨by omega, by omega, by omega⟩
theorem cellBytes_own (σ : AH) (id gen : Nat) (b : Blk) (c k : Int) (h6 : ceOk c k = true) (hb : σ[id]? = some b) (hg : b.gen = gen) (hs : b.sz = 1) (Q : AV → AH → Prop)
    (h : ∀ σ', Gr σ σ' none → Q (.rsl id gen (cof c k) (8 * (cw c).toNat) none) σ') : CallS Try.prog F.slab_cellBytes [.rsl id gen 0 256 none, .int .i64 c, .int .i64 k] σ Q := by
  obtain ⟨e1, e2, e3⟩ := cof_bd h6
  have hc := cn_bd c
  have eV : ceV c k = 4 + k * cw c := by rw [ceV, h6, if_pos rfl]
  refine call_of_body mixed fc_slab_cellBytes_ok (by simp [fc_slab_cellBytes]) ?_
  skip
  all_goals (conv => whnf)
  all_goals (try dsimp only)
  refine Cell_call c k fun H1 hg1 => ?_
  rw [eV]
  replace hb := hg1.2 id _ (by (first
        | ((repeat (first
        | assumption
        )); done)
        )) (by simp)
  skip
  all_goals (conv => whnf)
  all_goals (try dsimp only)
  refine Words_call c fun H2 hg2 => ?_
  replace hb := hg2.2 id _ (by (first
        | ((repeat (first
        | assumption
        )); done)
        )) (by simp)
  generalize hX : 4 + k * cw c = X at *
  repeat' (first
    | ((with_reducible refine Side.intro ?_) <;> (first
    | omega
    ))
    | ((conv => whnf) <;> (first
    | (with_reducible refine and_same ?_)
    | (with_reducible refine and_side ?_ ?_)
    | ((with_reducible apply Br.yes) ; (focus omega))
    | ((with_reducible apply blkAt_intro) ; (focus (first
    | ((repeat (first
    | assumption
    )); done)
    )) ; (focus (first | rfl | assumption | omega)) ; (try dsimp only))
    | (with_reducible refine SliceW.of ?_)
    ))
    )
  all_goals (conv => whnf)
  all_goals (try dsimp only)
  rw [show 0 + (X * 8).toNat = cof c k from by omega, show ((X + cw c) * 8).toNat - (X * 8).toNat = 8 * (cw c).toNat from by omega]
  exact h H2 (hg1.trans hg2)
/-! ### A slab in bytes -/
def putC (c : Int) (p : List UInt8) (k : Int) (d : List UInt8) : List UInt8 := p.take (cof c k) ++ d ++ p.drop (cof c k + d.length)
def pgF (c : Int) : List UInt8 → List Int → List (List UInt8) → List UInt8
  | p, k :: r, d :: D => pgF c (putC c p k d) r D
  | p, _, _ => p
def sh (c : Int) (l : List Int) (nx pv : Int) : List Int := [c + 1, (sumv l : Nat), nx, pv]
def pg0 (c : Int) (l : List Int) (nx pv : Int) : List UInt8 := cat (sh c l nx pv) ++ List.replicate 224 0
def swB (c : Int) (l : List Int) (D : List (List UInt8)) (nx pv : Int) : Bool := btOk c l && (decide (0 < l.length ∧ l.length = D.length) && (nbB nx && nbB pv))
def fits (c : Int) (D : List (List UInt8)) : Bool := D.all fun d => decide (d.length ≤ 8 * (cw c).toNat)
def swOk (c : Int) (l : List Int) (D : List (List UInt8)) (nx pv : Int) : Bool := swB c l D nx pv && fits c D
def swR (c : Int) (l : List Int) (D : List (List UInt8)) (nx pv : Int) : List UInt8 := if swOk c l D nx pv then pgF c (pg0 c l nx pv) l D else []
def swE (c : Int) (l : List Int) (D : List (List UInt8)) (nx pv : Int) : Int := if swOk c l D nx pv then 0 else 1
theorem swB_iff {c : Int} {l : List Int} {D : List (List UInt8)} {nx pv : Int} : swB c l D nx pv = true ↔ (btOk c l = true ∧ 0 < l.length ∧ l.length = D.length ∧ nbB nx = true ∧ nbB pv = true) := by
  simp [swB, and_assoc]
theorem putC_length {c : Int} {p : List UInt8} {k : Int} {d : List UInt8} (h : cof c k + d.length ≤ p.length) : (putC c p k d).length = p.length := by
  unfold putC
  simp only [List.length_append, List.length_take, List.length_drop]
  omega
theorem incr_mem (n : Int) : ∀ (l : List Int) (a : Int), incr n a l = true → ∀ k, k ∈ l → a < k ∧ k < n
  | [], a, h, k, hk => by cases hk
  | x :: r, a, h, k, hk => by
    simp only [incr, Bool.and_eq_true, decide_eq_true_eq] at h
    rcases List.mem_cons.1 hk with rfl | hk
    · exact h.1
    · have := incr_mem n r x h.2 k hk
      omega
theorem bt_ce {c : Int} {l : List Int} (h : btOk c l = true) {k : Int} (hk : k ∈ l) : ceOk c k = true := by
  simp only [btOk, Bool.and_eq_true] at h
  have := incr_mem _ _ _ h.2 k hk
  rw [ceOk, h.1, decide_eq_true (by omega)]; rfl
theorem pgF_take (c : Int) : ∀ (l : List Int) (D : List (List UInt8)) (p : List UInt8) (i : Nat) (k : Int) (d : List UInt8), l[i]? = some k → D[i]? = some d → pgF c p (l.take (i + 1)) (D.take (i + 1)) = putC c (pgF c p (l.take i) (D.take i)) k d
  | [], D, p, i, k, d, hl, hd => by simp at hl
  | x :: r, [], p, i, k, d, hl, hd => by simp at hd
  | x :: r, y :: D, p, 0, k, d, hl, hd => by
    simp at hl hd
    subst hl; subst hd
    simp [pgF]
  | x :: r, y :: D, p, i + 1, k, d, hl, hd => by
    simp only [List.take_succ_cons, pgF]
    exact pgF_take c r D _ i k d (by simpa using hl) (by simpa using hd)
theorem sumv_bd {n : Int} (hn : n ≤ 14) : ∀ (l : List Int) (a : Int), -1 ≤ a ∧ a ≤ 13 → incr n a l = true → sumv l + 2 ^ (a + 1).toNat ≤ 16384
  | [], a, h, hi => by
    have h2 : 2 ^ (a + 1).toNat ≤ 2 ^ 14 := Nat.pow_le_pow_right (by omega) (by omega)
    have e : 2 ^ 14 = 16384 := by decide
    simp only [sumv]; omega
  | k :: r, a, h, hi => by
    simp only [incr, Bool.and_eq_true, decide_eq_true_eq] at hi
    have h1 := sumv_bd hn r k (by omega) hi.2
    have h2 : 2 ^ (a + 1).toNat ≤ 2 ^ k.toNat := Nat.pow_le_pow_right (by omega) (by omega)
    have h3 : 2 ^ (k + 1).toNat = 2 ^ k.toNat * 2 := by rw [show (k + 1).toNat = k.toNat + 1 from by omega, Nat.pow_succ]
    simp only [sumv]; omega
theorem bt_bd {c : Int} {l : List Int} (h : btOk c l = true) : sumv l < 16384 ∧ 0 ≤ c ∧ c < 6 := by
  simp only [btOk, Bool.and_eq_true] at h
  have h1 := sumv_bd (cn_bd c).2.1 l (-1) (by omega) h.2
  have h2 : 0 < 2 ^ ((-1 : Int) + 1).toNat := Nat.two_pow_pos _
  have h3 : 0 ≤ c ∧ c < 6 := by simpa [clOk] using h.1
  omega
theorem nbB_iff {n : Int} : nbB n = true ↔ (0 ≤ n ∧ n ≤ 64) := by simp [nbB]
theorem sh_may {c : Int} {l : List Int} {nx pv : Int} (h1 : btOk c l = true) (h2 : nbB nx = true) (h3 : nbB pv = true) : (sh c l nx pv).all mayW = true := by
  have hb := bt_bd h1
  have a2 := nbB_iff.1 h2
  have a3 := nbB_iff.1 h3
  simp only [sh, List.all_cons, List.all_nil, Bool.and_true, Bool.and_eq_true, mayW, decide_eq_true_eq]
  refine ⟨by omega, by omega, by omega, by omega⟩
theorem sh_len (c : Int) (l : List Int) (nx pv : Int) : (cat (sh c l nx pv)).length = 32 := by rw [cat_length]; rfl
theorem pg0_len (c : Int) (l : List Int) (nx pv : Int) : (pg0 c l nx pv).length = 256 := by rw [pg0, List.length_append, sh_len, List.length_replicate]
theorem Looks.is (σ : AH) (l : List Int) (fr : Bool) : Looks σ (.sl 1 (V.is l) fr) (.sl 1 (V.is l) false) := by
  refine .same ?_
  simp [derefV, derefC, AV.flat, untag, untagLL_is]
theorem head_rows (t : List UInt8) (h : t.length = 32) : List.take 0 (List.replicate (Int.toNat 256) [AV.int .u8 0]) ++ List.take (min (bs t).length (Int.toNat 256)) (bs t) ++ List.drop (0 + min (bs t).length (Int.toNat 256)) (List.replicate (Int.toNat 256) [AV.int .u8 0]) = bs (t ++ List.replicate 224 0) := by
  have e0 : (bs t).length = 32 := by rw [bs_length, h]
  have e1 : min (bs t).length (Int.toNat 256) = 32 := by rw [e0]; rfl
  rw [e1, List.take_of_length_le (l := bs t) (by omega), List.take_zero, List.nil_append, List.drop_replicate, show Int.toNat 256 - (0 + 32) = 224 from rfl, bs_replicate, bs_append]
theorem put_rows (c k : Int) (p d : List UInt8) (m : Nat) (h : d.length ≤ m) : List.take (cof c k) (bs p) ++ List.take (min d.length m) (bs d) ++ List.drop (cof c k + min d.length m) (bs p) = bs (putC c p k d) := by
  have e1 : min d.length m = d.length := by omega
  rw [e1, List.take_of_length_le (l := bs d) (by rw [bs_length]; exact Nat.le_refl _), bs_take, bs_drop, bs_append, bs_append]
  rfl
set_option maxHeartbeats 4000000 in
theorem SWrite_ok (c : Int) (l : List Int) (D : List (List UInt8)) (nx pv : Int) (hl : l.length ≤ 4611686018) (hD : D.length ≤ 4611686018) (hd : ∀ d, d ∈ D → d.length ≤ 4611686018) : AOKn Try.prog F.slab_Write [.int .i64 c, .sl 1 (is l) false, .sl 1 (dat D) false, .int .i64 nx, .int .i64 pv] fun y => y = .tup [.sl 1 (bs (swR c l D nx pv)) true, .int .i64 (swE c l D nx pv)] := by
  have hln := is_length l
  have hDn := dat_length D
  refine AOKn.by_steps mixed fc_slab_Write_ok (by simp [fc_slab_Write]) ?_
  skip
  all_goals (conv => whnf)
  all_goals (try dsimp only)
  refine call_two (Bits_ok c l hl) (.cons (.int _ _ _) (.cons (Looks.is _ _ _) .nil)) rfl rfl fun H1 hg1 => ?_
  cases hB : swB c l D nx pv
  · have e : swOk c l D nx pv = false := by rw [swOk, hB]; rfl
    rw [swR, swE, e]
    cases q1 : btOk c l
    · rw [show btEr c l = 1 from by rw [btEr, q1]; rfl]
      repeat' (first
        | ((with_reducible refine Side.intro ?_) <;> (first
        | (simp only [List.append_nil, List.nil_append, List.map_nil]; first | exact List.nodup_nil | exact nodup_bid1 _ | exact nodup_bid2 (by assumption))
        | ((first | refine fresh_tup ?_ | skip); (repeat (first |  exact FreshA.sl _ _ FreshA_bs | exact FreshA.sl _ _ FreshA_is | exact FreshA.nils | exact FreshA.nilp | exact FreshA.int _ _ | exact FreshA.bool _ | exact FreshA.str _ | exact fresh_nil | refine fresh_cons ?_ ?_ | with_reducible refine fresh_aggR ?_ | with_reducible refine fresh_agg ?_ | with_reducible exact fresh_nilA | with_reducible refine fresh_consA ?_ ?_)); done)
        ))
        | ((conv => whnf) <;> (first
        | (with_reducible refine and_same ?_)
        | (with_reducible refine and_side ?_ ?_)
        | ((with_reducible apply Br.yes) ; (focus omega))
        | (with_reducible refine NOut.lit ?_)
        ))
        )
      all_goals (conv => whnf)
      all_goals (try dsimp only)
      exact ret_nilt rfl
    · rw [show btEr c l = 0 from by rw [btEr, q1]; rfl]
      by_cases q2 : 0 < l.length ∧ l.length = D.length
      · cases q4 : nbB nx
        · repeat' (first
            | ((conv => whnf) <;> (first
            | (with_reducible refine and_same ?_)
            | ((with_reducible apply Br.no) ; (focus omega))
            | (with_reducible refine lenR_sl ?_)
            ))
            )
          all_goals (conv => whnf)
          all_goals (try dsimp only)
          refine nb_val _ _ _ ?_
          rw [q4]
          repeat' (first
            | ((with_reducible refine Side.intro ?_) <;> (first
            | (simp only [List.append_nil, List.nil_append, List.map_nil]; first | exact List.nodup_nil | exact nodup_bid1 _ | exact nodup_bid2 (by assumption))
            | ((first | refine fresh_tup ?_ | skip); (repeat (first |  exact FreshA.sl _ _ FreshA_bs | exact FreshA.sl _ _ FreshA_is | exact FreshA.nils | exact FreshA.nilp | exact FreshA.int _ _ | exact FreshA.bool _ | exact FreshA.str _ | exact fresh_nil | refine fresh_cons ?_ ?_ | with_reducible refine fresh_aggR ?_ | with_reducible refine fresh_agg ?_ | with_reducible exact fresh_nilA | with_reducible refine fresh_consA ?_ ?_)); done)
            ))
            | ((conv => whnf) <;> (first
            | (with_reducible refine and_side ?_ ?_)
            | (with_reducible refine NOut.lit ?_)
            ))
            )
          all_goals (conv => whnf)
          all_goals (try dsimp only)
          exact ret_nilt rfl
        · cases q5 : nbB pv
          · repeat' (first
              | ((conv => whnf) <;> (first
              | (with_reducible refine and_same ?_)
              | ((with_reducible apply Br.no) ; (focus omega))
              | (with_reducible refine lenR_sl ?_)
              ))
              )
            all_goals (conv => whnf)
            all_goals (try dsimp only)
            refine nb_val _ _ _ ?_
            rw [q4]
            skip
            all_goals (conv => whnf)
            all_goals (try dsimp only)
            refine nb_val _ _ _ ?_
            rw [q5]
            repeat' (first
              | ((with_reducible refine Side.intro ?_) <;> (first
              | (simp only [List.append_nil, List.nil_append, List.map_nil]; first | exact List.nodup_nil | exact nodup_bid1 _ | exact nodup_bid2 (by assumption))
              | ((first | refine fresh_tup ?_ | skip); (repeat (first |  exact FreshA.sl _ _ FreshA_bs | exact FreshA.sl _ _ FreshA_is | exact FreshA.nils | exact FreshA.nilp | exact FreshA.int _ _ | exact FreshA.bool _ | exact FreshA.str _ | exact fresh_nil | refine fresh_cons ?_ ?_ | with_reducible refine fresh_aggR ?_ | with_reducible refine fresh_agg ?_ | with_reducible exact fresh_nilA | with_reducible refine fresh_consA ?_ ?_)); done)
              ))
              | ((conv => whnf) <;> (first
              | (with_reducible refine and_side ?_ ?_)
              | (with_reducible refine NOut.lit ?_)
              ))
              )
            all_goals (conv => whnf)
            all_goals (try dsimp only)
            exact ret_nilt rfl
          · rw [swB_iff.2 ⟨q1, q2.1, q2.2, q4, q5⟩] at hB
            cases hB
      · repeat' (first
          | ((with_reducible refine Side.intro ?_) <;> (first
          | (simp only [List.append_nil, List.nil_append, List.map_nil]; first | exact List.nodup_nil | exact nodup_bid1 _ | exact nodup_bid2 (by assumption))
          | ((first | refine fresh_tup ?_ | skip); (repeat (first |  exact FreshA.sl _ _ FreshA_bs | exact FreshA.sl _ _ FreshA_is | exact FreshA.nils | exact FreshA.nilp | exact FreshA.int _ _ | exact FreshA.bool _ | exact FreshA.str _ | exact fresh_nil | refine fresh_cons ?_ ?_ | with_reducible refine fresh_aggR ?_ | with_reducible refine fresh_agg ?_ | with_reducible exact fresh_nilA | with_reducible refine fresh_consA ?_ ?_)); done)
          ))
          | ((conv => whnf) <;> (first
          | (with_reducible refine and_same ?_)
          | (with_reducible refine and_side ?_ ?_)
          | ((with_reducible apply Br.yes) ; (focus omega))
          | ((with_reducible apply Br.no) ; (focus omega))
          | (with_reducible refine Br.mk (fun _ => ?_) (fun _ => ?_))
          | (with_reducible refine NOut.lit ?_)
          | (with_reducible refine lenR_sl ?_)
          ))
          )
        all_goals (conv => whnf)
        all_goals (try dsimp only)
        all_goals first
          | omega
          | exact ret_nilt rfl
  · obtain ⟨q1, q2, q3, q4, q5⟩ := swB_iff.1 hB
    have hbb := bt_bd q1
    have hmay := sh_may q1 q4 q5
    have hR : ofR (sh c l nx pv) = cat (sh c l nx pv) := by rw [ofR, hmay, if_pos rfl]
    have hsl := sh_len c l nx pv
    have hsb := bs_length (cat (sh c l nx pv))
    rw [show btEr c l = 0 from by rw [btEr, q1]; rfl, show btV c l = (sumv l : Nat) from by rw [btV, q1]; rfl]
    repeat' (first
      | ((conv => whnf) <;> (first
      | (with_reducible refine and_same ?_)
      | ((with_reducible apply Br.no) ; (focus omega))
      | (with_reducible refine lenR_sl ?_)
      ))
      )
    all_goals (conv => whnf)
    all_goals (try dsimp only)
    refine nb_val _ _ _ ?_
    rw [q4]
    skip
    all_goals (conv => whnf)
    all_goals (try dsimp only)
    refine nb_val _ _ _ ?_
    rw [q5]
    repeat' (first
      | ((with_reducible refine Side.intro ?_) <;> (first
      | omega
      | exact Nat.le_of_ble_eq_true rfl
      | exact rfl
      ))
      | ((conv => whnf) <;> (first
      | (with_reducible refine and_same ?_)
      | (with_reducible refine and_side ?_ ?_)
      | ((with_reducible apply Br.yes) ; (focus omega))
      ))
      )
    all_goals (conv => whnf)
    all_goals (try dsimp only)
    refine Of_call (sh c l nx pv) (by simp [sh]) (Looks.ownis (.mk' (sp := []) (by (first
          | ((repeat (first
          | exact get_new
          )); done)
          )) rfl rfl)) fun H2 y hg2 hy hn2 => ?_
    rw [hR] at hy
    have bo := hg2.2 H1.length _ (by (first
          | ((repeat (first
          | exact get_new
          | apply get_old
          )); done)
          )) (by simp)
    repeat' (first
      | ((with_reducible refine Side.intro ?_) <;> (first
      | exact Nat.le_of_ble_eq_true rfl
      ))
      | ((conv => whnf) <;> (first
      | (with_reducible refine and_same ?_)
      | (with_reducible refine and_side ?_ ?_)
      | ((with_reducible apply blkAt_intro) ; (focus (first
      | ((repeat (first
      | assumption
      )); done)
      )) ; (focus (first | rfl | assumption | omega)) ; (try dsimp only))
      | ((with_reducible apply rowsR_own) ; (focus assumption))
      | (with_reducible refine CopyW.of ?_)
      | (with_reducible refine lenR_sl ?_)
      ))
      )
    all_goals (conv => whnf)
    all_goals (try dsimp only)
    rw [head_rows _ hsl]
    refine loop_at (α := Nat × AH) (fun a => [(66, .int .i64 a.1)]) (fun a => a.2) (fun a => a.1 ≤ l.length ∧ (∀ d, d ∈ D.take a.1 → d.length ≤ 8 * (cw c).toNat) ∧ (pgF c (pg0 c l nx pv) (l.take a.1) (D.take a.1)).length = 256 ∧ a.2[H1.length]? = some { sz := 1, els := bs (pgF c (pg0 c l nx pv) (l.take a.1) (D.take a.1)), gen := 0, wr := true, pure := true }) (fun a => l.length - a.1) (0, _) ⟨by dsimp only; omega, by simp, pg0_len c l nx pv, get_set bo⟩ rfl rfl ?_
    rintro ⟨i, σ⟩ ⟨hi, hfit, hlen, hb⟩
    dsimp only at hi hfit hlen hb ⊢
    have hswOk : swOk c l D nx pv = fits c D := by rw [swOk, hB, Bool.true_and]
    by_cases hlt : i < l.length
    · obtain ⟨k, hk, hk'⟩ := getN hlt
      obtain ⟨d, hdd, hdd'⟩ := getN (l := D) (k := i) (by omega)
      have hce := bt_ce q1 (List.mem_of_getElem? hk')
      obtain ⟨c1, c2, c3⟩ := cof_bd hce
      have hdl := bs_length d
      have hstep := pgF_take c l D (pg0 c l nx pv) i k d hk' hdd'
      have hdm := hd d (List.mem_of_getElem? hdd')
      have hcw := cn_bd c
      repeat' (first
        | ((with_reducible refine Side.intro ?_) <;> (first
        | omega
        ))
        | ((conv => whnf) <;> (first
        | (with_reducible refine and_same ?_)
        | ((with_reducible apply Br.yes) ; (focus omega))
        | ((with_reducible apply nthR_is1) ; (focus assumption))
        | (with_reducible refine ia_sl ?_ ?_)
        ))
        )
      all_goals (conv => whnf)
      all_goals (try dsimp only)
      refine cellBytes_own σ H1.length 0 _ c k hce hb rfl rfl _ ?_
      intro σ1 hg1
      replace hb := hg1.2 H1.length _ (by (first
            | ((repeat (first
            | assumption
            )); done)
            )) (by simp)
      by_cases hfd : d.length ≤ 8 * (cw c).toNat
      · have hpl := putC_length (c := c) (k := k) (d := d) (p := pgF c (pg0 c l nx pv) (l.take i) (D.take i)) (by omega)
        generalize pgF c (pg0 c l nx pv) (l.take i) (D.take i) = P at *
        have hPl := bs_length P
        repeat' (first
          | ((with_reducible refine Side.intro ?_) <;> (first
          | omega
          ))
          | ((conv => whnf) <;> (first
          | (with_reducible refine and_same ?_)
          | (with_reducible refine and_side ?_ ?_)
          | ((with_reducible apply Br.yes) ; (focus omega))
          | ((with_reducible apply Br.no) ; (focus omega))
          | ((with_reducible apply blkAt_intro) ; (focus (first
          | ((repeat (first
          | assumption
          )); done)
          )) ; (focus (first | rfl | assumption | omega)) ; (try dsimp only))
          | ((with_reducible apply nthR_dat) ; (focus assumption))
          | (with_reducible refine ia_sl ?_ ?_)
          | (with_reducible refine CopyW.of ?_)
          | (with_reducible refine lenR_sl ?_)
          | (with_reducible refine lenR_rsl ?_)
          | (with_reducible refine rowsR_sl ?_)
          ))
          )
        all_goals (conv => whnf)
        all_goals (try dsimp only)
        refine ⟨(i + 1, _), rfl, rfl, ⟨by dsimp only; omega, ?_, ?_, ?_⟩, by dsimp only; omega⟩
        · intro d' hd'
          dsimp only at hd'
          rw [List.take_add_one, hdd'] at hd'
          rcases List.mem_append.1 hd' with q | q
          · exact hfit d' q
          · simp only [Option.toList_some, List.mem_singleton] at q
            rw [q]; exact hfd
        · dsimp only
          rw [hstep, hpl]; exact hlen
        · dsimp only
          rw [get_set hb, hstep, hdl, put_rows _ _ _ _ _ hfd]
      · have hno : fits c D = false := by
          rw [fits, List.all_eq_false]
          exact ⟨d, List.mem_of_getElem? hdd', by simpa using hfd⟩
        rw [swR, swE, hswOk, hno]
        repeat' (first
          | ((with_reducible refine Side.intro ?_) <;> (first
          | omega
          | (simp only [List.append_nil, List.nil_append, List.map_nil]; first | exact List.nodup_nil | exact nodup_bid1 _ | exact nodup_bid2 (by assumption))
          | ((first | refine fresh_tup ?_ | skip); (repeat (first |  exact FreshA.sl _ _ FreshA_bs | exact FreshA.sl _ _ FreshA_is | exact FreshA.nils | exact FreshA.nilp | exact FreshA.int _ _ | exact FreshA.bool _ | exact FreshA.str _ | exact fresh_nil | refine fresh_cons ?_ ?_ | with_reducible refine fresh_aggR ?_ | with_reducible refine fresh_agg ?_ | with_reducible exact fresh_nilA | with_reducible refine fresh_consA ?_ ?_)); done)
          ))
          | ((conv => whnf) <;> (first
          | (with_reducible refine and_same ?_)
          | (with_reducible refine and_side ?_ ?_)
          | ((with_reducible apply Br.yes) ; (focus omega))
          | ((with_reducible apply blkAt_intro) ; (focus (first
          | ((repeat (first
          | assumption
          )); done)
          )) ; (focus (first | rfl | assumption | omega)) ; (try dsimp only))
          | ((with_reducible apply nthR_dat) ; (focus assumption))
          | (with_reducible refine ia_sl ?_ ?_)
          | (with_reducible refine NOut.lit ?_)
          | (with_reducible refine lenR_sl ?_)
          | (with_reducible refine lenR_rsl ?_)
          ))
          )
        all_goals (conv => whnf)
        all_goals (try dsimp only)
        exact ret_nilt rfl
    · have hil : i = l.length := by omega
      subst hil
      rw [List.take_length, List.take_of_length_le (show D.length ≤ l.length from by omega)] at hb hlen
      rw [List.take_of_length_le (show D.length ≤ l.length from by omega)] at hfit
      have hyes : fits c D = true := by
        rw [fits, List.all_eq_true]
        intro d hdm
        exact decide_eq_true (hfit d hdm)
      rw [swR, swE, hswOk, hyes]
      simp only [if_true]
      generalize pgF c (pg0 c l nx pv) l D = P at *
      have hPl := bs_length P
      have et : List.take (Int.toNat 256) (bs P) = bs P := List.take_of_length_le (by rw [hPl, hlen]; exact Nat.le_refl _)
      repeat' (first
        | ((with_reducible refine Side.intro ?_) <;> (first
        | omega
        | (simp; done)
        ))
        | ((conv => whnf) <;> (first
        | (with_reducible refine and_same ?_)
        | (with_reducible refine and_side ?_ ?_)
        | ((with_reducible apply Br.no) ; (focus omega))
        | ((with_reducible apply blkAt_intro) ; (focus (first
        | ((repeat (first
        | assumption
        )); done)
        )) ; (focus (first | rfl | assumption | omega)) ; (try dsimp only))
        | (with_reducible refine NOut.lit ?_)
        ))
        )
      all_goals (conv => whnf)
      all_goals (try dsimp only)
      all_goals rw [et]
      all_goals first
        | exact ret_same rfl
        | exact Side.intro (fresh_tup (fresh_cons (FreshA.sl _ _ FreshA_bs) (fresh_cons (FreshA.int _ _) fresh_nil)))
theorem Looks.dat (σ : AH) (D : List (List UInt8)) (fr : Bool) : Looks σ (.sl 1 (Go.Proofs.Ytabdieanlhecoaa.dat D) fr) (.sl 1 (Go.Proofs.Ytabdieanlhecoaa.dat D) false) := by
  have e : untagLL (Go.Proofs.Ytabdieanlhecoaa.dat D) = Go.Proofs.Ytabdieanlhecoaa.dat D := by
    induction D with
    | nil => rfl
    | cons d D ih =>
      have : Go.Proofs.Ytabdieanlhecoaa.dat (d :: D) = [.sl 1 (bs d) false] :: Go.Proofs.Ytabdieanlhecoaa.dat D := rfl
      rw [this, untagLL, ih]
      simp [untagL, untag, untagLL_bs]
  refine .same ?_
  simp [derefV, derefC, AV.flat, untag, e]
theorem SWrite_call (c : Int) (l : List Int) (D : List (List UInt8)) (nx pv : Int) (hl : l.length ≤ 4611686018) (hD : D.length ≤ 4611686018) (hd : ∀ d, d ∈ D → d.length ≤ 4611686018) {σ : AH} {x z : AV} (hx : Looks σ x (.sl 1 (is l) false)) (hz : Looks σ z (.sl 1 (Go.Proofs.Ytabdieanlhecoaa.dat D) false)) {Q : AV → AH → Prop}
    (h : ∀ σ' y, Gr σ σ' none → Own σ' 1 y (bs (swR c l D nx pv)) → New σ y → Q (.tup [y, .int .i64 (swE c l D nx pv)]) σ') : CallS Try.prog F.slab_Write [.int .i64 c, x, z, .int .i64 nx, .int .i64 pv] σ Q :=
  call_sl1 (SWrite_ok c l D nx pv hl hD hd) (.cons (.int _ _ _) (.cons hx (.cons hz (.cons (.int _ _ _) (.cons (.int _ _ _) .nil))))) rfl h
end Go.Proofs.Ytabdieanlhecoaa
