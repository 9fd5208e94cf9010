import Derived.Test.YthakanioekmhbaaPref03d
namespace Go.Proofs.Ythakanioekmhbaa
open Go Go.Proofs.Ythakanioekmhbaa.V
set_option maxRecDepth 20000
attribute [local irreducible] CallS AOK AOKn ALoop Side Ref.ok
/-! ### The dirty lines -/
def dirL (D : List Bool) : Nat → List Int
  | 0 => []
  | n + 1 => if D[n]? = some true then dirL D n ++ [(n : Int)] else dirL D n
theorem dirL_mem (D : List Bool) (k : Int) : ∀ n, k ∈ dirL D n ↔ ∃ j : Nat, k = j ∧ j < n ∧ D[j]? = some true
  | 0 => by simp [dirL]
  | n + 1 => by
    unfold dirL
    by_cases q : D[n]? = some true
    · rw [if_pos q, List.mem_append, dirL_mem D k n]
      constructor
      · rintro (⟨j, h1, h2, h3⟩ | h)
        · exact ⟨j, h1, by omega, h3⟩
        · exact ⟨n, by simpa using h, by omega, q⟩
      · rintro ⟨j, h1, h2, h3⟩
        by_cases e : j = n
        · right; rw [h1, e]; simp
        · exact .inl ⟨j, h1, by omega, h3⟩
    · rw [if_neg q, dirL_mem D k n]
      constructor
      · rintro ⟨j, h1, h2, h3⟩
        exact ⟨j, h1, by omega, h3⟩
      · rintro ⟨j, h1, h2, h3⟩
        by_cases e : j = n
        · rw [e] at h3; exact absurd h3 q
        · exact ⟨j, h1, by omega, h3⟩
theorem dirL_lt (D : List Bool) : ∀ n, (dirL D n).Pairwise (· < ·)
  | 0 => List.Pairwise.nil
  | n + 1 => by
    unfold dirL
    split
    · refine List.pairwise_append.2 ⟨dirL_lt D n, List.pairwise_singleton _ _, fun x hx y hy => ?_⟩
      obtain ⟨j, h1, h2, _⟩ := (dirL_mem D x n).1 hx
      rw [List.mem_singleton] at hy
      omega
    · exact dirL_lt D n
theorem dirL_length (D : List Bool) : ∀ n, (dirL D n).length ≤ n
  | 0 => Nat.le_refl _
  | n + 1 => by
    have := dirL_length D n
    unfold dirL
    split
    · simp; omega
    · omega
theorem incr_eq {l m : List Int} (hl : l.Pairwise (· < ·)) (hm : m.Pairwise (· < ·)) (h : ∀ x, x ∈ l ↔ x ∈ m) : l = m := by
  have nl : l.Nodup := hl.imp fun h => by omega
  have nm : m.Nodup := hm.imp fun h => by omega
  exact List.Perm.eq_of_pairwise (fun a b _ _ h1 h2 => absurd h1 (by omega)) hl hm ((List.perm_ext_iff_of_nodup nl nm).2 h)
theorem RD.dirty {d : Dv} {r : Rv} (h : RD d r) (hd : DvOk d) : dirL r.D r.D.length = srt (d.es.map ME.key) := by
  refine incr_eq (dirL_lt _ _) (srt_lt hd.map.keys) fun x => ?_
  rw [dirL_mem, (srt_perm _).mem_iff]
  have hx : x ∈ d.es.map ME.key ↔ (mget d.es x).isSome = true := by
    cases hm : mget d.es x with
    | none => simp [mget_none.1 hm]
    | some v =>
      simp only [Option.isSome_some, iff_true]
      refine Decidable.byContradiction fun q => ?_
      rw [mget_none.2 q] at hm
      cases hm
  rw [hx]
  constructor
  · rintro ⟨j, rfl, h1, h2⟩
    rw [(h.at' j h1).1] at h2
    exact Option.some.inj h2
  · intro q
    obtain ⟨e, he, hk⟩ := List.mem_map.1 (hx.2 q)
    have hr := hd.rng e he
    have hdl := h.dl
    obtain ⟨j, rfl⟩ := Int.eq_ofNat_of_zero_le (show 0 ≤ x by omega)
    refine ⟨j, rfl, by omega, ?_⟩
    rw [(h.at' j (by omega)).1, q]
theorem RDirty_ok {σ : AH} {a : RA} {r : Rv} (h : RefH σ a r) (hlen : r.D.length ≤ 4096) (Q : AV → AH → Prop)
    (hQ : ∀ y σ', Gr σ σ' none → Own σ' 1 y (is (dirL r.D r.D.length)) → New σ y → Q y σ') : CallS Try.prog F.joistref03_Device_Dirty [.ptr a.i 0 0 0] σ Q := by
  refine call_of_body mixed fc_joistref03_Device_Dirty_ok (by simp [fc_joistref03_Device_Dirty]) ?_
  skip
  all_goals (conv => whnf)
  all_goals (try dsimp only)
  refine loop_at (α := Nat × AV × AH) (fun q => [(3, q.2.1), (4, .int .i64 q.1)]) (fun q => q.2.2) (fun q => q.1 ≤ r.D.length ∧ Own q.2.2 1 q.2.1 (is (dirL r.D q.1)) ∧ New σ q.2.1 ∧ Gr σ q.2.2 none) (fun q => r.D.length - q.1) (0, .nils, σ) ⟨Nat.zero_le _, Own.nil _ _, (fun id e => by cases e), Gr.refl _ _⟩ rfl rfl ?_
  rintro ⟨i, y, τ⟩ ⟨hi, hO, hN, hG⟩
  dsimp only at hi hO hN hG ⊢
  have hR := h.keepN hG
  obtain ⟨box, lasts, seen, dirty, flush, ne⟩ := hR
  have e2 := bls_length r.D
  have hlen2 := dirL_length r.D i
  have e3 := is_length (dirL r.D i)
  by_cases hlt : i < r.D.length
  · obtain ⟨dv, hdv, hdv'⟩ := getN hlt
    cases dv with
    | false =>
      repeat' (first
        | ((with_reducible refine Side.intro ?_) <;> (first
        | omega
        ))
        | ((conv => whnf) <;> (first
        | (with_reducible refine and_same ?_)
        | (with_reducible refine and_side ?_ ?_)
        | ((with_reducible apply Br.yes) ; (focus omega))
        | ((with_reducible apply blkAt_step) ; (focus (first
        | ((repeat (first
        | assumption
        )); done)
        )) ; (focus (first | rfl | assumption | omega)) ; (focus (first | rfl | assumption)) ; (try dsimp only))
        | ((with_reducible apply nthR_bls1) ; (focus assumption))
        | (with_reducible refine IaW.of ?_)
        | (with_reducible refine nthR_z ?_)
        | ((with_reducible apply nthR_left) ; (focus (first | omega | (simp only [List.length_append, List.length_cons, List.length_nil, List.length_take, List.length_drop, bs_length]; omega))))
        | (with_reducible refine lenR_rsl ?_)
        ))
        )
      all_goals (conv => whnf)
      all_goals (try dsimp only)
      refine ⟨(i + 1, y, τ), rfl, rfl, ⟨by dsimp only; omega, ?_, hN, hG⟩, by dsimp only; omega⟩
      unfold dirL
      rw [if_neg (by rw [hdv']; simp)]
      exact hO
    | true =>
      repeat' (first
        | ((with_reducible refine Side.intro ?_) <;> (first
        | omega
        | exact Nat.le_of_ble_eq_true rfl
        | exact rfl
        ))
        | ((conv => whnf) <;> (first
        | (with_reducible refine and_same ?_)
        | (with_reducible refine and_side ?_ ?_)
        | ((with_reducible apply Br.yes) ; (focus omega))
        | ((with_reducible apply blkAt_step) ; (focus (first
        | ((repeat (first
        | assumption
        | exact get_new
        )); done)
        )) ; (focus (first | rfl | assumption | omega)) ; (focus (first | rfl | assumption)) ; (try dsimp only))
        | ((with_reducible apply nthR_bls1) ; (focus assumption))
        | (with_reducible refine IaW.of ?_)
        | (with_reducible refine AppC.frz ?_)
        | (with_reducible refine nthR_z ?_)
        | ((with_reducible apply nthR_left) ; (focus (first | omega | (simp only [List.length_append, List.length_cons, List.length_nil, List.length_take, List.length_drop, bs_length]; omega))))
        | (with_reducible refine lenR_rsl ?_)
        | (with_reducible refine rowsR_rsl ?_)
        ))
        )
      all_goals (conv => whnf)
      all_goals (try dsimp only)
      have g0 : Gr τ (newB τ 1 ((List.replicate 1 [AV.int IntKind.i64 0]).set 0 (AV.int IntKind.i64 (i : Int)).cells) (allFlatL ((List.replicate 1 [AV.int IntKind.i64 0]).set 0 (AV.int IntKind.i64 (i : Int)).cells))) none := Gr.newN (Gr.refl _ _) _ _ _
      refine appendR_own (hO.keepN g0) (by rw [e3]; show ((dirL r.D i).length + 1) * 8 ≤ _; omega) ?_
      intro y' σ' h1 h2 h3
      have hN' : New σ y' := by
        intro id e
        rcases h3 with h3 | h3
        · exact hN id (h3.symm.trans e)
        · have := g0.1
          have := hG.1
          rw [h3] at e; cases e; omega
      have hG' : Gr σ σ' none := ⟨Nat.le_trans (hG.trans g0).1 h2.1, fun id b hb _ => h2.2 id b ((hG.trans g0).2 id b hb (by simp)) fun e => by
        have q1 := hN id e
        have q2 := (List.getElem?_eq_some_iff.1 hb).1
        omega⟩
      repeat' (first
        | ((conv => whnf) <;> (first
        | (with_reducible refine and_same ?_)
        | ((with_reducible apply Br.yes) ; (focus omega))
        ))
        )
      all_goals (conv => whnf)
      all_goals (try dsimp only)
      refine ⟨(i + 1, y', σ'), by simp [Fr.upd, Fr.pick], rfl, ⟨by dsimp only; omega, ?_, hN', hG'⟩, by dsimp only; omega⟩
      unfold dirL
      rw [if_pos hdv']
      have e : is (dirL r.D i ++ [(i : Int)]) = is (dirL r.D i) ++ [[.int .i64 i]] := by simp [is]
      rw [e]
      exact h1
  · have ei : i = r.D.length := by omega
    subst ei
    repeat' (first
      | ((conv => whnf) <;> (first
      | (with_reducible refine and_same ?_)
      | ((with_reducible apply Br.no) ; (focus omega))
      | ((with_reducible apply blkAt_step) ; (focus (first
      | ((repeat (first
      | assumption
      )); done)
      )) ; (focus (first | rfl | assumption | omega)) ; (focus (first | rfl | assumption)) ; (try dsimp only))
      | (with_reducible refine lenR_rsl ?_)
      ))
      )
    all_goals (conv => whnf)
    all_goals (try dsimp only)
    exact hQ _ _ hG hO hN
theorem get_newE {σ : AH} {i sz : Nat} {els : List (List AV)} {p : Bool} (h : i = σ.length) : (newB σ sz els p)[i]? = some { sz := sz, els := els, gen := 0, wr := true, pure := p } := by
  subst h; exact get_new
set_option maxHeartbeats 4000000 in
theorem RCrash_ok {σ : AH} {a : RA} {d : Dv} {r : Rv} (h : RefH σ a r) (hr : RD d r) (hd : DvR d) (h0 : d.L ≠ []) {x : AV} {keep : List Bool} (hx : BoolR σ x keep) (hkl : keep.length ≤ 1048576) (hbx : ∀ id, a.has id → x.bid ≠ some id) (Q : AV → AH → Prop)
    (hQ : ∀ σ' a' r', a'.i = a.i → (∀ id, a'.has id → a.has id ∨ σ.length ≤ id) → RefH σ' a' r' → RD (crashD keep d) r' → GrP σ σ' a.has → Q (.tup []) σ') : CallS Try.prog F.joistref03_Device_Crash [.ptr a.i 0 0 0, x] σ Q := by
  have hle := hd.ok.le
  have hlen := hd.ok.len
  have hdl := hr.dl
  refine call_of_body mixed fc_joistref03_Device_Crash_ok (by simp [fc_joistref03_Device_Crash]) ?_
  skip
  all_goals (conv => whnf)
  all_goals (try dsimp only)
  refine RDirty_ok h (by omega) _ fun y σ2 hg2 ho hy => ?_
  have h2 := h.keepN hg2
  rw [hr.dirty hd.ok] at ho
  have hkeys : ∀ k, k ∈ srt (d.es.map ME.key) → 0 ≤ k ∧ 64 * k + 64 ≤ d.L.length := fun k hk => hd.ok.keysIn hk
  have hl : (srt (d.es.map ME.key)).length ≤ 4096 := by rw [srt_length, List.length_map]; exact hd.ok.few
  have hil := is_length (srt (d.es.map ME.key))
  have hbl := bls_length keep
  have hgg : GrP σ σ2 a.has := .of hg2 _
  have hyn : ∀ id, a.has id → y.bid ≠ some id := fun id q r => by
    have := h.lt id q
    have := hy id r
    omega
  have hx2 := hx.keepP hgg hbx
  have hcr : crashL keep d = ((srt (d.es.map ME.key)).zipIdx).foldl (crashS keep) d := rfl
  generalize srt (d.es.map ME.key) = l at *
  skip
  all_goals (conv => whnf)
  all_goals (try dsimp only)
  refine loop_at (α := Nat × AH) (fun q => [(5, .int .i64 q.1)]) (fun q => q.2) (fun q => q.1 ≤ l.length ∧ RefH q.2 a { r with L := ((l.zipIdx.take q.1).foldl (crashS keep) d).L } ∧ Own q.2 1 y (is l) ∧ GrP σ q.2 a.has ∧ BoolR q.2 x keep) (fun q => l.length - q.1) (0, σ2) ⟨Nat.zero_le _, (by simp only [List.take_zero, List.foldl_nil, ← hr.L]; exact h2), ho, hgg, hx2⟩ rfl rfl ?_
  rintro ⟨i, τ⟩ ⟨hi, hD, hO, hG, hX⟩
  dsimp only at hi hD hO hG hX ⊢
  by_cases hlt : i < l.length
  · obtain ⟨k, hk, hk'⟩ := getN hlt
    have hz : l.zipIdx[i]? = some (k, i) := by simp [List.getElem?_zipIdx, hk']
    have hdi := (DvOk.crashC (keep := keep) (l := l.zipIdx.take i) hd.ok fun p hp => by
      obtain ⟨j, hj⟩ := List.getElem?_of_mem (List.mem_of_mem_take hp)
      rw [List.getElem?_zipIdx] at hj
      obtain ⟨k', hk1, hk2⟩ := Option.map_eq_some_iff.1 hj
      rw [← hk2]
      exact hkeys k' (List.mem_of_getElem? hk1))
    have et : l.zipIdx.take (i + 1) = l.zipIdx.take i ++ [(k, i)] := by rw [List.take_add_one, hz]; rfl
    have ef : (l.zipIdx.take (i + 1)).foldl (crashS keep) d = crashS keep ((l.zipIdx.take i).foldl (crashS keep) d) (k, i) := by rw [et, List.foldl_append]; rfl
    have hkr := hkeys k (List.mem_of_getElem? hk')
    generalize (l.zipIdx.take i).foldl (crashS keep) d = di at *
    obtain ⟨kn, rfl⟩ := Int.eq_ofNat_of_zero_le hkr.1
    have hdL := hdi.L
    have hdS := hdi.S
    have hle1 := hdi.ok.le
    have hno : keptAt keep i = false → crashS keep di (kn, i) = di := fun q => if_neg (by dsimp only; rw [q]; simp)
    by_cases hik : i < keep.length
    · obtain ⟨b, hb, hb'⟩ := getN hik
      have hka : keptAt keep i = b := by simp [keptAt, hb']
      cases b with
      | false =>
        rw [hno hka] at ef
        rcases id hX with ⟨fr, rfl⟩ | hXo
        · repeat' (first
            | ((with_reducible refine Side.intro ?_) <;> (first
            | omega
            ))
            | ((conv => whnf) <;> (first
            | (with_reducible refine and_same ?_)
            | ((with_reducible apply Br.yes) ; (focus omega))
            | ((with_reducible apply nthR_bls1) ; (focus assumption))
            | ((with_reducible apply lenR_own) ; (focus assumption))
            | (with_reducible refine ia_sl ?_ ?_)
            | (with_reducible refine lenR_sl ?_)
            ))
            )
          all_goals (conv => whnf)
          all_goals (try dsimp only)
          exact ⟨(i + 1, τ), rfl, rfl, ⟨by dsimp only; omega, by dsimp only; rw [ef]; exact hD, hO, hG, hX⟩, by dsimp only; omega⟩
        · repeat' (first
            | ((with_reducible refine Side.intro ?_) <;> (first
            | omega
            ))
            | ((conv => whnf) <;> (first
            | (with_reducible refine and_same ?_)
            | ((with_reducible apply Br.yes) ; (focus omega))
            | ((with_reducible apply blkAt_step) ; (focus (first
            | ((repeat (first
            | assumption
            )); done)
            )) ; (focus (first | rfl | assumption | omega)) ; (focus (first | rfl | assumption)) ; (try dsimp only))
            | ((with_reducible apply nthR_bls1) ; (focus assumption))
            | ((with_reducible apply lenR_own) ; (focus assumption))
            | ((with_reducible apply ia_own) ; (focus assumption))
            | (with_reducible refine nthR_z ?_)
            | ((with_reducible apply nthR_left) ; (focus (first | omega | (simp only [List.length_append, List.length_cons, List.length_nil, List.length_take, List.length_drop, bs_length]; omega))))
            | (with_reducible intro _)
            ))
            )
          all_goals (conv => whnf)
          all_goals (try dsimp only)
          exact ⟨(i + 1, τ), rfl, rfl, ⟨by dsimp only; omega, by dsimp only; rw [ef]; exact hD, hO, hG, hX⟩, by dsimp only; omega⟩
      | true =>
        have ef' : crashS keep di (kn, i) = { di with L := lastL di.L di.S kn } := if_pos (by dsimp only; rw [hka])
        rw [ef'] at ef
        have fin : ∀ τ1, RefH τ1 a { r with L := lastL di.L r.S kn } → GrP τ τ1 a.has → (i + 1 ≤ l.length ∧ RefH τ1 a { r with L := ((l.zipIdx.take (i + 1)).foldl (crashS keep) d).L } ∧ Own τ1 1 y (is l) ∧ GrP σ τ1 a.has ∧ BoolR τ1 x keep) := fun τ1 q1 q2 => ⟨hlt, by rw [ef, hdS, ← hr.S]; exact q1, Own.keepP hO q2 hyn, hG.trans q2, hX.keepP q2 hbx⟩
        have hrS := hr.S
        rcases id hX with ⟨fr, rfl⟩ | hXo
        · repeat' (first
            | ((with_reducible refine Side.intro ?_) <;> (first
            | omega
            ))
            | ((conv => whnf) <;> (first
            | (with_reducible refine and_same ?_)
            | ((with_reducible apply Br.yes) ; (focus omega))
            | ((with_reducible apply blkAt_step) ; (focus (first
            | ((repeat (first
            | assumption
            )); done)
            )) ; (focus (first | rfl | assumption | omega)) ; (focus (first | rfl | assumption)) ; (try dsimp only))
            | ((with_reducible apply nthR_bls1) ; (focus assumption))
            | ((with_reducible apply nthR_is1) ; (focus assumption))
            | ((with_reducible apply lenR_own) ; (focus assumption))
            | ((with_reducible apply ia_own) ; (focus assumption))
            | (with_reducible refine ia_sl ?_ ?_)
            | (with_reducible refine nthR_z ?_)
            | ((with_reducible apply nthR_left) ; (focus (first | omega | (simp only [List.length_append, List.length_cons, List.length_nil, List.length_take, List.length_drop, bs_length]; omega))))
            | (with_reducible refine lenR_sl ?_)
            | (with_reducible intro _)
            ))
            )
          all_goals (conv => whnf)
          all_goals (try dsimp only)
          refine lasting_ok hD (by dsimp only; omega) (by dsimp only; rw [hrS]; omega) kn (by dsimp only; omega) _ fun τ1 hD1 hG1 => ?_
          repeat' (first
            | ((conv => whnf) <;> (first
            | (with_reducible refine and_same ?_)
            | ((with_reducible apply Br.yes) ; (focus omega))
            ))
            )
          all_goals (conv => whnf)
          all_goals (try dsimp only)
          exact ⟨(i + 1, τ1), rfl, rfl, fin τ1 hD1 hG1, by dsimp only; omega⟩
        · repeat' (first
            | ((with_reducible refine Side.intro ?_) <;> (first
            | omega
            ))
            | ((conv => whnf) <;> (first
            | (with_reducible refine and_same ?_)
            | ((with_reducible apply Br.yes) ; (focus omega))
            | ((with_reducible apply blkAt_step) ; (focus (first
            | ((repeat (first
            | assumption
            )); done)
            )) ; (focus (first | rfl | assumption | omega)) ; (focus (first | rfl | assumption)) ; (try dsimp only))
            | ((with_reducible apply nthR_bls1) ; (focus assumption))
            | ((with_reducible apply nthR_is1) ; (focus assumption))
            | ((with_reducible apply lenR_own) ; (focus assumption))
            | ((with_reducible apply ia_own) ; (focus assumption))
            | (with_reducible refine nthR_z ?_)
            | ((with_reducible apply nthR_left) ; (focus (first | omega | (simp only [List.length_append, List.length_cons, List.length_nil, List.length_take, List.length_drop, bs_length]; omega))))
            | (with_reducible intro _)
            ))
            )
          all_goals (conv => whnf)
          all_goals (try dsimp only)
          refine lasting_ok hD (by dsimp only; omega) (by dsimp only; rw [hrS]; omega) kn (by dsimp only; omega) _ fun τ1 hD1 hG1 => ?_
          repeat' (first
            | ((conv => whnf) <;> (first
            | (with_reducible refine and_same ?_)
            | ((with_reducible apply Br.yes) ; (focus omega))
            ))
            )
          all_goals (conv => whnf)
          all_goals (try dsimp only)
          exact ⟨(i + 1, τ1), rfl, rfl, fin τ1 hD1 hG1, by dsimp only; omega⟩
    · have hka : keptAt keep i = false := by simp [keptAt, List.getElem?_eq_none (Nat.le_of_not_lt hik)]
      rw [hno hka] at ef
      rcases id hX with ⟨fr, rfl⟩ | hXo
      · repeat' (first
          | ((conv => whnf) <;> (first
          | (with_reducible refine and_same ?_)
          | ((with_reducible apply Br.yes) ; (focus omega))
          | ((with_reducible apply Br.no) ; (focus omega))
          | ((with_reducible apply lenR_own) ; (focus assumption))
          | (with_reducible refine lenR_sl ?_)
          ))
          )
        all_goals (conv => whnf)
        all_goals (try dsimp only)
        exact ⟨(i + 1, τ), rfl, rfl, ⟨by dsimp only; omega, by dsimp only; rw [ef]; exact hD, hO, hG, hX⟩, by dsimp only; omega⟩
      · repeat' (first
          | ((conv => whnf) <;> (first
          | (with_reducible refine and_same ?_)
          | ((with_reducible apply Br.yes) ; (focus omega))
          | ((with_reducible apply Br.no) ; (focus omega))
          | ((with_reducible apply lenR_own) ; (focus assumption))
          ))
          )
        all_goals (conv => whnf)
        all_goals (try dsimp only)
        exact ⟨(i + 1, τ), rfl, rfl, ⟨by dsimp only; omega, by dsimp only; rw [ef]; exact hD, hO, hG, hX⟩, by dsimp only; omega⟩
  · have ei : i = l.length := by omega
    subst ei
    rw [List.take_of_length_le (by simp), ← hcr] at hD
    have hdc : DvC d (crashL keep d) := by
      rw [hcr]
      refine DvOk.crashC hd.ok fun p hp => ?_
      obtain ⟨j, hj⟩ := List.getElem?_of_mem hp
      rw [List.getElem?_zipIdx] at hj
      obtain ⟨k', hk1, hk2⟩ := Option.map_eq_some_iff.1 hj
      rw [← hk2]
      exact hkeys k' (List.mem_of_getElem? hk1)
    unfold crashD at hQ
    generalize crashL keep d = dc at *
    obtain ⟨box, lasts, seen, dirty, flush, ne⟩ := id hD
    obtain ⟨⟨n1, n2, n3, n4⟩, ⟨n5, n6, n7⟩, ⟨n8, n9⟩, n10⟩ := id ne
    dsimp only at box lasts seen dirty flush
    have hbx := (List.getElem?_eq_some_iff.1 box).1
    have hbl := (List.getElem?_eq_some_iff.1 lasts).1
    have e1 := bs_length dc.L
    have e2 := bls_length r.D
    have hdcL := hdc.L
    have hbd := (List.getElem?_eq_some_iff.1 dirty).1
    repeat' (first
      | ((with_reducible refine Side.intro ?_) <;> (first
      | omega
      | exact Nat.le_of_ble_eq_true rfl
      | (simp only [bs_length, List.length_append, List.length_cons, List.length_nil, List.length_take, List.length_drop, List.length_set, List.length_replicate]; omega)
      | exact rfl
      ))
      | ((conv => whnf) <;> (first
      | (with_reducible refine and_same ?_)
      | (with_reducible refine and_side ?_ ?_)
      | ((with_reducible apply Br.no) ; (focus omega))
      | ((with_reducible apply blkAt_step) ; (focus (first
      | ((repeat (first
      | assumption
      | exact get_new
      | with_reducible apply get_set
      | apply get_old
      | (apply get_set_ne; (focus (first | omega | (simp only [newB_length, List.length_set, List.length_append, List.length_singleton, List.length_nil]; omega))))
      )); done)
      )) ; (focus (first | rfl | assumption | omega)) ; (focus (first | rfl | assumption)) ; (try dsimp only))
      | ((with_reducible apply appendR_lit) ; (focus (first
      | ((repeat (first
      | exact get_new
      )); done)
      )) ; (focus (first | rfl | assumption)) ; (focus (first | rfl | assumption)) ; (focus rfl) ; (focus rfl) ; (focus rfl) ; (focus (first | exact Nat.zero_le _ | omega | (simp; done) | (simp; omega))) ; (try dsimp only))
      | ((with_reducible apply lenR_own) ; (focus assumption))
      | (with_reducible refine AppC.frz ?_)
      | (with_reducible refine lenR_rsl ?_)
      | (with_reducible refine rowsR_rsl ?_)
      ))
      )
    all_goals (conv => whnf)
    all_goals (try dsimp only)
    have eT : List.take dc.L.length (List.drop 0 (bs dc.L ++ a.spl)) = bs dc.L := by
      rw [List.drop_zero, List.take_append_of_le_length (by rw [e1]; omega), bs_take, List.take_of_length_le (Nat.le_refl _)]
    have eR : List.replicate r.D.length [AV.bool false] = bls (List.replicate r.D.length false) := by simp [bls]
    have hflt : ∀ z : Bool, (z && allFlat [AV.rsl τ.length 1 0 dc.L.length none]) = false := fun z => by simp [allFlat, AV.flat]
    simp only [eT, eR, e1, List.length_set, newB_length, Int.toNat_natCast, List.set_cons_zero, List.take_zero, List.nil_append, Nat.zero_add, Bool.false_and]
    have hgT : GrP σ τ a.has := hG
    have ht := hG.1
    refine hQ _ ⟨a.i, a.il, a.gl, a.spl, τ.length, 1, [], τ.length + 1, 0, [], τ.length + 1 + 1, 0, []⟩ ⟨dc.L, dc.L, List.replicate r.D.length false, List.replicate r.D.length false, 0, false⟩ rfl ?_ ?_ ?_ ?_
    · rintro id (q | q | q | q | q)
      · exact .inl (.inl q)
      · exact .inl (.inr (.inl q))
      · right; dsimp only at q; omega
      · right; dsimp only at q; omega
      · right; dsimp only at q; omega
    · have m2 : a.i ≠ τ.length := by omega
      have m3 : a.i ≠ τ.length + 1 := by omega
      have m4 : a.i ≠ τ.length + 1 + 1 := by omega
      refine ⟨?_, ?_, ?_, ?_, ?_, ?_⟩
      · simp only [List.length_replicate]
        exact get_set (get_set (get_set (get_old (get_set (get_old (get_set (get_set_ne (Ne.symm m2) (get_old box))))))))
      · exact get_set_ne n1 (get_set_ne n1 (get_set_ne n1 (get_old (get_set_ne n1 (get_old (get_set_ne n1 (get_set_ne (show τ.length ≠ a.il by omega) (get_old lasts))))))))
      · dsimp only
        rw [List.append_nil]
        exact get_set_ne m2 (get_set_ne m2 (get_set_ne m2 (get_old (get_set_ne m2 (get_old (get_set_ne m2 (get_set get_new)))))))
      · dsimp only
        rw [List.append_nil]
        exact get_set_ne m3 (get_set_ne m3 (get_set_ne m3 (get_old (get_set_ne m3 (get_newE (by simp only [List.length_set, newB_length]))))))
      · dsimp only
        rw [List.append_nil]
        exact get_set_ne m4 (get_set_ne m4 (get_set_ne m4 (get_newE (by simp only [List.length_set, newB_length]))))
      · dsimp only; omega
    · refine ⟨rfl, rfl, rfl, rfl, by dsimp only; rw [List.length_replicate, hdcL]; exact hdl, by simp, fun k hk => ?_⟩
      dsimp only at hk ⊢
      rw [List.length_replicate] at hk
      rw [List.getElem?_replicate, if_pos hk]
      exact ⟨rfl, rfl⟩
    · exact (((((((hgT.new _ _ _).setN ht _).setT (.inl rfl) _).new _ _ _).setT (.inl rfl) _).new _ _ _).setT (.inl rfl) _ |>.setT (.inl rfl) _).setT (.inl rfl) _
end Go.Proofs.Ythakanioekmhbaa
