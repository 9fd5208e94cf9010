import Derived.Test.YthakanioekmhbaaPdev3
namespace Go.Proofs.Ythakanioekmhbaa
open Go Go.Proofs.Ythakanioekmhbaa.V
set_option maxRecDepth 20000
attribute [local irreducible] CallS AOK AOKn ALoop Side Ref.ok
/-- Lines marked, one after the other: from a on, n of them. -/
def stE : Nat → Int → List ME × Nat → List ME × Nat
  | 0, _, p => p
  | n + 1, a, p => (mputE (stE n a p).1 (a + n) (.bool false) (stE n a p).2, mputC (stE n a p).1 (a + n) (stE n a p).2)
def flE : Nat → Int → List ME × Nat → List ME × Nat
  | 0, _, p => p
  | n + 1, a, p => match mget (flE n a p).1 (a + n) with
    | none => flE n a p
    | some _ => (mputE (flE n a p).1 (a + n) (.bool true) (flE n a p).2, mputC (flE n a p).1 (a + n) (flE n a p).2)
def Dv.setM (d : Dv) (p : List ME × Nat) : Dv := { d with es := p.1, clock := p.2 }
def storeL (S : List UInt8) (o : Nat) (b : List UInt8) : List UInt8 := S.take o ++ b ++ S.drop (o + b.length)
def storeD (d : Dv) (at' : Int) (b : List UInt8) : Int × Dv :=
  match beginD d at' b.length with
  | (e, d1) => if e ≠ 0 then (e, d1) else (0, ({ d1 with S := storeL d1.S at'.toNat b } : Dv).setM (stE (ovC at' b.length) (at' / 64) (d1.es, d1.clock)))
def flushD (d : Dv) (at' n : Int) : Int × Dv :=
  match beginD d at' n with
  | (e, d1) => if e ≠ 0 then (e, d1) else (0, d1.setM (flE (ovC at' n) (at' / 64) (d1.es, d1.clock)))
theorem askD_ok {d : Dv} {at' n : Int} (h : askD d at' n = 0) : d.down = false ∧ 0 ≤ at' ∧ at' ≤ d.S.length ∧ 0 ≤ n ∧ n ≤ d.S.length - at' := by
  unfold askD at h
  split at h
  · cases h
  · rename_i hd
    split at h
    · cases h
    · exact ⟨by simpa using hd, by omega, by omega, by omega, by omega⟩
theorem beginD_ok {d : Dv} {at' n : Int} (h : (beginD d at' n).1 = 0) : askD d at' n = 0 := by
  unfold beginD at h
  split at h
  · rename_i hk; exact absurd h hk
  · rename_i hk; omega
theorem beginD_same (d : Dv) (at' n : Int) : (beginD d at' n).2.L = d.L ∧ (beginD d at' n).2.S = d.S ∧ (beginD d at' n).2.es = d.es ∧ (beginD d at' n).2.clock = d.clock := by
  unfold beginD
  repeat' split
  all_goals exact ⟨rfl, rfl, rfl, rfl⟩
theorem BytR.keepP {σ σ' : AH} {x : AV} {s : List UInt8} {X : Nat → Prop} (h : BytR σ x s) (hg : GrP σ σ' X) (hx : ∀ id, X id → x.bid ≠ some id) : BytR σ' x s := by
  rcases h with ⟨fr, rfl⟩ | ⟨rfl, h⟩ | ⟨id, gen, sp, rfl, h⟩
  · exact .sl fr rfl
  · exact .own (.inl ⟨rfl, h⟩)
  · exact .own (.inr ⟨id, gen, sp, rfl, hg.2 _ _ h fun q => hx id q rfl⟩)
theorem storeL_length {S : List UInt8} {o : Nat} {b : List UInt8} (h : o + b.length ≤ S.length) : (storeL S o b).length = S.length := by
  simp [storeL]; omega
theorem cpy2 {L S : List UInt8} {spl : List (List AV)} {o m : Nat} (h1 : o + min S.length m ≤ L.length) :
    (bs L ++ spl).take o ++ (bs S).take (min (bs S).length m) ++ (bs L ++ spl).drop (o + min (bs S).length m) = bs (L.take o ++ S.take (min S.length m) ++ L.drop (o + min S.length m)) ++ spl := by
  rw [bs_length, List.take_append_of_le_length (by rw [bs_length]; omega), List.drop_append_of_le_length (by rw [bs_length]; omega)]
  simp only [bs_take, bs_drop, ← bs_append, List.append_assoc]
theorem Store_ok {σ : AH} {a : DA} {d : Dv} (h : DevH σ a d) (hl : d.S.length ≤ 262144) (ha : d.armed ≤ 9223372036854775807 ∧ 0 ≤ d.armed) (at' : Int) {x : AV} {b : List UInt8} (hx : BytR σ x b) (hbx : ∀ id, a.has id → x.bid ≠ some id) (hbl : b.length ≤ 1048576) (Q : AV → AH → Prop)
    (hQ : ∀ σ', DevH σ' a (storeD d at' b).2 → GrP σ σ' a.has → Q (.int .i64 (storeD d at' b).1) σ') : CallS Try.prog F.pmem_Device_Store [.ptr a.i 0 0 0, .int .i64 at', x] σ Q := by
  have hg0 : Gr σ (newB σ 1 [[.ptr a.i 0 0 0]] false) none := by (repeat (first
        | exact Gr.refl _ _
        | refine Gr.addN ?_ _
        ))
  have hx0 := hx.keepN hg0
  have hb0 := bs_length b
  have hbS := bs_length d.S
  refine call_of_body mixed fc_pmem_Device_Store_ok (by simp [fc_pmem_Device_Store]) ?_
  repeat' (first
    | ((with_reducible refine Side.intro ?_) <;> (first
    | exact rfl
    ))
    | ((conv => whnf) <;> (first
    | (with_reducible refine and_side ?_ ?_)
    | ((with_reducible apply blkAt_step) ; (focus (first
    | ((repeat (first
    | exact get_new
    )); done)
    )) ; (focus (first | rfl | assumption | omega)) ; (focus (first | rfl | assumption)) ; (try dsimp only))
    | ((with_reducible apply BytR.lenW) ; (focus assumption))
    ))
    )
  all_goals (conv => whnf)
  all_goals (try dsimp only)
  refine begins_ok (h.keepN hg0) (by omega) ha at' b.length _ ?_
  intro σ1 h1 hg1
  have hx1 := hx0.keepP hg1 hbx
  have hbox : σ1[σ.length]? = some { sz := 1, els := [[.ptr a.i 0 0 0]], gen := 0, wr := true, pure := false } := hg1.2 _ _ get_new fun q => by have := h.lt _ q; omega
  have hgg : GrP σ σ1 a.has := (GrP.of hg0 _).trans hg1
  obtain ⟨s1, s2, s3, s4⟩ := beginD_same d at' b.length
  have hk : (beginD d at' b.length).1 = 0 → askD d at' b.length = 0 := beginD_ok
  unfold storeD at hQ
  generalize beginD d at' b.length = p at *
  obtain ⟨e, d1⟩ := p
  dsimp only at h1 hk s1 s2 s3 s4 hQ ⊢
  obtain ⟨box, lasts, seen, map, ne⟩ := id h1
  by_cases he : e = 0
  · subst he
    obtain ⟨k1, k2, k3, k4, k5⟩ := askD_ok (hk rfl)
    rw [if_neg (by simp)] at hQ
    rw [s2] at seen box
    repeat' (first
      | ((with_reducible refine Side.intro ?_) <;> (first
      | omega
      | (simp only [bs_length, List.length_append, List.length_cons, List.length_nil, List.length_take, List.length_drop, List.length_set, List.length_replicate]; omega)
      ))
      | ((conv => whnf) <;> (first
      | (with_reducible refine and_same ?_)
      | (with_reducible refine and_side ?_ ?_)
      | ((with_reducible apply Br.no) ; (focus omega))
      | ((with_reducible apply blkAt_step) ; (focus (first
      | ((repeat (first
      | assumption
      )); done)
      )) ; (focus (first | rfl | assumption | omega)) ; (focus (first | rfl | assumption)) ; (try dsimp only))
      | ((with_reducible apply BytR.rowsW) ; (focus assumption))
      | (with_reducible refine SliceW.of ?_)
      | (with_reducible refine CopyW.of ?_)
      ))
      )
    all_goals (conv => whnf)
    all_goals (try dsimp only)
    rw [cpy2 (by omega)]
    have e : List.take (0 + at'.toNat) d.S ++ List.take (min b.length ((d.S.length : Int).toNat - at'.toNat)) b ++ List.drop (0 + at'.toNat + min b.length ((d.S.length : Int).toNat - at'.toNat)) d.S = storeL d1.S at'.toNat b := by
      unfold storeL
      rw [s2, Nat.zero_add, show min b.length ((d.S.length : Int).toNat - at'.toNat) = b.length by omega, List.take_length]
    rw [e]
    have h2 := h1.setS (storeL d1.S at'.toNat b) (storeL_length (by rw [s2]; omega))
    have hg2 : GrP σ1 (σ1.set a.is { sz := 1, els := bs (storeL d1.S at'.toNat b) ++ a.sps, gen := a.gs, wr := true, pure := true }) a.has := .set (.inr (.inr (.inl rfl))) _
    have hx2 := hx1.keepP hg2 hbx
    have hbox2 := hg2.2 _ _ hbox fun q => by have := h.lt _ q; omega
    have hgg2 := hgg.trans hg2
    generalize σ1.set a.is { sz := 1, els := bs (storeL d1.S at'.toNat b) ++ a.sps, gen := a.gs, wr := true, pure := true } = σ2 at *
    repeat' (first
      | ((conv => whnf) <;> (first
      | ((with_reducible apply BytR.lenW) ; (focus assumption))
      ))
      )
    all_goals (conv => whnf)
    all_goals (try dsimp only)
    refine over_ok ⟨by omega, by omega, by omega, by omega⟩ (fun k τ => DevH τ a (({ d1 with S := storeL d1.S at'.toNat b } : Dv).setM (stE k (at' / 64) (d1.es, d1.clock))) ∧ τ[σ.length]? = some { sz := 1, els := [[.ptr a.i 0 0 0]], gen := 0, wr := true, pure := false } ∧ GrP σ τ a.has) σ2 ⟨h2, hbox2, hgg2⟩ ?_ _ ?_
    · rintro k τ _ ⟨j1, j2, j3⟩
      exact St1_ok j1 j2 _ _ ⟨j1.setM _ _, (GrP.set (.inr (.inr (.inr rfl))) _ : GrP τ _ a.has).2 _ _ j2 fun q => by have := h.lt _ q; omega, j3.setT (.inr (.inr (.inr rfl))) _⟩
    · rintro τ ⟨j1, j2, j3⟩
      skip
      all_goals (conv => whnf)
      all_goals (try dsimp only)
      exact hQ _ j1 j3
  · rw [if_pos he] at hQ
    repeat' (first
      | ((conv => whnf) <;> (first
      | (with_reducible refine and_same ?_)
      | ((with_reducible apply Br.yes) ; (focus omega))
      ))
      )
    all_goals (conv => whnf)
    all_goals (try dsimp only)
    exact hQ _ h1 hgg
theorem Flush_ok {σ : AH} {a : DA} {d : Dv} (h : DevH σ a d) (hl : d.S.length ≤ 262144) (ha : d.armed ≤ 9223372036854775807 ∧ 0 ≤ d.armed) (at' n : Int) (Q : AV → AH → Prop)
    (hQ : ∀ σ', DevH σ' a (flushD d at' n).2 → GrP σ σ' a.has → Q (.int .i64 (flushD d at' n).1) σ') : CallS Try.prog F.pmem_Device_Flush [.ptr a.i 0 0 0, .int .i64 at', .int .i64 n] σ Q := by
  have hg0 : Gr σ (newB σ 1 [[.ptr a.i 0 0 0]] false) none := by (repeat (first
        | exact Gr.refl _ _
        | refine Gr.addN ?_ _
        ))
  refine call_of_body mixed fc_pmem_Device_Flush_ok (by simp [fc_pmem_Device_Flush]) ?_
  repeat' (first
    | ((with_reducible refine Side.intro ?_) <;> (first
    | exact rfl
    ))
    | ((conv => whnf) <;> (first
    | (with_reducible refine and_side ?_ ?_)
    | ((with_reducible apply blkAt_step) ; (focus (first
    | ((repeat (first
    | exact get_new
    )); done)
    )) ; (focus (first | rfl | assumption | omega)) ; (focus (first | rfl | assumption)) ; (try dsimp only))
    ))
    )
  all_goals (conv => whnf)
  all_goals (try dsimp only)
  refine begins_ok (h.keepN hg0) (by omega) ha at' n _ ?_
  intro σ1 h1 hg1
  have hbox : σ1[σ.length]? = some { sz := 1, els := [[.ptr a.i 0 0 0]], gen := 0, wr := true, pure := false } := hg1.2 _ _ get_new fun q => by have := h.lt _ q; omega
  have hgg : GrP σ σ1 a.has := (GrP.of hg0 _).trans hg1
  obtain ⟨s1, s2, s3, s4⟩ := beginD_same d at' n
  have hk : (beginD d at' n).1 = 0 → askD d at' n = 0 := beginD_ok
  unfold flushD at hQ
  generalize beginD d at' n = p at *
  obtain ⟨e, d1⟩ := p
  dsimp only at h1 hk s1 s2 s3 s4 hQ ⊢
  by_cases he : e = 0
  · subst he
    obtain ⟨k1, k2, k3, k4, k5⟩ := askD_ok (hk rfl)
    rw [if_neg (by simp)] at hQ
    repeat' (first
      | ((conv => whnf) <;> (first
      | (with_reducible refine and_same ?_)
      | ((with_reducible apply Br.no) ; (focus omega))
      ))
      )
    all_goals (conv => whnf)
    all_goals (try dsimp only)
    refine over_ok ⟨by omega, by omega, by omega, by omega⟩ (fun k τ => DevH τ a (d1.setM (flE k (at' / 64) (d1.es, d1.clock))) ∧ τ[σ.length]? = some { sz := 1, els := [[.ptr a.i 0 0 0]], gen := 0, wr := true, pure := false } ∧ GrP σ τ a.has) σ1 ⟨h1, hbox, hgg⟩ ?_ _ ?_
    · rintro k τ _ ⟨j1, j2, j3⟩
      refine Fl1_ok j1 j2 _ _ (fun hm => ?_) (fun v hm => ?_)
      · have hm' : mget (flE k (at' / 64) (d1.es, d1.clock)).1 (at' / 64 + k) = none := hm
        refine ⟨?_, j2, j3⟩
        simp only [flE, hm']
        exact j1
      · have hm' : mget (flE k (at' / 64) (d1.es, d1.clock)).1 (at' / 64 + k) = some v := hm
        refine ⟨?_, (GrP.set (.inr (.inr (.inr rfl))) _ : GrP τ _ a.has).2 _ _ j2 fun q => by have := h.lt _ q; omega, j3.setT (.inr (.inr (.inr rfl))) _⟩
        simp only [flE, hm']
        exact j1.setM _ _
    · rintro τ ⟨j1, j2, j3⟩
      skip
      all_goals (conv => whnf)
      all_goals (try dsimp only)
      exact hQ _ j1 j3
  · rw [if_pos he] at hQ
    repeat' (first
      | ((conv => whnf) <;> (first
      | (with_reducible refine and_same ?_)
      | ((with_reducible apply Br.yes) ; (focus omega))
      ))
      )
    all_goals (conv => whnf)
    all_goals (try dsimp only)
    exact hQ _ h1 hgg
end Go.Proofs.Ythakanioekmhbaa
