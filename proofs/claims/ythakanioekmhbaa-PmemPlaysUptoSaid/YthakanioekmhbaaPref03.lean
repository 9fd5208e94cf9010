import Derived.Test.YthakanioekmhbaaPdev9
namespace Go.Proofs.Ythakanioekmhbaa
open Go Go.Proofs.Ythakanioekmhbaa.V
set_option maxRecDepth 20000
attribute [local irreducible] CallS AOK AOKn ALoop Side Ref.ok
/-! ### The reference's device -/
structure Rv where
  L : List UInt8
  S : List UInt8
  D : List Bool
  Fl : List Bool
  armed : Int
  down : Bool
structure RA where
  i : Nat
  il : Nat
  gl : Nat
  spl : List (List AV)
  is : Nat
  gs : Nat
  sps : List (List AV)
  jd : Nat
  gd : Nat
  spd : List (List AV)
  jf : Nat
  gf : Nat
  spf : List (List AV)
def RA.has (a : RA) (id : Nat) : Prop := id = a.i ∨ id = a.il ∨ id = a.is ∨ id = a.jd ∨ id = a.jf
structure RefH (σ : AH) (a : RA) (d : Rv) : Prop where
  box : σ[a.i]? = some { sz := 6, els := [[.rsl a.il a.gl 0 d.L.length none, .rsl a.is a.gs 0 d.S.length none, .rsl a.jd a.gd 0 d.D.length none, .rsl a.jf a.gf 0 d.Fl.length none, .int .i64 d.armed, .bool d.down]], gen := 0, wr := true, pure := false }
  lasts : σ[a.il]? = some { sz := 1, els := bs d.L ++ a.spl, gen := a.gl, wr := true, pure := true }
  seen : σ[a.is]? = some { sz := 1, els := bs d.S ++ a.sps, gen := a.gs, wr := true, pure := true }
  dirty : σ[a.jd]? = some { sz := 1, els := bls d.D ++ a.spd, gen := a.gd, wr := true, pure := true }
  flush : σ[a.jf]? = some { sz := 1, els := bls d.Fl ++ a.spf, gen := a.gf, wr := true, pure := true }
  ne : (a.i ≠ a.il ∧ a.i ≠ a.is ∧ a.i ≠ a.jd ∧ a.i ≠ a.jf) ∧ (a.il ≠ a.is ∧ a.il ≠ a.jd ∧ a.il ≠ a.jf) ∧ (a.is ≠ a.jd ∧ a.is ≠ a.jf) ∧ a.jd ≠ a.jf
/-! ### Operations in whatever order: what chains of allocations hold -/
def setD (d : Nat → Bool) (k : Nat) : Nat → Bool := fun j => if j = k then true else d j
theorem Own.keepO {σ σ' : AH} {sz : Nat} {x : AV} {rows : List (List AV)} {o : Option Nat} (h : Own σ sz x rows) (hg : Gr σ σ' o) (hx : ∀ id, x.bid = some id → o ≠ some id) : Own σ' sz x rows := by
  refine Own.keep hg h ?_
  cases hb : x.bid with
  | none => exact .inl rfl
  | some id => exact .inr (hx id hb)
theorem op_mv {C : CallP} {σ : AH} {fr : Fr} {k : Nat} {x : AV} {K : AV → AH → Prop} (h : fr.get k = some x) (hk : K x σ) : guardM fr none σ (runI C σ fr (.inl (.mv (.t k)))) K := by
  simp only [guardM, runI, roI, evR, ev, h]
  exact hk
theorem op_mvc {C : CallP} {σ : AH} {fr : Fr} {x : AV} {K : AV → AH → Prop} (hk : K x σ) : guardM fr none σ (runI C σ fr (.inl (.mv (.c x)))) K := by
  simp only [guardM, runI, roI, evR, ev]
  exact hk
theorem op_lit0 {C : CallP} {σ : AH} {fr : Fr} {K : AV → AH → Prop} (hk : K (.rsl σ.length 0 0 0 none) (newB σ 1 [] true)) : guardM fr none σ (runI C σ fr (.inr (.bslice 1 [.int .u8 0] 0 []))) K := by
  simp only [guardM, runI, efI]
  exact ⟨by decide, hk⟩
theorem op_mk {C : CallP} {σ : AH} {fr : Fr} {k : Nat} {n : Int} {K : AV → AH → Prop} (h : fr.get k = some (.int .i64 n)) (h0 : 0 ≤ n ∧ n ≤ 140737488355328) (hk : K (.rsl σ.length 0 0 n.toNat none) (newB σ 1 (List.replicate n.toNat [.bool false]) true)) : guardM fr none σ (runI C σ fr (.inr (.mksl 1 1 [.bool false] (.t k) (.t k)))) K := by
  simp only [guardM, runI, efI, intR, ev, h]
  exact ⟨h0.1, Int.le_refl _, by omega, hk⟩
theorem op_app {C : CallP} {σ : AH} {fr : Fr} {k j : Nat} {y x : AV} {s : List UInt8} {K : AV → AH → Prop} (h : fr.get k = some y) (h2 : fr.get j = some x) (ho : Own σ 1 y []) (hx : BytR σ x s) (hl : s.length ≤ 4611686018)
    (hk : ∀ y' σ', Own σ' 1 y' (bs s) → Gr σ σ' y.bid → (y'.bid = y.bid ∨ y'.bid = some σ.length) → K y' σ') : guardM fr none σ (runI C σ fr (.inr (.append 1 1 (.t k) (.t j)))) K := by
  simp only [guardM, runI, efI, evR, ev, h, h2]
  refine AppC.frz (BytR.rowsW hx ?_)
  refine appendR_own ho (by simp [bs_length]; omega) ?_
  intro y' σ' h1 h2 h3
  exact hk y' σ' (by simpa using h1) h2 h3
def Apart2 (a b : AV) : Prop := ∀ id, a.bid = some id → b.bid ≠ some id
theorem Apart2.symm {a b : AV} (h : Apart2 a b) : Apart2 b a := fun id h1 h2 => h id h2 h1
def Lt2 (σ : AH) (y : AV) : Prop := ∀ id, y.bid = some id → id < σ.length
theorem Lt2.grow {σ σ' : AH} {y : AV} (h : Lt2 σ y) (hl : σ.length ≤ σ'.length) : Lt2 σ' y := fun id q => Nat.lt_of_lt_of_le (h id q) hl
theorem Lt2.new {σ : AH} {y y' : AV} (h : Lt2 σ y) (e : y'.bid = some σ.length) : Apart2 y y' := fun id q r => by rw [e] at r; cases r; exact Nat.lt_irrefl _ (h _ q)
theorem get_keepF {l : List Nat} {n : Nat} {x : AV} (hn : l.contains n = true) : ∀ {fr : Fr}, fr.get n = some x → (Fr.keep l fr).get n = some x
  | [], h => h
  | (m, y) :: r, h => by
    unfold Fr.get at h
    unfold Fr.keep
    by_cases e : n = m
    · subst e
      rw [if_pos rfl] at h
      rw [if_pos hn]
      unfold Fr.get
      rw [if_pos rfl]
      exact h
    · rw [if_neg e] at h
      split
      · unfold Fr.get; rw [if_neg e]; exact get_keepF hn h
      · exact get_keepF hn h
def dstN (k : Nat) : Nat := if k < 12 then k + 22 else k - 10
theorem dstN_inj {j k : Nat} (hj : j < 14) (hk : k < 14) (h : j ≠ k) : dstN k ≠ dstN j := by unfold dstN; split <;> split <;> omega
def rowsN (s : List UInt8) (N k : Nat) : Option (List (List AV)) := if k = 0 ∨ k = 3 then some [] else if k = 2 ∨ k = 5 then some (bs s) else if k = 7 ∨ k = 9 then some (bls (List.replicate N false)) else none
def liveN (d : Nat → Bool) (k : Nat) : Prop := (k = 0 → d 2 = false) ∧ (k = 3 → d 5 = false)
theorem rowsN_lt {s : List UInt8} {N k : Nat} (h : (rowsN s N k).isSome = true) : k < 10 := by
  unfold rowsN at h
  split at h
  · omega
  · split at h
    · omega
    · split at h
      · omega
      · cases h
def boxN (v : Nat → AV) : List AV := [v 2, v 5, v 7, v 9, .int .i64 0, .bool false]
structure NI (σ0 : AH) (x : AV) (s : List UInt8) (n : Int) (d : Nat → Bool) (fr : Fr) (σ : AH) (v : Nat → AV) : Prop where
  a0 : fr.get 0 = some x
  a4 : fr.get 4 = some (.int .i64 n)
  gr : Gr σ0 σ none
  g : ∀ k, k < 14 → d k = true → fr.get (dstN k) = some (v k)
  ow : ∀ k rows, rowsN s n.toNat k = some rows → d k = true → liveN d k → Own σ 1 (v k) rows ∧ New σ0 (v k)
  ap : ∀ j k, j ≠ k → d j = true → d k = true → liveN d j → liveN d k → (rowsN s n.toNat j).isSome = true → (rowsN s n.toNat k).isSome = true → Apart2 (v j) (v k)
  m : (d 1 = true → v 1 = x) ∧ (d 4 = true → v 4 = x) ∧ (d 6 = true → v 6 = .int .i64 n) ∧ (d 8 = true → v 8 = .int .i64 n) ∧ (d 13 = true → v 13 = .int .i64 0)
  b10 : d 10 = true → (d 2 = true ∧ d 5 = true ∧ d 7 = true ∧ d 9 = true) ∧ v 10 = .agg (boxN v)
  b11 : d 11 = true → d 10 = true ∧ ∃ q, v 11 = .ptr q 0 0 0 ∧ σ0.length ≤ q ∧ σ[q]? = some { sz := 6, els := [boxN v], gen := 0, wr := true, pure := false }
  b12 : d 12 = true → d 11 = true ∧ v 12 = v 11
def setV (v : Nat → AV) (k : Nat) (y : AV) : Nat → AV := fun j => if j = k then y else v j
theorem setV_self (v : Nat → AV) (k : Nat) (y : AV) : setV v k y k = y := if_pos rfl
theorem setV_ne {v : Nat → AV} {k j : Nat} {y : AV} (h : j ≠ k) : setV v k y j = v j := if_neg h
theorem setD_self (d : Nat → Bool) (k : Nat) : setD d k k = true := if_pos rfl
theorem setD_ne {d : Nat → Bool} {k j : Nat} (h : j ≠ k) : setD d k j = d j := if_neg h
theorem setD_false {d : Nat → Bool} {k j : Nat} (h : setD d k j = false) : d j = false := by
  by_cases e : j = k
  · subst e; rw [setD_self] at h; cases h
  · rwa [setD_ne e] at h
theorem liveN.of {d : Nat → Bool} {k j : Nat} (h : liveN (setD d k) j) : liveN d j := ⟨fun q => setD_false (h.1 q), fun q => setD_false (h.2 q)⟩
structure ValN (x : AV) (n : Int) (σ0 σ' : AH) (d : Nat → Bool) (v : Nat → AV) (k : Nat) (y : AV) : Prop where
  v1 : k = 1 → y = x
  v4 : k = 4 → y = x
  v6 : k = 6 → y = .int .i64 n
  v8 : k = 8 → y = .int .i64 n
  v13 : k = 13 → y = .int .i64 0
  v10 : k = 10 → (d 2 = true ∧ d 5 = true ∧ d 7 = true ∧ d 9 = true) ∧ y = .agg (boxN v)
  v11 : k = 11 → d 10 = true ∧ ∃ q, y = .ptr q 0 0 0 ∧ σ0.length ≤ q ∧ σ'[q]? = some { sz := 6, els := [boxN v], gen := 0, wr := true, pure := false }
  v12 : k = 12 → d 11 = true ∧ y = v 11
theorem NI.step {σ0 σ σ' : AH} {x : AV} {s : List UInt8} {n : Int} {d : Nat → Bool} {fr : Fr} {v : Nat → AV} (h : NI σ0 x s n d fr σ v) {k : Nat} (hk : k < 14) (hd : d k = false) {y : AV} {o : Option Nat} (hg : Gr σ σ' o)
    (ho : o = none ∨ (k = 2 ∧ d 0 = true ∧ o = (v 0).bid) ∨ (k = 5 ∧ d 3 = true ∧ o = (v 3).bid)) (hy : ∀ rows, rowsN s n.toNat k = some rows → Own σ' 1 y rows ∧ (o = y.bid ∨ ∀ id, y.bid = some id → σ.length ≤ id)) (hv : ValN x n σ0 σ' d v k y) :
    NI σ0 x s n (setD d k) (fr.putO (some (dstN k)) y) σ' (setV v k y) := by
  have r0 : rowsN s n.toNat 0 = some [] := rfl
  have r3 : rowsN s n.toNat 3 = some [] := rfl
  have hd0 : dstN k ≠ 0 := by unfold dstN; split <;> omega
  have hd4 : dstN k ≠ 4 := by unfold dstN; split <;> omega
  -- what is apart from what this step takes
  have hap : ∀ j, j ≠ k → d j = true → liveN (setD d k) j → (rowsN s n.toNat j).isSome = true → ∀ id, (v j).bid = some id → o ≠ some id := by
    intro j hj hdj hl hr id hb e
    rcases ho with rfl | ⟨rfl, h0, rfl⟩ | ⟨rfl, h0, rfl⟩
    · cases e
    · have hj0 : j ≠ 0 := fun q => by have := hl.1 q; rw [setD_self] at this; cases this
      exact h.ap 0 j (Ne.symm hj0) h0 hdj ⟨fun _ => hd, fun q => absurd q (by decide)⟩ hl.of rfl hr id e hb
    · have hj0 : j ≠ 3 := fun q => by have := hl.2 q; rw [setD_self] at this; cases this
      exact h.ap 3 j (Ne.symm hj0) h0 hdj ⟨fun q => absurd q (by decide), fun _ => hd⟩ hl.of rfl hr id e hb
  have hnew : ∀ id, o = some id → σ0.length ≤ id := by
    intro id e
    rcases ho with rfl | ⟨rfl, h0, rfl⟩ | ⟨rfl, h0, rfl⟩
    · cases e
    · exact (h.ow 0 _ r0 h0 ⟨fun _ => hd, fun q => absurd q (by decide)⟩).2 id e
    · exact (h.ow 3 _ r3 h0 ⟨fun q => absurd q (by decide), fun _ => hd⟩).2 id e
  have hone : d 10 = true → o = none := by
    intro q
    obtain ⟨⟨q2, q5, _⟩, _⟩ := h.b10 q
    rcases ho with rfl | ⟨rfl, h0, rfl⟩ | ⟨rfl, h0, rfl⟩
    · rfl
    · rw [q2] at hd; cases hd
    · rw [q5] at hd; cases hd
  have hbox : (d 10 = true ∨ k = 10 ∨ k = 11 ∨ k = 12 → d 2 = true ∧ d 5 = true ∧ d 7 = true ∧ d 9 = true) := by
    rintro (q | q | q | q)
    · exact (h.b10 q).1
    · exact (hv.v10 q).1
    · exact (h.b10 (hv.v11 q).1).1
    · exact (h.b10 (h.b11 (hv.v12 q).1).1).1
  have hbv : d 2 = true ∧ d 5 = true ∧ d 7 = true ∧ d 9 = true → boxN (setV v k y) = boxN v := by
    rintro ⟨q2, q5, q7, q9⟩
    have e : ∀ j, d j = true → j ≠ k := fun j q e => by rw [e, hd] at q; cases q
    unfold boxN
    rw [setV_ne (e 2 q2), setV_ne (e 5 q5), setV_ne (e 7 q7), setV_ne (e 9 q9)]
  have hne : ∀ j, d j = true → j ≠ k := fun j q e => by rw [e, hd] at q; cases q
  refine ⟨?_, ?_, ⟨Nat.le_trans h.gr.1 hg.1, fun id b hb _ => hg.2 id b (h.gr.2 id b hb (by simp)) (fun e => ?_)⟩, ?_, ?_, ?_, ?_, ?_, ?_, ?_⟩
  · rw [Fr.get_putO, if_neg (by simpa using hd0)]; exact h.a0
  · rw [Fr.get_putO, if_neg (by simpa using hd4)]; exact h.a4
  · have h1 := hnew id e
    have h2 := (List.getElem?_eq_some_iff.1 hb).1
    omega
  · intro j hj hdj
    by_cases e : j = k
    · subst e; rw [Fr.get_putO, if_pos rfl, setV_self]
    · rw [setD_ne e] at hdj
      rw [Fr.get_putO, if_neg (by simpa using dstN_inj hj hk e), setV_ne e]
      exact h.g j hj hdj
  · intro j rows hr hdj hl
    by_cases e : j = k
    · subst e
      rw [setV_self]
      obtain ⟨h1, h2⟩ := hy rows hr
      refine ⟨h1, fun id hb => ?_⟩
      rcases h2 with h2 | h2
      · exact hnew id (h2.trans hb)
      · exact Nat.le_trans h.gr.1 (h2 id hb)
    · rw [setD_ne e] at hdj
      rw [setV_ne e]
      obtain ⟨h1, h2⟩ := h.ow j rows hr hdj hl.of
      exact ⟨Own.keepO h1 hg (hap j e hdj hl (by rw [hr]; rfl)), h2⟩
  · have key : ∀ j, j ≠ k → d j = true → liveN (setD d k) j → (rowsN s n.toNat j).isSome = true → (rowsN s n.toNat k).isSome = true → Apart2 y (v j) := by
      intro j hj hdj hl hr hrk id h1 h2
      obtain ⟨rows, hrk⟩ := Option.isSome_iff_exists.1 hrk
      obtain ⟨rj, hrj⟩ := Option.isSome_iff_exists.1 hr
      rcases (hy rows hrk).2 with q | q
      · exact hap j hj hdj hl hr id h2 (q.trans h1)
      · have := (h.ow j rj hrj hdj hl.of).1.lt h2
        have := q id h1
        omega
    intro j l hjl hdj hdl hlj hll hrj hrl
    by_cases e : j = k
    · subst e
      have e2 : l ≠ j := Ne.symm hjl
      rw [setD_ne e2] at hdl
      rw [setV_self, setV_ne e2]
      exact key l e2 hdl hll hrl hrj
    · rw [setD_ne e] at hdj
      rw [setV_ne e]
      by_cases e2 : l = k
      · subst e2
        rw [setV_self]
        exact (key j e hdj hlj hrj hrl).symm
      · rw [setD_ne e2] at hdl
        rw [setV_ne e2]
        exact h.ap j l hjl hdj hdl hlj.of hll.of hrj hrl
  · refine ⟨fun q => ?_, fun q => ?_, fun q => ?_, fun q => ?_, fun q => ?_⟩
    · by_cases e : 1 = k
      · subst e; rw [setV_self]; exact hv.v1 rfl
      · rw [setD_ne e] at q; rw [setV_ne e]; exact h.m.1 q
    · by_cases e : 4 = k
      · subst e; rw [setV_self]; exact hv.v4 rfl
      · rw [setD_ne e] at q; rw [setV_ne e]; exact h.m.2.1 q
    · by_cases e : 6 = k
      · subst e; rw [setV_self]; exact hv.v6 rfl
      · rw [setD_ne e] at q; rw [setV_ne e]; exact h.m.2.2.1 q
    · by_cases e : 8 = k
      · subst e; rw [setV_self]; exact hv.v8 rfl
      · rw [setD_ne e] at q; rw [setV_ne e]; exact h.m.2.2.2.1 q
    · by_cases e : 13 = k
      · subst e; rw [setV_self]; exact hv.v13 rfl
      · rw [setD_ne e] at q; rw [setV_ne e]; exact h.m.2.2.2.2 q
  · intro q
    have hb : d 2 = true ∧ d 5 = true ∧ d 7 = true ∧ d 9 = true := by
      by_cases e : 10 = k
      · exact hbox (.inr (.inl e.symm))
      · rw [setD_ne e] at q; exact hbox (.inl q)
    refine ⟨?_, ?_⟩
    · obtain ⟨q2, q5, q7, q9⟩ := hb
      rw [setD_ne (hne 2 q2), setD_ne (hne 5 q5), setD_ne (hne 7 q7), setD_ne (hne 9 q9)]
      exact ⟨q2, q5, q7, q9⟩
    · rw [hbv hb]
      by_cases e : 10 = k
      · subst e; rw [setV_self]; exact (hv.v10 rfl).2
      · rw [setD_ne e] at q; rw [setV_ne e]; exact (h.b10 q).2
  · intro q
    by_cases e : 11 = k
    · subst e
      obtain ⟨h1, p, h2, h3, h4⟩ := hv.v11 rfl
      refine ⟨by rw [setD_ne (by decide)]; exact h1, p, by rw [setV_self]; exact h2, h3, ?_⟩
      rw [hbv (h.b10 h1).1]
      exact h4
    · rw [setD_ne e] at q
      obtain ⟨h1, p, h2, h3, h4⟩ := h.b11 q
      refine ⟨by rw [setD_ne (hne 10 h1)]; exact h1, p, by rw [setV_ne e]; exact h2, h3, ?_⟩
      rw [hbv (h.b10 h1).1]
      exact hg.2 _ _ h4 (by rw [hone h1]; simp)
  · intro q
    by_cases e : 12 = k
    · subst e
      obtain ⟨h1, h2⟩ := hv.v12 rfl
      exact ⟨by rw [setD_ne (by decide)]; exact h1, by rw [setV_self, setV_ne (by decide)]; exact h2⟩
    · rw [setD_ne e] at q
      obtain ⟨h1, h2⟩ := h.b12 q
      exact ⟨by rw [setD_ne (hne 11 h1)]; exact h1, by rw [setV_ne e, setV_ne (hne 11 h1)]; exact h2⟩
theorem RNew_ok {σ : AH} {x : AV} {s : List UInt8} (h : BytR σ x s) (hl : s.length ≤ 4611686018) (Q : AV → AH → Prop)
    (hy : newG s.length → ∀ a σ', Gr σ σ' none → RefH σ' a ⟨s, s, List.replicate (s.length / 64) false, List.replicate (s.length / 64) false, 0, false⟩ → (∀ id, a.has id → σ.length ≤ id) → Q (.tup [.ptr a.i 0 0 0, .int .i64 0]) σ')
    (hn : ¬ newG s.length → ∀ σ', Gr σ σ' none → Q (.tup [.nilp, .int .i64 1]) σ') : CallS Try.prog F.joistref03_New [x] σ Q := by
  refine call_of_body mixed fc_joistref03_New_ok (by simp [fc_joistref03_New]) ?_
  by_cases hG : newG s.length
  · have hy := hy hG
    obtain ⟨g1, g2, g3⟩ := hG
    repeat' (first
      | ((with_reducible refine Side.intro ?_) <;> (first
      | omega
      ))
      | ((conv => whnf) <;> (first
      | (with_reducible refine and_same ?_)
      | (with_reducible refine and_side ?_ ?_)
      | ((with_reducible apply Br.yes) ; (focus omega))
      | ((with_reducible apply Br.no) ; (focus omega))
      | ((with_reducible apply BytR.lenW) ; (focus assumption))
      ))
      )
    all_goals (conv => whnf)
    all_goals (try dsimp only)
    have no : ∀ {p : Prop} {b : Bool}, (false = true) → p := fun q => by cases q
    refine ⟨⟨fun d fr τ => ∃ v, NI σ x s ((s.length : Int) / 64) d fr τ v, ⟨fun _ => .nils, ?_⟩, ?_, ?_⟩⟩
    · refine ⟨rfl, rfl, Gr.refl _ _, ?_, ?_, ?_, ?_, ?_, ?_, ?_⟩
      · intro _ _ q; cases q
      · intro _ _ _ q; cases q
      · intro _ _ _ q; cases q
      · exact ⟨nofun, nofun, nofun, nofun, nofun⟩
      · intro q; cases q
      · intro q; cases q
      · intro q; cases q
    · rintro d fr τ ⟨v, hN⟩ o ho hd hc
      have hx : BytR τ x s := h.keepN hN.gr
      simp only [List.mem_cons, List.not_mem_nil, or_false] at ho
      have lit0 : Own (newB τ 1 [] true) 1 (.rsl τ.length 0 0 0 none) [] := Own.mk' (sp := []) get_new rfl rfl
      have litN : Own (newB τ 1 (List.replicate (((s.length : Int) / 64).toNat) [.bool false]) true) 1 (.rsl τ.length 0 0 (((s.length : Int) / 64).toNat) none) (bls (List.replicate (((s.length : Int) / 64).toNat) false)) := Own.mk' (sp := []) get_new (by simp [bls]) (by simp [bls])
      have ltN : ∀ id, (AV.rsl τ.length 0 0 0 none).bid = some id → τ.length ≤ id := fun id q => by cases q; exact Nat.le_refl _
      have ltM : ∀ id, (AV.rsl τ.length 0 0 (((s.length : Int) / 64).toNat) none).bid = some id → τ.length ≤ id := fun id q => by cases q; exact Nat.le_refl _
      rcases ho with rfl | rfl | rfl | rfl | rfl | rfl | rfl | rfl | rfl | rfl | rfl | rfl | rfl | rfl
      · refine op_lit0 ?_
        rw [Fr.putOK_eq]
        exact ⟨_, hN.step (k := 0) (by decide) hd (o := none) (Gr.newN (Gr.refl _ _) _ _ _) (.inl rfl) (fun rows hr => by cases hr; exact ⟨lit0, .inr ltN⟩) ⟨nofun, nofun, nofun, nofun, nofun, nofun, nofun, nofun⟩⟩
      · refine op_mv hN.a0 ?_
        rw [Fr.putOK_eq]
        exact ⟨_, hN.step (k := 1) (by decide) hd (o := none) (Gr.refl _ _) (.inl rfl) (fun rows hr => by cases hr) ⟨fun _ => rfl, nofun, nofun, nofun, nofun, nofun, nofun, nofun⟩⟩
      · have c0 := hc 0 (by simp)
        have c1 := hc 1 (by simp)
        refine op_app (hN.g 0 (by decide) c0) ((hN.g 1 (by decide) c1).trans (by rw [hN.m.1 c1])) (hN.ow 0 _ rfl c0 ⟨fun _ => hd, nofun⟩).1 hx hl fun y' σ' h1 h2 h3 => ?_
        rw [Fr.putOK_eq]
        have h4 : (v 0).bid = y'.bid ∨ ∀ id, y'.bid = some id → τ.length ≤ id := by
          rcases h3 with h3 | h3
          · exact .inl h3.symm
          · exact .inr fun id q => by rw [h3] at q; cases q; exact Nat.le_refl _
        refine ⟨_, hN.step (k := 2) (by decide) hd (o := (v 0).bid) h2 (.inr (.inl ⟨rfl, c0, rfl⟩)) (fun rows hr => by cases hr; exact ⟨h1, h4⟩) ⟨nofun, nofun, nofun, nofun, nofun, nofun, nofun, nofun⟩⟩
      · refine op_lit0 ?_
        rw [Fr.putOK_eq]
        exact ⟨_, hN.step (k := 3) (by decide) hd (o := none) (Gr.newN (Gr.refl _ _) _ _ _) (.inl rfl) (fun rows hr => by cases hr; exact ⟨lit0, .inr ltN⟩) ⟨nofun, nofun, nofun, nofun, nofun, nofun, nofun, nofun⟩⟩
      · refine op_mv hN.a0 ?_
        rw [Fr.putOK_eq]
        exact ⟨_, hN.step (k := 4) (by decide) hd (o := none) (Gr.refl _ _) (.inl rfl) (fun rows hr => by cases hr) ⟨nofun, fun _ => rfl, nofun, nofun, nofun, nofun, nofun, nofun⟩⟩
      · have c0 := hc 3 (by simp)
        have c1 := hc 4 (by simp)
        refine op_app (hN.g 3 (by decide) c0) ((hN.g 4 (by decide) c1).trans (by rw [hN.m.2.1 c1])) (hN.ow 3 _ rfl c0 ⟨nofun, fun _ => hd⟩).1 hx hl fun y' σ' h1 h2 h3 => ?_
        rw [Fr.putOK_eq]
        have h4 : (v 3).bid = y'.bid ∨ ∀ id, y'.bid = some id → τ.length ≤ id := by
          rcases h3 with h3 | h3
          · exact .inl h3.symm
          · exact .inr fun id q => by rw [h3] at q; cases q; exact Nat.le_refl _
        refine ⟨_, hN.step (k := 5) (by decide) hd (o := (v 3).bid) h2 (.inr (.inr ⟨rfl, c0, rfl⟩)) (fun rows hr => by cases hr; exact ⟨h1, h4⟩) ⟨nofun, nofun, nofun, nofun, nofun, nofun, nofun, nofun⟩⟩
      · refine op_mv hN.a4 ?_
        rw [Fr.putOK_eq]
        exact ⟨_, hN.step (k := 6) (by decide) hd (o := none) (Gr.refl _ _) (.inl rfl) (fun rows hr => by cases hr) ⟨nofun, nofun, fun _ => rfl, nofun, nofun, nofun, nofun, nofun⟩⟩
      · have c1 := hc 6 (by simp)
        refine op_mk ((hN.g 6 (by decide) c1).trans (by rw [hN.m.2.2.1 c1])) (by omega) ?_
        rw [Fr.putOK_eq]
        exact ⟨_, hN.step (k := 7) (by decide) hd (o := none) (Gr.newN (Gr.refl _ _) _ _ _) (.inl rfl) (fun rows hr => by cases hr; exact ⟨litN, .inr ltM⟩) ⟨nofun, nofun, nofun, nofun, nofun, nofun, nofun, nofun⟩⟩
      · refine op_mv hN.a4 ?_
        rw [Fr.putOK_eq]
        exact ⟨_, hN.step (k := 8) (by decide) hd (o := none) (Gr.refl _ _) (.inl rfl) (fun rows hr => by cases hr) ⟨nofun, nofun, nofun, fun _ => rfl, nofun, nofun, nofun, nofun⟩⟩
      · have c1 := hc 8 (by simp)
        refine op_mk ((hN.g 8 (by decide) c1).trans (by rw [hN.m.2.2.2.1 c1])) (by omega) ?_
        rw [Fr.putOK_eq]
        exact ⟨_, hN.step (k := 9) (by decide) hd (o := none) (Gr.newN (Gr.refl _ _) _ _ _) (.inl rfl) (fun rows hr => by cases hr; exact ⟨litN, .inr ltM⟩) ⟨nofun, nofun, nofun, nofun, nofun, nofun, nofun, nofun⟩⟩
      · have c2 := hc 2 (by simp)
        have c5 := hc 5 (by simp)
        have c7 := hc 7 (by simp)
        have c9 := hc 9 (by simp)
        have e1 := (hN.ow 2 _ rfl c2 ⟨nofun, nofun⟩).1.one
        have e2 := (hN.ow 5 _ rfl c5 ⟨nofun, nofun⟩).1.one
        have e3 := (hN.ow 7 _ rfl c7 ⟨nofun, nofun⟩).1.one
        have e4 := (hN.ow 9 _ rfl c9 ⟨nofun, nofun⟩).1.one
        have f1 : fr.get 24 = some (v 2) := hN.g 2 (by decide) c2
        have f2 : fr.get 27 = some (v 5) := hN.g 5 (by decide) c5
        have f3 : fr.get 29 = some (v 7) := hN.g 7 (by decide) c7
        have f4 : fr.get 31 = some (v 9) := hN.g 9 (by decide) c9
        simp only [guardM, runI, roI, buildR, ev, f1, f2, f3, f4, e1, e2, e3, e4]
        refine ⟨trivial, rfl, Nat.le_of_ble_eq_true rfl, trivial, rfl, Nat.le_of_ble_eq_true rfl, trivial, rfl, Nat.le_of_ble_eq_true rfl, trivial, rfl, Nat.le_of_ble_eq_true rfl, ?_⟩
        rw [Fr.putOK_eq]
        exact ⟨_, hN.step (k := 10) (by decide) hd (o := none) (Gr.refl _ _) (.inl rfl) (fun rows hr => by cases hr) ⟨nofun, nofun, nofun, nofun, nofun, fun _ => ⟨⟨c2, c5, c7, c9⟩, rfl⟩, nofun, nofun⟩⟩
      · have c1 := hc 10 (by simp)
        obtain ⟨_, e1⟩ := hN.b10 c1
        have f1 : fr.get 32 = some (.agg (boxN v)) := (hN.g 10 (by decide) c1).trans (by rw [e1])
        simp only [guardM, runI, efI, evR, ev, f1]
        refine ⟨rfl, rfl, ?_⟩
        rw [Fr.putOK_eq]
        refine ⟨_, hN.step (k := 11) (by decide) hd (o := none) (Gr.newN (Gr.refl _ _) _ _ _) (.inl rfl) (fun rows hr => by cases hr) ⟨nofun, nofun, nofun, nofun, nofun, nofun, fun _ => ⟨c1, _, rfl, hN.gr.1, ?_⟩, nofun⟩⟩
        have ea : allFlat (boxN v) = false := by
          have hne : bs s ≠ [] := by intro e; rw [bs_eq_nil] at e; rw [e] at g1; exact g1 rfl
          have := (hN.b10 c1).1.1
          obtain ⟨i1, gn1, sp1, e1, b1⟩ := (hN.ow 2 _ rfl this ⟨nofun, nofun⟩).1.ne hne
          unfold boxN
          rw [e1]
          rfl
        rw [show AV.cells (.agg (boxN v)) = boxN v from rfl, ea]
        exact get_new
      · have c1 := hc 11 (by simp)
        refine op_mv (hN.g 11 (by decide) c1) ?_
        rw [Fr.putOK_eq]
        exact ⟨_, hN.step (k := 12) (by decide) hd (o := none) (Gr.refl _ _) (.inl rfl) (fun rows hr => by cases hr) ⟨nofun, nofun, nofun, nofun, nofun, nofun, nofun, fun _ => ⟨c1, rfl⟩⟩⟩
      · refine op_mvc ?_
        rw [Fr.putOK_eq]
        exact ⟨_, hN.step (k := 13) (by decide) hd (o := none) (Gr.refl _ _) (.inl rfl) (fun rows hr => by cases hr) ⟨nofun, nofun, nofun, nofun, fun _ => rfl, nofun, nofun, nofun⟩⟩
    · rintro d fr τ ⟨v, hN⟩ hall
      have c2 : d 2 = true := hall _ (List.mem_of_getElem? (i := 2) rfl)
      have c5 : d 5 = true := hall _ (List.mem_of_getElem? (i := 5) rfl)
      have c7 : d 7 = true := hall _ (List.mem_of_getElem? (i := 7) rfl)
      have c9 : d 9 = true := hall _ (List.mem_of_getElem? (i := 9) rfl)
      have c11 : d 11 = true := hall _ (List.mem_of_getElem? (i := 11) rfl)
      have c12 : d 12 = true := hall _ (List.mem_of_getElem? (i := 12) rfl)
      have c13 : d 13 = true := hall _ (List.mem_of_getElem? (i := 13) rfl)
      obtain ⟨_, q, e11, hq, hbox⟩ := hN.b11 c11
      have f2 : fr.get 2 = some (.ptr q 0 0 0) := (hN.g 12 (by decide) c12).trans (by rw [(hN.b12 c12).2, e11])
      have f3 : fr.get 3 = some (.int .i64 0) := (hN.g 13 (by decide) c13).trans (by rw [hN.m.2.2.2.2 c13])
      have hne : bs s ≠ [] := by intro e; rw [bs_eq_nil] at e; rw [e] at g1; exact g1 rfl
      have hnb : bls (List.replicate (((s.length : Int) / 64).toNat) false) ≠ [] := by
        intro e
        have := congrArg List.length e
        simp [bls] at this
        omega
      obtain ⟨o1, n1⟩ := hN.ow 2 _ rfl c2 ⟨nofun, nofun⟩
      obtain ⟨o2, n2⟩ := hN.ow 5 _ rfl c5 ⟨nofun, nofun⟩
      obtain ⟨o3, n3⟩ := hN.ow 7 _ rfl c7 ⟨nofun, nofun⟩
      obtain ⟨o4, n4⟩ := hN.ow 9 _ rfl c9 ⟨nofun, nofun⟩
      have p1 := hN.ap 2 5 (by decide) c2 c5 ⟨nofun, nofun⟩ ⟨nofun, nofun⟩ rfl rfl
      have p2 := hN.ap 2 7 (by decide) c2 c7 ⟨nofun, nofun⟩ ⟨nofun, nofun⟩ rfl rfl
      have p3 := hN.ap 2 9 (by decide) c2 c9 ⟨nofun, nofun⟩ ⟨nofun, nofun⟩ rfl rfl
      have p4 := hN.ap 5 7 (by decide) c5 c7 ⟨nofun, nofun⟩ ⟨nofun, nofun⟩ rfl rfl
      have p5 := hN.ap 5 9 (by decide) c5 c9 ⟨nofun, nofun⟩ ⟨nofun, nofun⟩ rfl rfl
      have p6 := hN.ap 7 9 (by decide) c7 c9 ⟨nofun, nofun⟩ ⟨nofun, nofun⟩ rfl rfl
      obtain ⟨i1, gn1, sp1, e1, b1⟩ := o1.ne hne
      obtain ⟨i2, gn2, sp2, e2, b2⟩ := o2.ne hne
      obtain ⟨i3, gn3, sp3, e3, b3⟩ := o3.ne hnb
      obtain ⟨i4, gn4, sp4, e4, b4⟩ := o4.ne hnb
      unfold boxN at hbox
      rw [e1] at n1 p1 p2 p3 hbox
      rw [e2] at n2 p1 p4 p5 hbox
      rw [e3] at n3 p2 p4 p6 hbox
      rw [e4] at n4 p3 p5 p6 hbox
      have eN : ((s.length : Int) / 64).toNat = s.length / 64 := by omega
      have hqb : ∀ i b, τ[i]? = some b → b.sz = 1 → q ≠ i := fun i b hb h1 e => by
        subst e; rw [hbox] at hb; cases hb; cases h1
      have hq' := hy ⟨q, i1, gn1, sp1, i2, gn2, sp2, i3, gn3, sp3, i4, gn4, sp4⟩ τ hN.gr ⟨by
        rw [hbox]; simp only [bs_length, bls_length, List.length_replicate, eN], b1, b2, by rw [b3, eN], by rw [b4, eN], by
        exact ⟨⟨hqb _ _ b1 rfl, hqb _ _ b2 rfl, hqb _ _ b3 rfl, hqb _ _ b4 rfl⟩, ⟨fun e => p1 _ rfl (by dsimp only at e; rw [e]; rfl), fun e => p2 _ rfl (by dsimp only at e; rw [e]; rfl), fun e => p3 _ rfl (by dsimp only at e; rw [e]; rfl)⟩, ⟨fun e => p4 _ rfl (by dsimp only at e; rw [e]; rfl), fun e => p5 _ rfl (by dsimp only at e; rw [e]; rfl)⟩, fun e => p6 _ rfl (by dsimp only at e; rw [e]; rfl)⟩⟩ (by
        rintro id (w | w | w | w | w)
        · rw [w]; exact hq
        · rw [w]; exact n1 _ rfl
        · rw [w]; exact n2 _ rfl
        · rw [w]; exact n3 _ rfl
        · rw [w]; exact n4 _ rfl)
      simp only [awp, Fr.keepK_eq]
      have k2 := get_keepF (l := [2, 3]) rfl f2
      have k3 := get_keepF (l := [2, 3]) rfl f3
      simp only [fc_joistref03_New, resR, evR, ev, k2, k3]
      exact hq'
      skip
  · have hn := hn hG
    unfold newG at hG
    repeat' (first
      | ((with_reducible refine Side.intro ?_) <;> (first
      | omega
      ))
      | ((conv => whnf) <;> (first
      | (with_reducible refine and_same ?_)
      | (with_reducible refine and_side ?_ ?_)
      | ((with_reducible apply Br.yes) ; (focus omega))
      | (with_reducible refine Br.mk (fun _ => ?_) (fun _ => ?_))
      | ((with_reducible apply BytR.lenW) ; (focus assumption))
      ))
      )
    all_goals (conv => whnf)
    all_goals (try dsimp only)
    all_goals exact hn _ (Gr.refl _ _)
end Go.Proofs.Ythakanioekmhbaa
