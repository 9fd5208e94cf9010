/-
  VE2: blocks that are no cells: laid, turned; a block of nobody's that is shut.
-/
import Derived.Test.YthalikgchafjiaaVE
namespace Go.Proofs.Ythalikgchafjiaa.V
open Go Go.RowKit
variable [Zone]
set_option linter.unusedSimpArgs false
set_option linter.unusedVariables false
section
variable {P : Program} {w w' : World} {E E' : Env} {σ σ' : AH}

/-- A new block that is no cells. -/
theorem new_ext (hr : Rel σ E w) {o : Obj} (hg : Grows w w' o) (b : Blk) (x : Ext) (hx : b.ext = some x) (hb0 : b.gen = 0) (hbw : b.wr = true) (hsz : b.sz = 0) (hels : b.els = []) (hpu : b.pure = false)
    (hat : ExtAt w' (E ++ [⟨0, 0, true, some (w.heap.size, 0)⟩]) w.heap.size x) :
    Step E w (E ++ [⟨0, 0, true, some (w.heap.size, 0)⟩]) w' ∧ Rel (σ ++ [b]) (E ++ [⟨0, 0, true, some (w.heap.size, 0)⟩]) w' := by
  have hs : Step E w (E ++ [⟨0, 0, true, some (w.heap.size, 0)⟩]) w' := by
    refine ⟨hg.os, hg.tape, hg.output, by rw [hg.heap]; simp, fun g hlt _ => hg.old hlt, ?_, ?_⟩
    · intro g h
      rcases ew_append h with h | ⟨c', h⟩
      · exact .inl h
      · cases h; exact .inr (Nat.le_refl _)
    · intro id m hm
      have hlt : id < E.length := (List.getElem?_eq_some_iff.1 hm).1
      exact ⟨m, by rw [List.getElem?_append_left hlt]; exact hm, Nat.le_refl _, fun _ => ⟨rfl, rfl⟩⟩
  refine ⟨hs, hr.change hs (by simp [hr.len]) σ.length ?_ ?_ ?_ ?_ ?_⟩
  · intro id hne
    by_cases hlt : id < σ.length
    · rw [List.getElem?_append_left hlt, List.getElem?_append_left (by rw [hr.len]; exact hlt)]; exact ⟨rfl, rfl⟩
    · have h1 : σ.length + 1 ≤ id := by omega
      rw [List.getElem?_eq_none (by simp; omega), List.getElem?_eq_none (by omega), List.getElem?_eq_none (by simp [hr.len]; omega), List.getElem?_eq_none (by rw [hr.len]; omega)]
      exact ⟨rfl, rfl⟩
  · intro id m g c' _ hm hp
    exact hg.old (hr.place_lt hm hp)
  · intro b' hb'
    rw [List.getElem?_append_right (Nat.le_refl _)] at hb'
    simp at hb'
    subst hb'
    exact ⟨⟨0, 0, true, some (w.heap.size, 0)⟩, by rw [← hr.len, List.getElem?_append_right (Nat.le_refl _)]; simp, BlkAny.ofExt ⟨hb0.symm, rfl, hsz, hbw.symm, hels, hpu, _, _, rfl, by rw [hg.heap]; simp, hat⟩ hx⟩
  · intro m g c' hm hp
    rw [← hr.len, List.getElem?_append_right (Nat.le_refl _)] at hm
    simp at hm
    subst hm
    cases hp
    exact hr.base
  · intro id m m' g c1 c2 hne hm hm' hp hp' _
    rw [← hr.len, List.getElem?_append_right (Nat.le_refl _)] at hm'
    simp at hm'
    subst hm'
    cases hp'
    have := hr.place_lt hm hp
    omega

/-- A block that is no cells becomes another. -/
theorem write_ext (hr : Rel σ E w) {id : Nat} {b b' : Blk} {x x' : Ext} {m : MI} {g c : Nat} (hb : σ[id]? = some b) (hm : E[id]? = some m) (hx : b.ext = some x) (hw : b.wr = true) (hp : m.place = some (g, c)) {o : Obj} (hh : w' = w.putObj g o)
    (hx' : b'.ext = some x') (b1 : b'.gen = b.gen) (b2 : b'.sz = 0) (b3 : b'.wr = true) (b4 : b'.els = []) (b5 : b'.pure = false) (hat : ExtAt w' E g x') : Step E w E w' ∧ Rel (σ.set id b') E w' := by
  obtain ⟨m0, hm0, hok⟩ := hr.blk id b hb
  rw [hm] at hm0; cases hm0
  obtain ⟨k1, k2, k3, k4, k5, k6, g0, c0, k7, k8, k9⟩ := hok.isExt hx
  rw [hp] at k7; cases k7
  have hmw : m.wr = true := k4.trans hw
  have hoth : ∀ k, k ≠ g → w'.heap[k]? = w.heap[k]? := fun k hk => by rw [hh]; exact World.putObj_heap_other hk
  have hsz : w'.heap.size = w.heap.size := by rw [hh]; exact World.putObj_size
  have hs : Step E w E w' := by
    refine ⟨by rw [hh]; rfl, by rw [hh]; rfl, by rw [hh]; rfl, by omega, ?_, fun g h => .inl h, fun id m h => ⟨m, h, Nat.le_refl _, fun _ => ⟨rfl, rfl⟩⟩⟩
    intro k hk hn
    refine hoth k (fun q => hn ?_)
    subst q
    exact ⟨id, m, c, hm, hmw, hp⟩
  refine ⟨hs, hr.change hs (by simp [hr.len]) id ?_ ?_ ?_ (hr.fresh id) ?_⟩
  · intro id' hne
    exact ⟨List.getElem?_set_ne (fun q => hne q.symm), rfl⟩
  · intro id' m' g' c' hne hm' hp'
    refine hoth g' (fun q => ?_)
    subst q
    exact hr.inj id id' m m' g' c c' (fun q => hne q.symm) hm hm' hmw hp hp'
  · intro b'' hb''
    rw [set_get_self hb] at hb''
    cases hb''
    exact ⟨m, hm, BlkAny.ofExt ⟨k1.trans b1.symm, k2, b2, hmw.trans b3.symm, b4, b5, g, c, hp, by omega, hat⟩ hx'⟩
  · intro id' m1 m2 g' c1 c2 hne hm1 hm2 hp1 hp2 _
    rw [hm] at hm2; cases hm2
    exact hr.inj id id' m m1 g' c2 c1 (fun q => hne q.symm) hm hm1 hmw hp2 hp1

omit [Zone] in
/-- Nobody's block that is no cells is turned: what is told by value stands. -/
theorem keep_shut {D : Nat} {o : Obj} {ds : Option (List Deferred)} (hD : w.heap[D]? = some (.deferred ds)) (W : Nat → Prop) : KeepV w W (w.putObj D o) W := by
  refine ⟨fun g hg hn ⟨a, v, ha, hc⟩ => World.putObj_heap_other fun q => ?_, fun g h => .inl h⟩
  subst q
  subst ha
  unfold World.cell? at hc
  rw [hD] at hc
  simp at hc
theorem Rel.shut (hr : Rel σ E w) {D : Nat} {o : Obj} {ds : Option (List Deferred)} (hD : w.heap[D]? = some (.deferred ds)) : Rel σ E (w.putObj D o) := by
  have hk := keep_shut (o := o) hD (EW E)
  have hms : ∀ (id : Nat) (m : MI), E[id]? = some m → ∃ m' : MI, E[id]? = some m' ∧ m.gen ≤ m'.gen ∧ (m.gen = m'.gen → m'.sz = m.sz ∧ m'.place = m.place) := fun id m h => ⟨m, h, Nat.le_refl _, fun _ => ⟨rfl, rfl⟩⟩
  refine ⟨hr.len, by rw [World.putObj_size]; exact hr.base, hr.fresh, ?_, hr.inj⟩
  intro id b hb
  obtain ⟨m, hm, hok⟩ := hr.blk id b hb
  refine ⟨m, hm, ?_⟩
  cases he : b.ext with
  | none =>
    obtain ⟨h1, h2, h3, h4, h5, h6⟩ := hok.cells he
    refine BlkAny.of ⟨h1, h2, h3, h4, h5, ?_⟩ he
    split at h6
    · exact h6
    · rename_i g c hp
      obtain ⟨k1, k2, cur, e, lo, hi, k3, k4, k5, k6, k7⟩ := h6
      have hne : g ≠ D := fun q => by subst q; rw [hD] at k3; cases k3
      refine ⟨k1, k2, cur, e, lo, hi, (World.putObj_heap_other hne).trans k3, k4, k5, k6, ?_⟩
      split at k7
      · rename_i hp; rw [if_pos hp]; exact k7.keep hk
      · rename_i hp; rw [if_neg hp]; exact RepL.keepM hk hms k7
  | some x =>
    obtain ⟨k1, k2, k3, k4, k5, k6, g, c, k7, k8, k9⟩ := hok.isExt he
    have hne : g ≠ D := fun q => by
      subst q
      cases x with
      | map es clock => have h9 : w.heap[g]? = _ := k9; rw [hD] at h9; cases h9
      | loop l => have h9 : w.heap[g]? = _ := k9; rw [hD] at h9; cases h9
      | iter id' gen since seen stepped =>
        obtain ⟨gm, q0, _⟩ := k9
        rw [hD] at q0; cases q0
    refine BlkAny.ofExt ⟨k1, k2, k3, k4, k5, k6, g, c, k7, by rw [World.putObj_size]; exact k8, ?_⟩ he
    have e9 := World.putObj_heap_other (w := w) (o := o) hne
    cases x with
    | map es clock => exact e9.trans k9
    | loop l => exact e9.trans k9
    | iter id' gen since seen stepped =>
      obtain ⟨gm, q0, q1⟩ := k9
      exact ⟨gm, e9.trans q0, q1⟩
end
end Go.Proofs.Ythalikgchafjiaa.V
