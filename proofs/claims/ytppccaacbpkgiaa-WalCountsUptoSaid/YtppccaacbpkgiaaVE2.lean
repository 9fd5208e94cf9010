/-
  VE2: blocks that are no cells: laid, turned; a block of nobody's that is shut.
-/
import Derived.Test.YtppccaacbpkgiaaVE
namespace Go.Proofs.Ytppccaacbpkgiaa.V
open Go Go.RowKit
variable [Zone]
set_option linter.unusedSimpArgs false
set_option linter.unusedVariables false
section
variable {P : Program} {w w' : World} {E E' : Env} {σ σ' : AH}

omit [Zone] in
/-- Nobody's block that is no cells is turned: what is told by value stands. -/
theorem keep_shut {D : Nat} {o : Obj} {ds : Option (List Deferred)} (hD : w.heap[D]? = some (.deferred ds)) (W : Nat → Prop) : KeepV w W (w.putObj D o) W := by
  refine ⟨fun g hg hn ⟨a, v, ha, hc⟩ => World.putObj_heap_other fun q => ?_, fun g h => .inl h⟩
  subst q
  subst ha
  unfold World.cell? at hc
  rw [hD] at hc
  simp at hc
theorem Rel.shut (hr : Rel σ E w) {D : Nat} {o : Obj} {ds : Option (List Deferred)} (hD : w.heap[D]? = some (.deferred ds)) : Rel σ E (w.putObj D o) := by
  have hk := keep_shut (o := o) hD (EW E)
  have hms : ∀ (id : Nat) (m : MI), E[id]? = some m → ∃ m' : MI, E[id]? = some m' ∧ m.gen ≤ m'.gen ∧ (m.gen = m'.gen → m'.sz = m.sz ∧ m'.place = m.place) := fun id m h => ⟨m, h, Nat.le_refl _, fun _ => ⟨rfl, rfl⟩⟩
  refine ⟨hr.len, by rw [World.putObj_size]; exact hr.base, hr.fresh, ?_, hr.inj⟩
  intro id b hb
  obtain ⟨m, hm, hok⟩ := hr.blk id b hb
  refine ⟨m, hm, ?_⟩
  cases he : b.ext with
  | none =>
    obtain ⟨h1, h2, h3, h4, h5, h6⟩ := hok.cells he
    refine BlkAny.of ⟨h1, h2, h3, h4, h5, ?_⟩ he
    split at h6
    · exact h6
    · rename_i g c hp
      obtain ⟨k1, k2, cur, e, lo, hi, k3, k4, k5, k6, k7⟩ := h6
      have hne : g ≠ D := fun q => by subst q; rw [hD] at k3; cases k3
      refine ⟨k1, k2, cur, e, lo, hi, (World.putObj_heap_other hne).trans k3, k4, k5, k6, ?_⟩
      split at k7
      · rename_i hp; rw [if_pos hp]; exact k7.keep hk
      · rename_i hp; rw [if_neg hp]; exact RepL.keepM hk hms k7
  | some x =>
    obtain ⟨k1, k2, k3, k4, k5, k6, g, c, k7, k8, k9⟩ := hok.isExt he
    have hne : g ≠ D := fun q => by
      subst q
      cases x with
      | map es clock => have h9 : w.heap[g]? = _ := k9; rw [hD] at h9; cases h9
      | loop l => have h9 : w.heap[g]? = _ := k9; rw [hD] at h9; cases h9
      | iter id' gen since seen stepped =>
        obtain ⟨gm, q0, _⟩ := k9
        rw [hD] at q0; cases q0
    refine BlkAny.ofExt ⟨k1, k2, k3, k4, k5, k6, g, c, k7, by rw [World.putObj_size]; exact k8, ?_⟩ he
    have e9 := World.putObj_heap_other (w := w) (o := o) hne
    cases x with
    | map es clock => exact e9.trans k9
    | loop l => exact e9.trans k9
    | iter id' gen since seen stepped =>
      obtain ⟨gm, q0, q1⟩ := k9
      exact ⟨gm, e9.trans q0, q1⟩
end
end Go.Proofs.Ytppccaacbpkgiaa.V
