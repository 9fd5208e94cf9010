import Derived.Test.YthakanioekmhbaaPlaws03b
import Derived.Test.YthakanioekmhbaaVJ
namespace Go.Proofs.Ythakanioekmhbaa
open Go Go.Proofs.Ythakanioekmhbaa.V
theorem readsKeep {B : BulkF} (hB : Bulky B) : Reads Try.prog B 24 (fun l : List Bool => [.sl 1 (bls l) false]) (fun l => l.length + 1) (fun _ => True) := by
  refine Reads.iso (Reads.slice hB (sz := 1) Try.underlying24 (by kernel_rfl) (Reads.bool hB Try.underlying4) (fun _ => rfl)) id (fun _ => rfl) (fun l _ => ?_) (fun _ _ => trivial)
  rw [sum_ones]
  exact Nat.le_refl _
theorem readsAct {B : BulkF} (hB : Bulky B) : Reads Try.prog B 31 actR (fun c => c.B.length + c.K.length + 1) (fun c => inI c.N) := by
  have h := Reads.struct5 (n1 := 1) (n2 := 1) (n3 := 1) (n4 := 1) (n5 := 1) hB Try.underlying31 (by kernel_rfl) (.i64 hB (by kernel_rfl)) (.i64 hB (by kernel_rfl)) (.i64 hB (by kernel_rfl)) (.bytes (e := 5) hB (by kernel_rfl) (by kernel_rfl) (by kernel_rfl)) (readsKeep hB) rfl (by kernel_rfl) rfl (by kernel_rfl) rfl (by kernel_rfl) rfl (by kernel_rfl) rfl (by kernel_rfl)
  exact h.iso (fun x => (⟨x.1, x.2.1, x.2.2.1, x.2.2.2.1, x.2.2.2.2.1⟩ : ActV)) (fun _ => rfl) (fun _ _ => by dsimp only; omega) (fun _ q => q.2.2.1)
theorem readsActs {B : BulkF} (hB : Bulky B) : ReadsA Try.prog B 23 (fun l : List ActV => .sl 5 (acR l) false) (fun l => (l.map fun c => c.B.length + c.K.length + 1).sum) (fun l => ∀ c, c ∈ l → inI c.N) := by
  refine .slice Try.underlying23 ?_
  exact Reads.iso (Reads.slice hB (sz := 5) Try.underlying23 (by kernel_rfl) (readsAct hB) (fun _ => rfl)) id (fun _ => rfl) (fun l _ => Nat.le_succ _) (fun _ q => q)
theorem readsKeepA {B : BulkF} (hB : Bulky B) : ReadsA Try.prog B 24 (fun l : List Bool => .sl 1 (bls l) false) (fun l => l.length + 1) (fun _ => True) := .slice Try.underlying24 (readsKeep hB)
theorem act_bd {l : List ActV} {n : Nat} (h : (l.map fun c => c.B.length + c.K.length + 1).sum ≤ n) : l.length ≤ n ∧ ∀ c, c ∈ l → c.B.length ≤ n ∧ c.K.length ≤ n := by
  induction l generalizing n with
  | nil => simp
  | cons d D ih =>
    simp only [List.map_cons, List.sum_cons] at h
    obtain ⟨h1, h2⟩ := ih (n := n - (d.B.length + d.K.length + 1)) (by omega)
    refine ⟨by simp only [List.length_cons]; omega, fun e he => ?_⟩
    rcases List.mem_cons.1 he with rfl | he
    · omega
    · have := h2 e he; omega
end Go.Proofs.Ythakanioekmhbaa
