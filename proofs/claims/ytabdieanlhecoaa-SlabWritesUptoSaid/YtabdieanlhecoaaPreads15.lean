import Derived.Test.YtabdieanlhecoaaPslab2
import Derived.Test.YtabdieanlhecoaaVJ
namespace Go.Proofs.Ytabdieanlhecoaa
open Go Go.Proofs.Ytabdieanlhecoaa.V
theorem readsDat {B : BulkF} (hB : Bulky B) : ReadsA Try.prog B 23 (fun D : List (List UInt8) => .sl 1 (dat D) false) (fun D => (D.map fun s => s.length + 1).sum) (fun _ => True) := by
  refine .slice Try.underlying23 ?_
  exact Reads.iso (Reads.slice hB (sz := 1) Try.underlying23 (by kernel_rfl) (Reads.bytes hB Try.underlying26 (e := 5) (by kernel_rfl) (by kernel_rfl)) (fun _ => rfl)) id (fun _ => rfl) (fun l _ => Nat.le_succ _) (fun _ _ => trivial)
theorem dat_bd {D : List (List UInt8)} {n : Nat} (h : (D.map fun s => s.length + 1).sum ≤ n) : D.length ≤ n ∧ ∀ d, d ∈ D → d.length ≤ n := by
  induction D generalizing n with
  | nil => simp
  | cons d D ih =>
    simp only [List.map_cons, List.sum_cons] at h
    obtain ⟨h1, h2⟩ := ih (n := n - (d.length + 1)) (by omega)
    refine ⟨by simp only [List.length_cons]; omega, fun e he => ?_⟩
    rcases List.mem_cons.1 he with rfl | he
    · omega
    · have := h2 e he; omega
end Go.Proofs.Ytabdieanlhecoaa
