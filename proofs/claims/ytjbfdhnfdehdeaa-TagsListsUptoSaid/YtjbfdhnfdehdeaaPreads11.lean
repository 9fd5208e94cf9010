import Derived.Test.YtjbfdhnfdehdeaaPdat
import Derived.Test.YtjbfdhnfdehdeaaVJ
namespace Go.Proofs.Ytjbfdhnfdehdeaa
open Go Go.Proofs.Ytjbfdhnfdehdeaa.V
theorem readsDat {B : BulkF} (hB : Bulky B) : ReadsA Try.prog B 23 (fun D : List (List UInt8) => .sl 1 (dat D) false) (fun D => (D.map fun s => s.length + 1).sum) (fun _ => True) := by
  refine .slice Try.underlying23 ?_
  exact Reads.iso (Reads.slice hB (sz := 1) Try.underlying23 (by kernel_rfl) (Reads.bytes hB Try.underlying26 (e := 5) (by kernel_rfl) (by kernel_rfl)) (fun _ => rfl)) id (fun _ => rfl) (fun l _ => Nat.le_succ _) (fun _ _ => trivial)
theorem dat_bd {D : List (List UInt8)} {n : Nat} (h : (D.map fun s => s.length + 1).sum ≤ n) : D.length ≤ n ∧ ∀ d, d ∈ D → d.length ≤ n := by
  induction D generalizing n with
  | nil => simp
  | cons d D ih =>
    simp only [List.map_cons, List.sum_cons] at h
    obtain ⟨h1, h2⟩ := ih (n := n - (d.length + 1)) (by omega)
    refine ⟨by simp only [List.length_cons]; omega, fun e he => ?_⟩
    rcases List.mem_cons.1 he with rfl | he
    · omega
    · have := h2 e he; omega
theorem readsBlock {B : BulkF} (hB : Bulky B) : Reads Try.prog B 44 (fun p : Int × Int × Int => [.int .i64 p.1, .int .i64 p.2.1, .int .i64 p.2.2]) (fun _ => 1) (fun _ => True) := by
  have h := Reads.struct3 (n1 := 1) (n2 := 1) (n3 := 1) hB Try.underlying44 (by kernel_rfl) (.i64 hB (by kernel_rfl)) (.i64 hB (by kernel_rfl)) (.i64 hB (by kernel_rfl)) rfl (by kernel_rfl) rfl (by kernel_rfl) rfl (by kernel_rfl)
  exact h.iso (fun p => (p.1, p.2.1, p.2.2.1)) (fun _ => rfl) (fun p _ => by omega) (fun _ _ => trivial)
theorem readsBk {B : BulkF} (hB : Bulky B) : ReadsA Try.prog B 22 (fun U : List (Int × Int × Int) => .sl 3 (bk U) false) (fun U => U.length) (fun _ => True) := by
  refine .slice Try.underlying22 ?_
  refine Reads.iso (Reads.slice hB (sz := 3) Try.underlying22 (by kernel_rfl) (readsBlock hB) (fun _ => rfl)) id (fun _ => rfl) (fun l _ => ?_) (fun _ _ => trivial)
  rw [sum_ones]
  exact Nat.le_succ _
end Go.Proofs.Ytjbfdhnfdehdeaa
