import Derived.Test.YtbmocdcfcdmmkaaPlaws08e
import Derived.Test.YtbmocdcfcdmmkaaVJ
namespace Go.Proofs.Ytbmocdcfcdmmkaa
open Go Go.Proofs.Ytbmocdcfcdmmkaa.V
theorem readsSl {B : BulkF} (hB : Bulky B) : Reads Try.prog B 24 (fun s : Sl => s.row) (fun _ => 1) (fun _ => True) := by
  have h := Reads.struct5 (n1 := 1) (n2 := 1) (n3 := 1) (n4 := 1) (n5 := 1) hB Try.underlying24 (by kernel_rfl) (.i64 hB (by kernel_rfl)) (.bool hB (by kernel_rfl)) (.bool hB (by kernel_rfl)) (.i64 hB (by kernel_rfl)) (.i64 hB (by kernel_rfl)) rfl (by kernel_rfl) rfl (by kernel_rfl) rfl (by kernel_rfl) rfl (by kernel_rfl) rfl (by kernel_rfl)
  exact h.iso (fun x => (⟨x.1, x.2.1, x.2.2.1, x.2.2.2.1, x.2.2.2.2.1⟩ : Sl)) (fun _ => rfl) (fun _ _ => by omega) (fun _ _ => trivial)
theorem readsSlot {B : BulkF} (hB : Bulky B) : ReadsA Try.prog B 24 (fun s : Sl => s.av) (fun _ => 1) (fun _ => True) := ReadsA.struct Try.underlying24 (readsSl hB)
theorem readsSlots {B : BulkF} (hB : Bulky B) : ReadsA Try.prog B 22 (fun l : List Sl => .sl 5 (ss l) false) (fun l => l.length) (fun _ => True) := by
  refine .slice Try.underlying22 ?_
  refine Reads.iso (Reads.slice hB (sz := 5) Try.underlying22 (by kernel_rfl) (readsSl hB) (fun _ => rfl)) id (fun _ => rfl) (fun l _ => ?_) (fun _ _ => trivial)
  rw [sum_ones]
  exact Nat.le_succ _
theorem readsHandle {B : BulkF} (hB : Bulky B) : ReadsA Try.prog B 27 (fun x : Int × Int => hav x.1 x.2) (fun _ => 1) (fun _ => True) := by
  have h := Reads.struct2 (n1 := 1) (n2 := 1) hB Try.underlying27 (by kernel_rfl) (.i64 hB (by kernel_rfl)) (.i64 hB (by kernel_rfl)) rfl (by kernel_rfl) rfl (by kernel_rfl)
  have h2 := Reads.iso h (fun x => (x.1, x.2.1)) (enc' := fun x : Int × Int => [.int .i64 x.1, .int .i64 x.2]) (μ' := fun _ => 1) (ok' := fun _ => True) (fun _ => rfl) (fun _ _ => by omega) (fun _ _ => trivial)
  exact ReadsA.struct Try.underlying27 h2
theorem readsAc {B : BulkF} (hB : Bulky B) : Reads Try.prog B 40 (fun c : Ac => c.row) (fun _ => 1) (fun _ => True) := by
  have h := Reads.struct3 (n1 := 1) (n2 := 5) (n3 := 1) hB Try.underlying40 (by kernel_rfl) (.i64 hB (by kernel_rfl)) (readsSl hB) (.i64 hB (by kernel_rfl)) rfl (by kernel_rfl) rfl (by kernel_rfl) rfl (by kernel_rfl)
  exact h.iso (fun x => (⟨x.1, x.2.1, x.2.2.1⟩ : Ac)) (fun _ => rfl) (fun _ _ => by omega) (fun _ _ => trivial)
theorem readsActs {B : BulkF} (hB : Bulky B) : ReadsA Try.prog B 36 (fun l : List Ac => .sl 7 (acs l) false) (fun l => l.length) (fun _ => True) := by
  refine .slice Try.underlying36 ?_
  refine Reads.iso (Reads.slice hB (sz := 7) Try.underlying36 (by kernel_rfl) (readsAc hB) (fun _ => rfl)) id (fun _ => rfl) (fun l _ => ?_) (fun _ _ => trivial)
  rw [sum_ones]
  exact Nat.le_succ _
end Go.Proofs.Ytbmocdcfcdmmkaa
