/- WalBack: whatever comes in (of bulk at most 1048576), the law returns true and what came in reads as it did. No condition beyond the row's own. -/
import Derived.Test.YtppccaacbpkgiaaRows
import Derived.Test.YtppccaacbpkgiaaQ3
import Derived.Test.YtppccaacbpkgiaaVJ
namespace Go.Proofs.Ytppccaacbpkgiaa.rowWalBack
open Go Go.RowKit Go.ChangeShapes Go.WideShapes Go.Proofs.Ytppccaacbpkgiaa.V
set_option linter.unusedVariables false
theorem own : ownKnob Try.prog.godebug = none := by kernel_rfl
theorem laid : laidOutB Try.prog = true := by kernel_rfl
theorem rec : (Try.f7.params.toList.all fun t => Try.prog.readableRec t && decide (t < Try.prog.types.size)) = true := by kernel_rfl
theorem bulkAll {H : Type} : ∀ l : List (DataW H), (l.map fun d => Rows.uptoBulk d).sum = Rows.uptoBulkAll l
  | [] => rfl
  | d :: r => by simp only [List.map_cons, List.sum_cons, Rows.uptoBulkAll, bulkAll r]
theorem bulky : Bulky fun H => Rows.uptoBulk (H := H) := by
  refine ⟨?_, ?_, ?_, ?_⟩
  · intro H d
    cases d with
    | lit l => cases l <;> simp [Rows.uptoBulk]
    | nil => simp [Rows.uptoBulk]
    | ptr d => simp [Rows.uptoBulk]
    | slice e s => simp [Rows.uptoBulk]
    | agg p => simp [Rows.uptoBulk]
    | iface t d => simp [Rows.uptoBulk]
    | map e => simp [Rows.uptoBulk]
    | held h => simp [Rows.uptoBulk]
  · intro H s; simp [Rows.uptoBulk]
  · intro H es sp
    rw [bulkAll]; simp only [Rows.uptoBulk]; omega
  · intro H es
    rw [bulkAll]; simp only [Rows.uptoBulk]; omega
set_option maxRecDepth 100000 in
theorem contract (H : Type) (enc : TypeId × Value → H) (W : World) (base : Nat) (args : Array Value) (ds gs : List (DataW H)) (before : List MemPlace)
    (hval : ∀ (j : Nat) t v, Try.f7.params[j]? = some t → args[j]? = some v → Value.okWide Try.prog W .any base t v)
    (hW : DataW.Whole enc Try.prog Try.f7.params.toList Rows.walBackSpec.vars false W args.toList ds gs before) (hk : Rows.uptoSmall H (ds ++ gs) = true) :
    Calls Try.prog 7 args W fun e W' => ∃ v, e = .returned v ∧ Rows.walBackSpec.post enc Try.prog Try.f7 false true false false W args v W' := by
  refine law_post (B := fun H => Rows.uptoBulk (H := H)) (N := 1048576) laid ?_ rfl (tb := 4) rfl (by kernel_rfl) (ts := [27, 23, 24]) rfl (.cons (.bytes bulky (e := 5) (by kernel_rfl) (by kernel_rfl) (by kernel_rfl)) (.cons (readsLog bulky) (.cons (readsChanges5 bulky) .nil))) ?_ hval hW ?_ ?_
  · intro t ht
    have := List.all_eq_true.1 rec t ht
    simpa using this
  · 
    rintro ⟨s, g, L, _⟩ ho h
    dsimp only at ho h ⊢
    obtain ⟨h1, h2⟩ := chg_bd (l := L) (n := 1048576) (by omega)
    exact (WalBack_ok s g L (by omega) h1 (chg_in ho.2.2.1)).law
  · rw [bulkAll]; exact of_decide_eq_true hk
  · intro ds hl
    rw [Try.params7] at hl
    match ds, hl with
    | [d1, d2, d3], _ => rfl
set_option maxRecDepth 100000 in
theorem lifted (os : Os) (started : os.Started) (H : Type) (enc : TypeId × Value → H) (F : Stop.Interp) :
    ReturnsInHanded {} Try.checked os 7 .any ((Rows.OpenSpec.upto Rows.walBackSpec).pre6 enc Try.prog Try.f7 Rows.walBackUptoRow.domain false) (((Rows.OpenSpec.upto Rows.walBackSpec).at F).post enc Try.prog Try.f7 false true false false) := by
  refine returnsInHanded_of_cond (C := Try.checked) (s := Rows.OpenSpec.upto Rows.walBackSpec) (k := Rows.uptoSmall) rfl own started (by kernel_rfl) Try.func7
    (OpenSpec.witness (enc := enc) (C := Try.checked) (s := Rows.OpenSpec.upto Rows.walBackSpec) (k := Rows.uptoSmall) rfl false ⟨#[], #[.slice none 0 0, .agg #[.int .i64 0, .int .i64 0, .int .i64 0], .slice none 0 0], []⟩ 8 (by kernel_rfl) (by kernel_rfl) (by kernel_rfl)
      (x := ([.nil, .agg [.lit (.int .i64 0), .lit (.int .i64 0), .lit (.int .i64 0)], .nil], [], [])) (by kernel_rfl) rfl (by kernel_rfl)) ?_
  intro W base args ds gs before hval hW _ hk _
  exact contract H enc W base args ds gs before hval hW hk
theorem proved : Rows.WalBackUptoSaid :=
  OpenClaim.holds_of_cond 7 Try.f7 rfl rfl rfl rfl rfl rfl rfl ⟨rfl, rfl, rfl, rfl, rfl⟩ rfl rfl rfl rfl rfl (by kernel_rfl) Try.func7 (by kernel_rfl)
    (of_decide_eq_true (by kernel_rfl)) (by unfold Func.isWrapper; first | (rw [if_pos (by decide +kernel)]; kernel_rfl) | (rw [if_neg (by decide +kernel)]; exact ⟨rfl, rfl⟩))
    (fun os started H enc _ F => lifted os started H enc F)
end Go.Proofs.Ytppccaacbpkgiaa.rowWalBack
