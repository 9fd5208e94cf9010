/- WalCounts: whatever comes in (of bulk at most 1048576), the law returns true and what came in reads as it did. No condition beyond the row's own. -/
import Derived.Test.YtppccaacbpkgiaaRows
import Derived.Test.YtppccaacbpkgiaaQ3
import Derived.Test.YtppccaacbpkgiaaVJ
namespace Go.Proofs.Ytppccaacbpkgiaa.rowWalCounts
open Go Go.RowKit Go.ChangeShapes Go.WideShapes Go.Proofs.Ytppccaacbpkgiaa.V
set_option linter.unusedVariables false
theorem own : ownKnob Try.prog.godebug = none := by kernel_rfl
theorem laid : laidOutB Try.prog = true := by kernel_rfl
theorem rec : (Try.f5.params.toList.all fun t => Try.prog.readableRec t && decide (t < Try.prog.types.size)) = true := by kernel_rfl
theorem bulkAll {H : Type} : ∀ l : List (DataW H), (l.map fun d => Rows.uptoBulk d).sum = Rows.uptoBulkAll l
  | [] => rfl
  | d :: r => by simp only [List.map_cons, List.sum_cons, Rows.uptoBulkAll, bulkAll r]
theorem bulky : Bulky fun H => Rows.uptoBulk (H := H) := by
  refine ⟨?_, ?_, ?_, ?_⟩
  · intro H d
    cases d with
    | lit l => cases l <;> simp [Rows.uptoBulk]
    | nil => simp [Rows.uptoBulk]
    | ptr d => simp [Rows.uptoBulk]
    | slice e s => simp [Rows.uptoBulk]
    | agg p => simp [Rows.uptoBulk]
    | iface t d => simp [Rows.uptoBulk]
    | map e => simp [Rows.uptoBulk]
    | held h => simp [Rows.uptoBulk]
  · intro H s; simp [Rows.uptoBulk]
  · intro H es sp
    rw [bulkAll]; simp only [Rows.uptoBulk]; omega
  · intro H es
    rw [bulkAll]; simp only [Rows.uptoBulk]; omega
set_option maxRecDepth 100000 in
theorem contract (H : Type) (enc : TypeId × Value → H) (W : World) (base : Nat) (args : Array Value) (ds gs : List (DataW H)) (before : List MemPlace)
    (hval : ∀ (j : Nat) t v, Try.f5.params[j]? = some t → args[j]? = some v → Value.okWide Try.prog W .any base t v)
    (hW : DataW.Whole enc Try.prog Try.f5.params.toList Rows.walCountsSpec.vars false W args.toList ds gs before) (hk : Rows.uptoSmall H (ds ++ gs) = true) :
    Calls Try.prog 5 args W fun e W' => ∃ v, e = .returned v ∧ Rows.walCountsSpec.post enc Try.prog Try.f5 false true false false W args v W' := by
  refine law_post (B := fun H => Rows.uptoBulk (H := H)) (N := 1048576) laid ?_ rfl (tb := 4) rfl (by kernel_rfl) (ts := [27, 23, 24, 3]) rfl (.cons (.bytes bulky (e := 5) (by kernel_rfl) (by kernel_rfl) (by kernel_rfl)) (.cons (readsLog bulky) (.cons (readsChanges5 bulky) (.cons (.i64 bulky (by kernel_rfl)) .nil)))) ?_ hval hW ?_ ?_
  · intro t ht
    have := List.all_eq_true.1 rec t ht
    simpa using this
  · 
    rintro ⟨s, g, L, k, _⟩ ho h
    dsimp only at ho h ⊢
    obtain ⟨h1, h2⟩ := chg_bd (l := L) (n := 1048576) (by omega)
    exact (WalCounts_ok s g L k (by omega) h1 (chg_in ho.2.2.1) ⟨ho.2.2.2.1.2, ho.2.2.2.1.1⟩).law
  · rw [bulkAll]; exact of_decide_eq_true hk
  · intro ds hl
    rw [Try.params5] at hl
    match ds, hl with
    | [d1, d2, d3, d4], _ => rfl
set_option maxRecDepth 100000 in
theorem lifted (os : Os) (started : os.Started) (H : Type) (enc : TypeId × Value → H) (F : Stop.Interp) :
    ReturnsInHanded {} Try.checked os 5 .any ((Rows.OpenSpec.upto Rows.walCountsSpec).pre6 enc Try.prog Try.f5 Rows.walCountsUptoRow.domain false) (((Rows.OpenSpec.upto Rows.walCountsSpec).at F).post enc Try.prog Try.f5 false true false false) := by
  refine returnsInHanded_of_cond (C := Try.checked) (s := Rows.OpenSpec.upto Rows.walCountsSpec) (k := Rows.uptoSmall) rfl own started (by kernel_rfl) Try.func5
    (OpenSpec.witness (enc := enc) (C := Try.checked) (s := Rows.OpenSpec.upto Rows.walCountsSpec) (k := Rows.uptoSmall) rfl false ⟨#[], #[.slice none 0 0, .agg #[.int .i64 0, .int .i64 0, .int .i64 0], .slice none 0 0, .int .i64 0], []⟩ 8 (by kernel_rfl) (by kernel_rfl) (by kernel_rfl)
      (x := ([.nil, .agg [.lit (.int .i64 0), .lit (.int .i64 0), .lit (.int .i64 0)], .nil, .lit (.int .i64 0)], [], [])) (by kernel_rfl) rfl (by kernel_rfl)) ?_
  intro W base args ds gs before hval hW _ hk _
  exact contract H enc W base args ds gs before hval hW hk
theorem proved : Rows.WalCountsUptoSaid :=
  OpenClaim.holds_of_cond 5 Try.f5 rfl rfl rfl rfl rfl rfl rfl ⟨rfl, rfl, rfl, rfl, rfl⟩ rfl rfl rfl rfl rfl (by kernel_rfl) Try.func5 (by kernel_rfl)
    (of_decide_eq_true (by kernel_rfl)) (by unfold Func.isWrapper; first | (rw [if_pos (by decide +kernel)]; kernel_rfl) | (rw [if_neg (by decide +kernel)]; exact ⟨rfl, rfl⟩))
    (fun os started H enc _ F => lifted os started H enc F)
end Go.Proofs.Ytppccaacbpkgiaa.rowWalCounts
