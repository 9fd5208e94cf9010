/-
  VD2: instructions with effects: what the machine does where the abstract precondition holds.
-/
import Derived.Test.YtppccaacbpkgiaaVD
import Derived.Deep.Upon
namespace Go.Proofs.Ytppccaacbpkgiaa.V
open Go Go.RowKit
variable [Zone]
set_option linter.unusedSimpArgs false
set_option linter.unusedVariables false

/-! ### From operations to instructions -/
def posSz (P : Program) (t : TypeId) : Option Nat := match szT P t with | some (n + 1) => some (n + 1) | _ => none
def bytesT (P : Program) (t : TypeId) : Option Nat := match (P.info? t).map (·.bytes) with | some (n + 1) => some (n + 1) | _ => none
def zeroSz (P : Program) (t : TypeId) : Option (List AV × Nat) := match zeroT P t, posSz P t with
  | some z, some n => if z.length = n then some (z, n) else none
  | _, _ => none

def cPartsS : List (Nat × Operand) → Option (List (Nat × Opd))
  | [] => some []
  | (i, x) :: r => match cOpd x, cPartsS r with
    | some y, some ys => some ((i, y) :: ys)
    | _, _ => none

/-- The element's zero, of a map that has whole numbers for keys. -/
def mapT (P : Program) (t : TypeId) : Option ML :=
  match P.underlying t with
  | some (.map k e) => match P.underlying k, (P.info? e).bind (·.zero) with
    | some (.int .i64), some (.bool b) => some (.bool b)
    | some (.int .i64), some (.int .i64 n) => some (.int n)
    | _, _ => none
  | _ => none

def cEI (P : Program) : Op → Option EI
  | .alloc e => (zeroSz P e).map fun z => .alloc z.1
  | .box e x => match cOpd x, posSz P e with
    | some a, some n => some (.box n a)
    | _, _ => none
  | .buildSlice t n parts => match P.underlying t with
    | some (.slice e) => match zeroSz P e, cPartsS parts.toList with
      | some (z, sz), some ps => some (.bslice sz z n ps)
      | _, _ => none
    | _ => none
  | .store t a x => match cOpd a, cOpd x, szT P t with
    | some p, some v, some n => some (.store n p v)
    | _, _, _ => none
  | .makeSlice t l c => match P.underlying t with
    | some (.slice e) => match zeroSz P e, bytesT P e, cOpd l, cOpd c with
      | some (z, sz), some by_, some x, some y => some (.mksl sz by_ z x y)
      | _, _, _, _ => none
    | _ => none
  | .convert s d x => match P.underlying s, P.underlying d, cOpd x with
    | some .string, some (.slice e), some a => match P.underlying e, szT P e with
      | some (.int .u8), some 1 => some (.s2b a)
      | _, _ => none
    | some (.slice _), some (.slice e), some a => match P.underlying e, Nat.beq s d with
      | some (.int .u8), true => some (.mark a)
      | _, _ => none
    | _, _, _ => none
  | .call { callee := .builtin .append, args := args, argTypes := ts } => match args.toList, ts.toList with
    | [x, y], [t, u] => match P.underlying t, cOpd x, cOpd y with
      | some (.slice e), some a, some b => match zeroSz P e, bytesT P e, P.underlying u with
        | some (z, sz), some by_, some (.slice _) => some (.append sz by_ a b)
        | some (z, sz), some by_, some (.int _) => if allFlat z then some (.appendz sz by_ z a b) else none
        | _, _, _ => none
      | _, _, _ => none
    | _, _ => none
  | .call { callee := .builtin .copy, args := args, argTypes := ts } => match args.toList, ts.toList with
    | [x, y], [t, u] => match P.underlying t, cOpd x, cOpd y with
      | some (.slice e), some a, some b => match posSz P e, P.underlying u with
        | some sz, some (.slice _) => some (.copy sz a b)
        | _, _ => none
      | _, _, _ => none
    | _, _ => none
  | .makeMap t none => (mapT P t).map fun _ => .mkmap
  | .lookup t x k c => match mapT P t, cOpd x, cOpd k with
    | some z, some a, some b => some (.look c z a b)
    | _, _, _ => none
  | .mapUpdate t x k v => match mapT P t, cOpd x, cOpd k, cOpd v with
    | some _, some a, some b, some d => some (.upd a b d)
    | _, _, _, _ => none
  | .call { callee := .builtin .delete, args := args, argTypes := ts } => match args.toList, ts.toList with
    | [x, k], [t, _] => match mapT P t, cOpd x, cOpd k with
      | some _, some a, some b => some (.del a b)
      | _, _, _ => none
    | _, _ => none
  | .call { callee := .builtin .clear, args := args, argTypes := ts } => match args.toList, ts.toList with
    | [x], [t] => match mapT P t, cOpd x with
      | some _, some a => some (.clr a)
      | _, _ => none
    | _, _ => none
  | .range t x => match mapT P t, cOpd x with
    | some _, some a => some (.rng a)
    | _, _ => none
  | .next x false => (cOpd x).map .next
  | .entry x => (cOpd x).map .entry
  | .call { callee := .value (.func f), args := args, argTypes := _ } => match P.funcs[f]?, cOpds args.toList with
    | some fn, some l => if fn.body.isSome ∧ (fn.name == "runtime.NumGoroutine") = false ∧ f ≠ yno then some (.call f l) else none
    | _, _ => none
  | .call { callee := .value (.tmp t), args := args, argTypes := _ } => (cOpds args.toList).map (.callv (.t t))
  | _ => none

omit [Zone] in
theorem mapT_ok {P : Program} {t : TypeId} {z : ML} (h : mapT P t = some z) : ∃ k e, P.underlying t = some (.map k e) ∧ P.underlying k = some (.int .i64) ∧ ∀ w, (zeroValue e).run P w = .ok z.v w := by
  unfold mapT at h
  split at h
  · rename_i k e hu
    split at h
    · rename_i b hk hz
      cases h
      obtain ⟨i, hi, hzi⟩ := Option.bind_eq_some_iff.1 hz
      exact ⟨k, e, hu, hk, fun w => by simp [zeroValue, typeInfo, hi, hzi, ML.v]⟩
    · rename_i n hk hz
      cases h
      obtain ⟨i, hi, hzi⟩ := Option.bind_eq_some_iff.1 hz
      exact ⟨k, e, hu, hk, fun w => by simp [zeroValue, typeInfo, hi, hzi, ML.v]⟩
    · cases h
  · cases h
omit [Zone] in
theorem posSz_szT {P : Program} {t : TypeId} {n : Nat} (h : posSz P t = some n) : szT P t = some n ∧ 0 < n := by
  unfold posSz at h
  split at h
  · rename_i m hm; cases h; exact ⟨hm, by omega⟩
  · cases h

omit [Zone] in
theorem bytesT_info {P : Program} {t : TypeId} {n : Nat} (h : bytesT P t = some n) {i : TypeInfo} (hi : P.info? t = some i) : i.bytes = n ∧ 0 < n := by
  unfold bytesT at h
  rw [hi] at h
  simp only [Option.map_some] at h
  split at h
  · rename_i m hm; cases h; exact ⟨Option.some.inj hm, by omega⟩
  · cases h

/-! ### Writing a run of cells -/
omit [Zone] in
theorem setCells_heap (g : Nat) : ∀ (vs : List Value) (o : Nat) (w : World) (cur : Array Value) (e : TypeId) (fz : Nat × Nat), w.heap[g]? = some (.cells cur e fz) → o + vs.length ≤ cur.size →
    ∃ cur', (w.setCells g o vs).heap[g]? = some (.cells cur' e fz) ∧ cur'.size = cur.size ∧ cur'.toList = cur.toList.take o ++ vs ++ cur.toList.drop (o + vs.length)
  | [], o, w, cur, e, fz, h, hl => ⟨cur, h, rfl, by simp⟩
  | v :: vs, o, w, cur, e, fz, h, hl => by
    simp only [List.length_cons] at hl
    have h1 : (w.setCell ⟨g, o, none⟩ v).heap[g]? = some (.cells (cur.setIfInBounds o v) e fz) := by
      simp [World.setCell, Array.getElem?_modify, h]
    obtain ⟨cur', q1, q2, q3⟩ := setCells_heap g vs (o + 1) _ _ e fz h1 (by simp; omega)
    refine ⟨cur', q1, by rw [q2]; simp, ?_⟩
    rw [q3]
    simp only [Array.toList_setIfInBounds, List.length_cons]
    have hlt : o < cur.toList.length := by rw [Array.length_toList]; omega
    have e1 : (cur.toList.take o).length = o := by rw [List.length_take]; omega
    rw [List.set_eq_take_append_cons_drop, if_pos hlt]
    have e2 : (cur.toList.take o ++ v :: cur.toList.drop (o + 1)).take (o + 1) = cur.toList.take o ++ [v] := by
      rw [List.take_append, e1, List.take_of_length_le (by omega), show o + 1 - o = 1 from by omega]
      simp
    have e3 : (cur.toList.take o ++ v :: cur.toList.drop (o + 1)).drop (o + 1 + vs.length) = cur.toList.drop (o + (vs.length + 1)) := by
      rw [List.drop_append, e1, List.drop_eq_nil_of_le (by omega), show o + 1 + vs.length - o = vs.length + 1 from by omega]
      simp only [List.nil_append, List.drop_succ_cons, List.drop_drop]
      congr 1; omega
    rw [e2, e3]; simp

omit [Zone] in
theorem setCells_other (g : Nat) : ∀ (vs : List Value) (o : Nat) (w : World) (k : Nat), k ≠ g → (w.setCells g o vs).heap[k]? = w.heap[k]?
  | [], _, _, _, _ => rfl
  | v :: vs, o, w, k, h => by
    rw [World.setCells, setCells_other g vs (o + 1) _ k h]
    exact Below.heap_setCell w _ _ k h

omit [Zone] in
theorem setCells_same (g : Nat) : ∀ (vs : List Value) (o : Nat) (w : World), (w.setCells g o vs).os = w.os ∧ (w.setCells g o vs).tape = w.tape ∧ (w.setCells g o vs).output = w.output ∧ (w.setCells g o vs).heap.size = w.heap.size
  | [], _, _ => ⟨rfl, rfl, rfl, rfl⟩
  | v :: vs, o, w => by
    obtain ⟨a, b, c, d⟩ := setCells_same g vs (o + 1) (w.setCell ⟨g, o, none⟩ v)
    exact ⟨a, b, c, by rw [World.setCells, d]; simp [World.setCell]⟩

omit [Zone] in
theorem cells_there {w : World} {g e lo hi : Nat} {cur : Array Value} (h : w.heap[g]? = some (.cells cur e (lo, hi))) (hf : cur.size ≤ lo ∨ lo = 0 ∧ hi = 0) {j : Nat} (hj : j < cur.size) :
    (w.cell? ⟨g, j, none⟩).isSome = true ∧ w.frozen? ⟨g, j, none⟩ = false := by
  constructor
  · simp [World.cell?, h, hj]
  · simp only [World.frozen?, h]
    rcases hf with hf | hf
    · simp; omega
    · obtain ⟨rfl, rfl⟩ := hf; simp

section
variable {P : Program} {w : World} {E : Env} {σ : AH} {fr : Fr} {a : Act} {K : AV → AH → Prop}

/-- What an effect leaves: a value, a world, an abstract heap. -/
def Leaves (P : Program) (w : World) (E : Env) (s : Sem Value) (K : AV → AH → Prop) : Prop :=
  ∃ v x w' E' σ', s.run P w = .ok v w' ∧ Rep w' E' v x ∧ Rel σ' E' w' ∧ Step E w E' w' ∧ K x σ'

omit [Zone] in
theorem szT_info {t : TypeId} {n : Nat} (h : szT P t = some n) : ∃ i, P.info? t = some i ∧ i.size = n := by
  unfold szT at h
  obtain ⟨i, hi, rfl⟩ := Option.map_eq_some_iff.1 h
  exact ⟨i, hi, rfl⟩

theorem zeroSz_val {t : TypeId} {z : List AV} {n : Nat} (h : zeroSz P t = some (z, n)) : ∃ i zv, P.info? t = some i ∧ i.zero = some zv ∧ i.size = n ∧ 0 < n ∧ z.length = n ∧ zv.cells.size = n ∧
    (∀ (w : World) (E : Env), RepL w E zv.cells.toList z) ∧ ∀ u, u ∈ zv.cells.toList → u.oneCell' = true := by
  unfold zeroSz at h
  split at h
  · rename_i z' n' hz hn
    split at h
    · rename_i hl
      cases h
      obtain ⟨hn1, hn2⟩ := posSz_szT hn
      obtain ⟨i, hi, hin⟩ := szT_info hn1
      obtain ⟨zv, h1, h2, h3⟩ := zeroT_val (w := default) (E := []) hz
      have hzv : i.zero = some zv := by simpa [hi] using h1
      refine ⟨i, zv, hi, hzv, hin, hn2, hl, ?_, ?_, h3⟩
      · rw [← Array.length_toList, h2.length, hl]
      · intro w E
        obtain ⟨zv', h1', h2', _⟩ := zeroT_val (w := w) (E := E) hz
        have : zv' = zv := by rw [h1] at h1'; cases h1'; rfl
        subst this; exact h2'
    · cases h
  · cases h

theorem flat_rep {v : Value} {x : AV} (h : Rep w E v x) (hx : x.flat = true) : RepV w (EW E) v x := by
  cases h with
  | pure h => exact h
  | rsl => cases hx
  | ptr => cases hx
  | vptr => cases hx
  | agg => cases hx
  | fn => cases hx
  | fnb => cases hx
  | tup => cases hx
theorem flat_repL : ∀ {cs : List Value} {l : List AV}, RepL w E cs l → allFlat l = true → RepVL w (EW E) cs l
  | _, _, .nil, _ => .nil
  | _, _, .cons h t, hf => by
    simp only [allFlat, Bool.and_eq_true] at hf
    exact .cons (flat_rep h hf.1) (flat_repL t hf.2)

theorem rep_pick {p : Bool} {cs : List Value} {l : List AV} (h : RepL w E cs l) (hp : p = true → RepVL w (EW E) cs l) : if p then RepVL w (EW E) cs l else RepL w E cs l := by
  cases p
  · exact h
  · exact hp rfl

/-- A new variable. -/
theorem newVar_leaves {e n : Nat} {v : Value} {l : List AV} (hn : 0 < n) (hl : l.length = n) (hrep : RepL w E v.cells.toList l) (h1 : ∀ u, u ∈ v.cells.toList → u.oneCell' = true) (hr : Rel σ E w) {p : Bool} (hp : p = allFlat l)
    (hk : K (.ptr σ.length 0 0 0) (newB σ n [l] p)) : Leaves P w E (do pure (.pointer (some (← newVar e v)))) K := by
  have hsz : v.cells.size = n := by rw [← Array.length_toList, hrep.length, hl]
  have hfl : [l].flatten = l := by simp
  have htk : v.cells.toList.take [l].flatten.length = v.cells.toList := by
    rw [hfl, hl]; exact List.take_of_length_le (by rw [Array.length_toList, hsz]; exact Nat.le_refl _)
  obtain ⟨hs, hr'⟩ := new_block hr (Grows.alloc w (.cells v.cells e)) { sz := n, els := [l], gen := 0, wr := true, pure := p } 1 rfl rfl rfl hn (by simpa using hl) (by simp) (by simp) (by omega) (by simp [hsz]) (.inr ⟨rfl, rfl⟩)
    h1 (by rw [htk, hfl]; exact rep_pick hrep (fun q => flat_repL hrep (by rw [← hp]; exact q)))
  refine ⟨.pointer (some ⟨w.heap.size, 0, none⟩), .ptr σ.length 0 0 0, w.alloc (.cells v.cells e), _, _, ?_, ?_, hr', hs, hk⟩
  · simp [newVar, newRow]
  · refine .ptr ⟨0, n, true, some (w.heap.size, 1)⟩ rfl ?_ (Nat.le_refl _) (fun _ => ⟨w.heap.size, 1, rfl, by simp⟩)
    rw [← hr.len, List.getElem?_append_right (Nat.le_refl _)]; simp

end
end Go.Proofs.Ytppccaacbpkgiaa.V
