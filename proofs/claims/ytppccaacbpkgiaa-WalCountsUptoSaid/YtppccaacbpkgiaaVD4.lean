/-
  VD4: literals, copies, appends, conversions, calls; all effects together.
-/
import Derived.Test.YtppccaacbpkgiaaVD3
import Derived.Lib.ConvBytes
namespace Go.Proofs.Ytppccaacbpkgiaa.V
open Go Go.RowKit
variable [Zone]
set_option linter.unusedSimpArgs false
set_option linter.unusedVariables false

section
variable {P : Program} {w : World} {E : Env} {σ : AH} {fr : Fr} {a : Act} {K : AV → AH → Prop}

theorem bslice_fill (hf : FrOk w E fr a) {sz : Nat} : ∀ {parts : List (Nat × Operand)} {ps : List (Nat × Opd)}, cPartsS parts = some ps → ∀ (cs : List Value) (rows : List (List AV)), RepL w E cs rows.flatten → (∀ u, u ∈ cs → u.oneCell' = true) → (∀ r, r ∈ rows → r.length = sz) →
    ∀ {K : List (List AV) → Prop}, bsliceR fr sz rows ps K →
    ∃ cells : List Value, Instr.fill (fun i => some (i * sz, sz)) cs.toArray (parts.map fun (i, x) => (i, a.eval x)) = some cells.toArray ∧ ∃ rows', RepL w E cells rows'.flatten ∧ (∀ u, u ∈ cells → u.oneCell' = true) ∧ (∀ r, r ∈ rows' → r.length = sz) ∧ rows'.length = rows.length ∧ K rows'
  | [], ps, hp, cs, rows, hr, h1, hrow, K, h => by
    simp [cPartsS] at hp; subst hp
    exact ⟨cs, by simp [Instr.fill], rows, hr, h1, hrow, rfl, h⟩
  | (i, x) :: r, ps, hp, cs, rows, hr, h1, hrow, K, h => by
    simp only [cPartsS] at hp
    split at hp
    · rename_i y ys hx hys
      cases hp
      simp only [bsliceR] at h
      split at h
      · rename_i v hv
        obtain ⟨hok, hn, hlt, h⟩ := h
        obtain ⟨hc, hc1⟩ := (ev_ok hf hx hv).cells hok
        have hl1 := hc.length
        have hl2 := hr.length
        have hfl := flatten_len hrow
        have hbnd : i * sz + sz ≤ rows.flatten.length := by
          rw [hfl]
          calc i * sz + sz = (i + 1) * sz := by rw [Nat.add_mul]; omega
            _ ≤ rows.length * sz := Nat.mul_le_mul_right _ (by omega)
        have hsz : (a.eval x).cells.size = sz := by rw [← Array.length_toList, hl1, hn]
        have hfold := fill_fold (i * sz) (a.eval x).cells.toList 0 cs.toArray (by simp [hsz]; omega)
        have hrep : RepL w E (cs.take (i * sz) ++ (a.eval x).cells.toList ++ cs.drop (i * sz + sz)) (rows.set i v.cells).flatten := by
          rw [flatten_set hrow hlt]
          exact ((hr.take _).append hc).append (hr.drop _)
        obtain ⟨cells, q1, rows', q2, q3, q4, q5, q6⟩ := bslice_fill hf hys _ _ hrep (by
          intro u hu
          simp only [List.mem_append] at hu
          rcases hu with (hu | hu) | hu
          · exact h1 u (List.mem_of_mem_take hu)
          · exact hc1 u hu
          · exact h1 u (List.mem_of_mem_drop hu)) (fun r hr' => by
            rcases List.mem_or_eq_of_mem_set hr' with q | q
            · exact hrow r q
            · rw [q]; exact hn) h
        refine ⟨cells, ?_, rows', q2, q3, q4, by rw [q5]; simp, q6⟩
        rw [List.map_cons, Instr.fill]
        simp only [hsz]
        rw [if_neg (by simp; omega), ← q1]
        congr 1
        apply Array.ext'
        rw [← Array.foldl_toList, Array.toList_zipIdx]
        simpa [hsz] using hfold
      · exact h.elim
    · cases hp

omit [Zone] in
theorem flatL_rep : ∀ {rows : List (List AV)}, allFlatL rows = true → allFlat rows.flatten = true
  | [], _ => rfl
  | r :: rs, h => by
    simp only [allFlatL, Bool.and_eq_true] at h
    rw [List.flatten_cons]
    have := flatL_rep h.2
    have h1 := h.1
    clear h
    induction r with
    | nil => simpa using this
    | cons x xs ih => simp only [allFlat, Bool.and_eq_true, List.cons_append] at h1 ⊢; exact ⟨h1.1, ih h1.2⟩

theorem bslice_leaves {t e sz n : Nat} {z : List AV} {parts : Array (Nat × Operand)} {ps : List (Nat × Opd)} (hu : P.underlying t = some (.slice e)) (hz : zeroSz P e = some (z, sz)) (hps : cPartsS parts.toList = some ps) (hf : FrOk w E fr a) (hr : Rel σ E w)
    (h : n * sz ≤ 16777216 ∧ bsliceR fr sz (List.replicate n z) ps fun rows => K (.rsl σ.length 0 0 n none) (newB σ sz rows (allFlatL rows))) :
    Leaves P w E (Instr.buildSlice t n (parts.map fun (i, x) => (i, a.eval x))) K := by
  obtain ⟨hle, h⟩ := h
  obtain ⟨i, zv, hi, hzv, hsz, hpos, hzl, hzs, hzr, hz1⟩ := zeroSz_val hz
  have hmade : (madeCells zv.cells (n * sz)).toList = (List.replicate n zv.cells.toList).flatten := by
    rw [← hzs]; exact made_flat _ _ (by omega)
  have hmadeA : madeCells zv.cells (n * sz) = ((List.replicate n zv.cells.toList).flatten).toArray := by
    apply Array.ext'; rw [hmade]
  obtain ⟨cells, q1, rows, q2, q3, q4, q5, q6⟩ := bslice_fill hf hps (List.replicate n zv.cells.toList).flatten (List.replicate n z) (repl_flat (hzr w E) n) (by
      intro u hu'
      obtain ⟨r, hr1, hr2⟩ := List.mem_flatten.1 hu'
      rw [(List.mem_replicate.1 hr1).2] at hr2
      exact hz1 u hr2) (fun r hr' => by rw [(List.mem_replicate.1 hr').2]; exact hzl) h
  have hrl : rows.length = n := by rw [q5]; simp
  have hcl : cells.toArray.size = n * sz := by
    have := q2.length; rw [flatten_len q4, hrl] at this; simpa using this
  have htk : cells.toArray.toList.take rows.flatten.length = cells := by
    rw [flatten_len q4, hrl]; exact List.take_of_length_le (by simpa using Nat.le_of_eq hcl)
  have hn : n ≤ n * sz := Nat.le_mul_of_pos_right n hpos
  obtain ⟨x, E', σ', p1, p2, p3, p4⟩ := newRow_leaves (K := K) (e := e) (n := n) (c := n) (p := allFlatL rows) (rows := rows) hpos hcl (by omega) (by omega) q4 (by rw [htk]; exact q2) (by simpa using q3) hr (Grows.alloc w _)
    (fun q => by rw [htk]; exact flat_repL q2 (flatL_rep q)) (Nat.le_refl _) q6
  refine ⟨_, x, _, E', σ', ?_, p1, p2, p3, p4⟩
  have hzr0 : (zeroValue e).run P w = .ok zv w := by simp [zeroValue, typeInfo, hi, hzv]
  have hpl : (parts.map fun (i, x) => (i, a.eval x)).toList = parts.toList.map fun (i, x) => (i, a.eval x) := by simp
  unfold Instr.buildSlice
  simp only [Sem.run_bind, run_underlying hu, Result.andThen_ok]
  rw [show (sizeOf e).run P w = .ok sz w from by simp [sizeOf, typeInfo, hi, hsz]]
  simp only [Result.andThen_ok, if_neg (show ¬ n * sz > 2 ^ 24 from by omega), Sem.run_bind, Sem.run_pure]
  by_cases h0 : n * sz = 0
  · rw [if_pos h0]
    simp only [Sem.run_bind, Sem.run_pure, Result.andThen_ok, hpl]
    have e1 : (Array.range (n * sz)).map ((#[] : Array Value)[· % (#[] : Array Value).size]!) = ((List.replicate n zv.cells.toList).flatten).toArray := by
      rw [← hmadeA]; simp [madeCells, h0]
    rw [e1, q1]
    simp [newRow]
  · rw [if_neg h0]
    simp only [Sem.run_bind, Sem.run_pure, Result.andThen_ok, hzr0, hpl]
    have e1 : (Array.range (n * sz)).map (zv.cells[· % zv.cells.size]!) = ((List.replicate n zv.cells.toList).flatten).toArray := by
      rw [← hmadeA]; rfl
    rw [e1, q1]
    simp [newRow]

/-- What a slice that is read yields to append and copy. -/
theorem src_of {sz : Nat} {u e' : TypeId} (hk : P.underlying u = some (.slice e')) {ad : Option Addr} {n c : Nat} {cs : List Value} {l : List AV} (hlen : cs.length = n * sz) (hcs : ∀ q, ad = some q → CellsAt w E q l cs) (hnil : ad = none → cs = [] ∧ n = 0) :
    Src P sz u (.slice ad n c) n cs w := by
  cases ad with
  | none => obtain ⟨rfl, rfl⟩ := hnil rfl; exact Src.ofNil w hk c
  | some q => have h := hcs q rfl; exact Src.ofSlice w hk q n c cs hlen h.shows h.one

omit [Zone] in
theorem flatten_take_len {α : Type} {l : List (List α)} {sz : Nat} (h : ∀ r, r ∈ l → r.length = sz) (n : Nat) (hn : n ≤ l.length) : (l.take n).flatten.length = n * sz := by
  rw [flatten_len (sz := sz) (fun r hr => h r (List.mem_of_mem_take hr)), List.length_take, Nat.min_eq_left hn]

/-- A block that is appended to: it stays or it moves; what was told of it is spent. -/
theorem bump_block (hr : Rel σ E w) {id : Nat} {b : Blk} {m : MI} (hb : σ[id]? = some b) (hm : E[id]? = some m) (hok : BlkOk w E b m) (hw : b.wr = true) {w' : World} {place : Option (Nat × Nat)} {els : List (List AV)} {p : Bool}
    (hos : w'.os = w.os) (htape : w'.tape = w.tape) (hout : w'.output = w.output) (hsz : w.heap.size ≤ w'.heap.size)
    (hblk : ∀ k, k < w.heap.size → (∀ g c, m.place = some (g, c) → k ≠ g) → w'.heap[k]? = w.heap[k]?)
    (hnew : ∀ g c, place = some (g, c) → (∃ c0, m.place = some (g, c0)) ∨ w.heap.size ≤ g)
    (hb' : ∀ E', Step E w E' w' → BlkOk w' E' { sz := b.sz, els := els, gen := b.gen + 1, wr := true, pure := p } ⟨b.gen + 1, b.sz, true, place⟩) :
    Step E w (E.set id ⟨b.gen + 1, b.sz, true, place⟩) w' ∧ Rel (σ.set id { sz := b.sz, els := els, gen := b.gen + 1, wr := true, pure := p }) (E.set id ⟨b.gen + 1, b.sz, true, place⟩) w' := by
  obtain ⟨k1, k2, k3, k4, k5, k6⟩ := hok
  have hmw : m.wr = true := k3.trans hw
  have hs : Step E w (E.set id ⟨b.gen + 1, b.sz, true, place⟩) w' := by
    refine ⟨hos, htape, hout, hsz, ?_, ?_, ?_⟩
    · intro g hg hn
      exact hblk g hg (fun g' c hp q => hn (by subst q; exact ⟨id, m, c, hm, hmw, hp⟩))
    · rintro g ⟨id', m', c, hm', hw', hp'⟩
      by_cases e : id' = id
      · subst e
        rw [set_get_self hm] at hm'; cases hm'
        rcases hnew g c hp' with ⟨c0, h0⟩ | h0
        · exact .inl ⟨id', m, c0, hm, hmw, h0⟩
        · exact .inr h0
      · rw [List.getElem?_set_ne (fun q => e q.symm)] at hm'
        exact .inl ⟨id', m', c, hm', hw', hp'⟩
    · intro id' m' hm'
      by_cases e : id' = id
      · subst e
        rw [hm] at hm'; cases hm'
        exact ⟨_, set_get_self hm, by simp; omega, fun q => by simp at q; omega⟩
      · exact ⟨m', by rw [List.getElem?_set_ne (fun q => e q.symm)]; exact hm', Nat.le_refl _, fun _ => ⟨rfl, rfl⟩⟩
  refine ⟨hs, hr.change hs (by simp [hr.len]) id ?_ ?_ ?_ (fun m' g c hm' hp' => by
      rw [set_get_self hm] at hm'; cases hm'
      rcases hnew g c hp' with ⟨c0, h0⟩ | h0
      · exact hr.fresh id m g c0 hm h0
      · exact Nat.le_trans hr.base h0) ?_⟩
  · intro id' hne
    exact ⟨List.getElem?_set_ne (fun q => hne q.symm), List.getElem?_set_ne (fun q => hne q.symm)⟩
  · intro id' m' g c hne hm' hp'
    refine hblk g (hr.place_lt hm' hp') (fun g' c' hp q => ?_)
    subst q
    exact hr.inj id id' m m' g c' c (fun q => hne q.symm) hm hm' hmw hp hp'
  · intro b'' hb''
    rw [set_get_self hb] at hb''; cases hb''
    exact ⟨_, set_get_self hm, hb' _ hs⟩
  · intro id' m1 m2 g c1 c2 hne hm1 hm2 hp1 hp2 _
    rw [set_get_self hm] at hm2; cases hm2
    rcases hnew g c2 hp2 with ⟨c0, h0⟩ | h0
    · exact hr.inj id id' m m1 g c0 c1 (fun q => hne q.symm) hm hm1 hmw h0 hp1
    · have := hr.place_lt hm1 hp1; omega

end
end Go.Proofs.Ytppccaacbpkgiaa.V
