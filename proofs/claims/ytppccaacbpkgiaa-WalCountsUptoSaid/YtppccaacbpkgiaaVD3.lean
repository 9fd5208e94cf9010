/-
  VD3: stores, makes, literals, copies, appends.
-/
import Derived.Test.YtppccaacbpkgiaaVD2
namespace Go.Proofs.Ytppccaacbpkgiaa.V
open Go Go.RowKit
variable [Zone]
set_option linter.unusedSimpArgs false
set_option linter.unusedVariables false

/-! ### Lists -/
omit [Zone] in
theorem rep_flat_get {α : Type} (l : List α) (n j : Nat) (h : j < n * l.length) : ((List.replicate n l).flatten)[j]? = l[j % l.length]? := by
  induction n generalizing j with
  | zero => simp at h
  | succ n ih =>
    rw [List.replicate_succ, List.flatten_cons]
    by_cases hj : j < l.length
    · rw [List.getElem?_append_left hj, Nat.mod_eq_of_lt hj]
    · rw [List.getElem?_append_right (by omega), ih (j - l.length) (by rw [Nat.add_mul] at h; omega)]
      congr 1
      rw [Nat.mod_eq_sub_mod (by omega : j ≥ l.length)]

omit [Zone] in
theorem made_flat (z : Array Value) (n : Nat) (hz : 0 < z.size) : (madeCells z (n * z.size)).toList = (List.replicate n z.toList).flatten := by
  apply List.ext_getElem?
  intro j
  by_cases hj : j < n * z.size
  · rw [rep_flat_get _ _ _ (by rw [Array.length_toList]; exact hj)]
    have hm : j % z.size < z.size := Nat.mod_lt _ hz
    simp only [madeCells, Array.getElem?_toList, Array.getElem?_map, Array.length_toList]
    rw [Array.getElem?_eq_getElem (by simpa using hj), Array.getElem?_eq_getElem hm]
    simp [hm]
  · rw [List.getElem?_eq_none (by simp [madeCells]; omega), List.getElem?_eq_none]
    rw [List.length_flatten]
    simp; omega

theorem repl_flat {w : World} {E : Env} {cs : List Value} {l : List AV} (h : RepL w E cs l) (n : Nat) : RepL w E (List.replicate n cs).flatten (List.replicate n l).flatten := by
  induction n with
  | zero => exact .nil
  | succ n ih => rw [List.replicate_succ, List.replicate_succ, List.flatten_cons, List.flatten_cons]; exact h.append ih

omit [Zone] in
theorem flatten_set {α : Type} {l : List (List α)} {sz : Nat} (h : ∀ r, r ∈ l → r.length = sz) {i : Nat} (hi : i < l.length) (r : List α) :
    (l.set i r).flatten = l.flatten.take (i * sz) ++ r ++ l.flatten.drop (i * sz + sz) := by
  rw [List.set_eq_take_append_cons_drop, if_pos hi, List.flatten_append, List.flatten_cons, flatten_take h, flatten_drop h, Nat.add_mul]
  simp

omit [Zone] in
theorem splice_take {α : Type} (cur vs : List α) (o N : Nat) (h : o + vs.length ≤ N) : (cur.take o ++ vs ++ cur.drop (o + vs.length)).take N = (cur.take N).take o ++ vs ++ (cur.take N).drop (o + vs.length) := by
  by_cases hc : o ≤ cur.length
  · rw [List.take_take, Nat.min_eq_left (by omega), List.take_append, List.take_of_length_le (by simp; omega)]
    congr 1
    rw [List.length_append, List.length_take, Nat.min_eq_left hc, List.drop_take]
  · have e1 : cur.take o = cur := List.take_of_length_le (by omega)
    have e2 : cur.drop (o + vs.length) = [] := List.drop_eq_nil_of_le (by omega)
    have e3 : cur.take N = cur := List.take_of_length_le (by omega)
    rw [e1, e2, e3, e1, e2, List.append_nil, List.take_of_length_le (by simp; omega)]

theorem RepVL.splice {w : World} {W : Nat → Prop} {cs : List Value} {l : List AV} (h : RepVL w W cs l) {vs : List Value} {k : List AV} (hv : RepVL w W vs k) (o : Nat) : RepVL w W (cs.take o ++ vs ++ cs.drop (o + vs.length)) (l.take o ++ k ++ l.drop (o + k.length)) := by
  rw [hv.length]; exact ((h.take o).append hv).append (h.drop _)
theorem RepL.splice {w : World} {E : Env} {cs : List Value} {l : List AV} (h : RepL w E cs l) {vs : List Value} {k : List AV} (hv : RepL w E vs k) (o : Nat) : RepL w E (cs.take o ++ vs ++ cs.drop (o + vs.length)) (l.take o ++ k ++ l.drop (o + k.length)) := by
  rw [hv.length]; exact ((h.take o).append hv).append (h.drop _)

section
variable {P : Program} {w : World} {E : Env} {σ : AH} {fr : Fr} {a : Act} {K : AV → AH → Prop}

/-- A run of cells of one block is written. -/
theorem splice_block (hr : Rel σ E w) {id : Nat} {b : Blk} {m : MI} (hbe : b.ext = none) (hb : σ[id]? = some b) (hm : E[id]? = some m) (hok : BlkOk w E b m) (hw : b.wr = true) {g c : Nat} (hp : m.place = some (g, c)) (o : Nat) (vs : List Value) (ks : List AV)
    (ho : o + vs.length ≤ b.els.flatten.length) (h1 : ∀ u, u ∈ vs → u.oneCell' = true) (hrep : RepL w E vs ks) (els' : List (List AV)) (p : Bool) (hp' : p = true → b.pure = true ∧ RepVL w (EW E) vs ks)
    (hrow : ∀ r, r ∈ els' → r.length = b.sz) (hlen : els'.length = b.els.length) (hfl : els'.flatten = b.els.flatten.take o ++ ks ++ b.els.flatten.drop (o + ks.length)) :
    (∀ j, j < vs.length → (w.cell? ⟨g, o + j, none⟩).isSome = true ∧ w.frozen? ⟨g, o + j, none⟩ = false) ∧
    Step E w E (w.setCells g o vs) ∧ Rel (σ.set id { b with els := els', pure := p }) E (w.setCells g o vs) := by
  have hok' := hok
  obtain ⟨k1, k2, k3, k4, k5, k6⟩ := hok
  rw [hp] at k6
  obtain ⟨k7, k8, cur, e, lo, hi, k9, k10, k11, k12, k13⟩ := k6
  have hfl2 := flatten_len k5
  have hle : b.els.flatten.length ≤ cur.size := by rw [hfl2, k10]; exact Nat.mul_le_mul_right _ k7.1
  obtain ⟨cur', q1, q2, q3⟩ := setCells_heap g vs o w cur e (lo, hi) k9 (by omega)
  have hN : els'.flatten.length = b.els.flatten.length := by
    rw [flatten_len hrow, hlen, hfl2]
  have htk : cur'.toList.take els'.flatten.length = (cur.toList.take b.els.flatten.length).take o ++ vs ++ (cur.toList.take b.els.flatten.length).drop (o + vs.length) := by
    rw [q3, hN, splice_take _ _ _ _ ho]
  refine ⟨fun j hj => cells_there k9 k11 (by omega), ?_⟩
  obtain ⟨s1, s2, s3, s4⟩ := setCells_same g vs o w
  refine write_block (b' := { b with els := els', pure := p }) hr hb hm hok' hw hp k9 q1 q2 (fun h => h) (setCells_other g vs o w) s1 s2 s3 s4 hbe rfl rfl rfl hrow (by show els'.length ≤ c; rw [hlen]; exact k7.1) (by show b.full = true → c ≤ els'.length; rw [hlen]; exact k7.2) ?_ ?_
  · intro v hv
    show v.oneCell' = true
    rw [q3] at hv
    simp only [List.mem_append] at hv
    rcases hv with (hv | hv) | hv
    · exact k12 v (List.mem_of_mem_take hv)
    · exact h1 v hv
    · exact k12 v (List.mem_of_mem_drop hv)
  · show if p then RepVL w (EW E) (cur'.toList.take els'.flatten.length) els'.flatten else RepL w E (cur'.toList.take els'.flatten.length) els'.flatten
    rw [htk, hfl]
    have hold : RepL w E (cur.toList.take b.els.flatten.length) b.els.flatten := by
      split at k13
      · exact k13.toRepL
      · exact k13
    refine rep_pick (hold.splice hrep o) (fun q => ?_)
    obtain ⟨q1, q2⟩ := hp' q
    rw [if_pos q1] at k13
    exact k13.splice q2 o

theorem store_leaves {t : TypeId} {n : Nat} (hn : szT P t = some n) {pv v : Value} {p x : AV} (hr : Rel σ E w) (hp : Rep w E pv p) (hv : Rep w E v x) (hx : x.okCells = true) (hl : x.cells.length = n) {K : AH → Prop} (h : storeR σ p x.cells K) :
    ∃ w' σ', (Instr.storeAt t pv v).run P w = .ok () w' ∧ Rel σ' E w' ∧ Step E w E w' ∧ K σ' := by
  unfold storeR at h
  simp only [layK_eq] at h
  split at h
  · rename_i id gen idx off
    obtain ⟨b, m, hb, hm, hok, hg1, hg2, hbe, hw, h⟩ := blkAt_elim hr h
    obtain ⟨hlt, h⟩ := nthR_elim h
    have hrow := List.getElem?_eq_getElem hlt
    obtain ⟨hle, hk⟩ := h _ hrow
    obtain ⟨g, c, hpl, rfl⟩ := hp.ptr_inv hm hg2
    obtain ⟨hc, hc1⟩ := hv.cells hx
    have hcl := hc.length
    have hrl := hok.2.2.2.2.1 _ (List.mem_of_getElem? hrow)
    have hfl2 := flatten_len hok.2.2.2.2.1
    have hbnd : idx * b.sz + b.sz ≤ b.els.flatten.length := by
      rw [hfl2]
      calc idx * b.sz + b.sz = (idx + 1) * b.sz := by rw [Nat.add_mul]; omega
        _ ≤ b.els.length * b.sz := Nat.mul_le_mul_right _ (by omega)
    have hrowf := flatten_row hok.2.2.2.2.1 hrow
    have hlaylen : (lay b.els[idx] off x.cells).length = b.sz := by
      unfold lay; simp only [List.length_append, List.length_take, List.length_drop]; omega
    obtain ⟨hthere, hs, hr'⟩ := splice_block hr hbe hb hm hok hw hpl (idx * b.sz + off) v.cells.toList x.cells (by omega) hc1 hc (b.els.set idx (lay b.els[idx] off x.cells)) (b.pure && allFlat x.cells)
      (fun q => by simp only [Bool.and_eq_true] at q; exact ⟨q.1, flat_repL hc q.2⟩)
      (fun r hr' => by rcases List.mem_or_eq_of_mem_set hr' with q | q; exact hok.2.2.2.2.1 r q; rw [q]; exact hlaylen) (by simp)
      (by
        rw [flatten_set hok.2.2.2.2.1 hlt]
        have e1 : b.els[idx].take off = (b.els.flatten.drop (idx * b.sz)).take off := by rw [← hrowf, List.take_take, Nat.min_eq_left (by omega)]
        have e2 : b.els[idx].drop (off + x.cells.length) = (b.els.flatten.drop (idx * b.sz + (off + x.cells.length))).take (b.sz - (off + x.cells.length)) := by rw [← hrowf, List.drop_take, List.drop_drop]
        unfold lay
        rw [e1, e2]
        have e3 : b.els.flatten.take (idx * b.sz) ++ (b.els.flatten.drop (idx * b.sz)).take off = b.els.flatten.take (idx * b.sz + off) := by rw [List.take_add]
        have e4 : (b.els.flatten.drop (idx * b.sz + (off + x.cells.length))).take (b.sz - (off + x.cells.length)) ++ b.els.flatten.drop (idx * b.sz + b.sz) = b.els.flatten.drop (idx * b.sz + off + x.cells.length) := by
          have := List.take_append_drop (b.sz - (off + x.cells.length)) (b.els.flatten.drop (idx * b.sz + (off + x.cells.length)))
          rw [List.drop_drop, show idx * b.sz + (off + x.cells.length) + (b.sz - (off + x.cells.length)) = idx * b.sz + b.sz from by omega] at this
          rw [this, Nat.add_assoc]
        rw [← e3, ← e4]
        simp [List.append_assoc])
    refine ⟨_, _, ?_, hr', hs, hk⟩
    have hst := run_storeCells_cells (P := P) g (idx * b.sz + off) v.cells.toList 0 w (fun j hj => by simpa using (hthere j hj).1) (fun j hj => by simpa using (hthere j hj).2) hc1
    rw [Nat.add_zero] at hst
    have hsz : v.cells.size = n := by rw [← Array.length_toList, hcl, hl]
    simp [Instr.storeAt, Instr.sureAddr, storeVar, Sem.run_bind, szT_run hn, hsz, hok.2.1, hst]
  · exact h.elim

/-- A new row of the call's own. -/
theorem newRow_leaves {e sz n c : Nat} {cells : Array Value} {rows : List (List AV)} (hsz : 0 < sz) (hcs : cells.size = c * sz) (hlc : rows.length ≤ c) (hc : c ≤ 9223372036854775807) (hrow : ∀ r, r ∈ rows → r.length = sz)
    (hrep : RepL w E (cells.toList.take rows.flatten.length) rows.flatten) (h1 : ∀ u, u ∈ cells.toList → u.oneCell' = true) (hr : Rel σ E w) {w' : World} (hg : Grows w w' (.cells cells e)) {p : Bool} (hp : p = true → RepVL w (EW E) (cells.toList.take rows.flatten.length) rows.flatten) (hn : n ≤ c)
    (hk : K (.rsl σ.length 0 0 n none) (newB σ sz rows p)) :
    ∃ x E' σ', Rep w' E' (.slice (some ⟨w.heap.size, 0, none⟩) n c) x ∧ Rel σ' E' w' ∧ Step E w E' w' ∧ K x σ' := by
  obtain ⟨hs, hr'⟩ := new_block hr hg { sz := sz, els := rows, gen := 0, wr := true, pure := p } c rfl rfl rfl hsz hrow hlc (by simp) hc hcs (.inr ⟨rfl, rfl⟩) h1 (rep_pick hrep hp)
  refine ⟨.rsl σ.length 0 0 n none, _, _, ?_, hr', hs, hk⟩
  refine .rsl ⟨0, sz, true, some (w.heap.size, c)⟩ rfl ?_ (Nat.le_refl _) (fun _ => ?_)
  · rw [← hr.len, List.getElem?_append_right (Nat.le_refl _)]; simp
  · exact RslAny.of (h0 := hsz) ⟨⟨w.heap.size, 0, none⟩, c, rfl, hn, by omega, fun _ => by simp, by simp⟩

theorem make_leaves {t e sz by_ : Nat} {z : List AV} (hu : P.underlying t = some (.slice e)) (hz : zeroSz P e = some (z, sz)) (hby : bytesT P e = some by_) {kl kc : IntKind} {l c : Int} (h0 : 0 ≤ l) (h1 : l ≤ c) (h2 : c * by_ ≤ 140737488355328) (h3 : c ≤ 9223372036854775807) (hr : Rel σ E w)
    (hk : K (.rsl σ.length 0 0 l.toNat none) (newB σ sz (List.replicate c.toNat z) (allFlat z))) : Leaves P w E (Instr.makeSlice t (.int kl l) (.int kc c)) K := by
  obtain ⟨i, zv, hi, hzv, hsz, hpos, hzl, hzs, hzr, hz1⟩ := zeroSz_val hz
  have hb : i.bytes = by_ := (bytesT_info hby hi).1
  have hrun := run_make (P := P) w t e i zv hu hi hzv kl kc l c h0 h1 (by rw [hb, Int.mul_comm]; omega) h3
  have hcells : (madeCells zv.cells (c.toNat * i.size)).toList = (List.replicate c.toNat zv.cells.toList).flatten := by
    rw [hsz, ← hzs]; exact made_flat _ _ (by omega)
  have hfl : (List.replicate c.toNat z).flatten.length = c.toNat * sz := by
    rw [flatten_len (sz := sz) (fun r hr' => by rw [(List.mem_replicate.1 hr').2]; exact hzl)]; simp
  have hcl : (madeCells zv.cells (c.toNat * i.size)).size = c.toNat * sz := by rw [size_madeCells, hsz]
  have htk : (madeCells zv.cells (c.toNat * i.size)).toList.take (List.replicate c.toNat z).flatten.length = (List.replicate c.toNat zv.cells.toList).flatten := by
    rw [hfl, ← hcells]; exact List.take_of_length_le (by rw [Array.length_toList, hcl]; exact Nat.le_refl _)
  obtain ⟨x, E', σ', q1, q2, q3, q4⟩ := newRow_leaves (K := K) (n := l.toNat) (p := allFlat z) (rows := List.replicate c.toNat z) hpos hcl (by simp) (by omega) (fun r hr' => by rw [(List.mem_replicate.1 hr').2]; exact hzl)
    (by rw [htk]; exact repl_flat (hzr w E) _) (by
      rw [hcells]; intro u hu'
      obtain ⟨r, hr1, hr2⟩ := List.mem_flatten.1 hu'
      rw [(List.mem_replicate.1 hr1).2] at hr2
      exact hz1 u hr2) hr (Grows.alloc w _)
    (fun q => by
      rw [htk]
      have hv := flat_repL (hzr w E) q
      clear hrun hcells hfl hcl htk hk
      induction c.toNat with
      | zero => exact .nil
      | succ n ih => rw [List.replicate_succ, List.replicate_succ, List.flatten_cons, List.flatten_cons]; exact hv.append ih) (by omega) hk
  exact ⟨_, x, _, E', σ', hrun, q1, q2, q3, q4⟩

end
end Go.Proofs.Ytppccaacbpkgiaa.V
