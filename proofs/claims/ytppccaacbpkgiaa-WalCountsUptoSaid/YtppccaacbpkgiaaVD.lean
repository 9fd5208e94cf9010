/-
  VD: how the abstract heap goes with the machine's: new blocks, stores, appends, freezing; calls by contract; instructions with effects.
-/
import Derived.Test.YtppccaacbpkgiaaVC4
import Derived.Deep.AppendSrc
import Derived.Laws.MakeOwn
namespace Go.Proofs.Ytppccaacbpkgiaa.V
open Go Go.RowKit
variable [Zone]
set_option linter.unusedSimpArgs false
set_option linter.unusedVariables false

/-- The call of a function, by what it answers. -/
def ACall (P : Program) : CallP := fun f args σ Q => ∀ (_ : Zone) (w : World) (E : Env) (cs : List Value), Rel σ E w → RepL w E cs args →
  Calls P f cs.toArray w fun e w' => ∃ v E' x σ', e = .returned v ∧ Rep w' E' v x ∧ Rel σ' E' w' ∧ Step E w E' w' ∧ Q x σ'

section
variable {P : Program} {w w' : World} {E E' : Env} {σ σ' : AH}

theorem BlkOk.step {b : Blk} {m : MI} (h : BlkOk w E b m) (hs : Step E w E' w') (hb : ∀ g c, m.place = some (g, c) → w'.heap[g]? = w.heap[g]?) : BlkOk w' E' b m := by
  obtain ⟨h1, h2, h3, h4, h5, h6⟩ := h
  refine ⟨h1, h2, h3, h4, h5, ?_⟩
  split at h6
  · exact h6
  · rename_i g c hp
    obtain ⟨k1, k2, cur, e, lo, hi, k3, k4, k5, k6, k7⟩ := h6
    refine ⟨k1, k2, cur, e, lo, hi, (hb g c hp).trans k3, k4, k5, k6, ?_⟩
    split at k7
    · rename_i hp; rw [if_pos hp]; exact k7.keep hs.keep
    · rename_i hp; rw [if_neg hp]; exact k7.step hs

omit [Zone] in
theorem ExtAt.step {m : MI} {g : Nat} {x : Ext} (h : ExtAt w E g x) (hs : Step E w E' w') (hb : w'.heap[g]? = w.heap[g]?) : ExtAt w' E' g x := by
  cases x with
  | map es clock => exact hb.trans h
  | loop l => exact hb.trans h
  | iter id gen since seen stepped =>
    obtain ⟨gm, h2, m, hm, hg, hk⟩ := h
    obtain ⟨m', hm', hg', he⟩ := hs.metas id m hm
    refine ⟨gm, hb.trans h2, m', hm', Nat.le_trans hg hg', fun e => ?_⟩
    obtain ⟨c, h1⟩ := hk (by omega)
    exact ⟨c, by rw [(he (by omega)).2]; exact h1⟩
theorem BlkAny.step {b : Blk} {m : MI} (h : BlkAny w E b m) (hs : Step E w E' w') (hb : ∀ g c, m.place = some (g, c) → w'.heap[g]? = w.heap[g]?) : BlkAny w' E' b m := by
  cases he : b.ext with
  | none => exact .of ((h.cells he).step hs hb) he
  | some x =>
    obtain ⟨k1, k2, k3, k4, k5, k6, g, c, k7, k8, k9⟩ := h.isExt he
    exact .ofExt ⟨k1, k2, k3, k4, k5, k6, g, c, k7, Nat.lt_of_lt_of_le k8 hs.size, ExtAt.step (m := m) k9 hs (hb g c k7)⟩ he

theorem Rel.change (hr : Rel σ E w) (hs : Step E w E' w') (hl : E'.length = σ'.length) (t : Nat) (hoth : ∀ id, id ≠ t → σ'[id]? = σ[id]? ∧ E'[id]? = E[id]?)
    (hblk : ∀ (id : Nat) (m : MI) (g c : Nat), id ≠ t → E[id]? = some m → m.place = some (g, c) → w'.heap[g]? = w.heap[g]?)
    (ht : ∀ b, σ'[t]? = some b → ∃ m, E'[t]? = some m ∧ BlkAny w' E' b m)
    (hfr : ∀ (m : MI) (g c : Nat), E'[t]? = some m → m.place = some (g, c) → Zone.base ≤ g)
    (hinj : ∀ (id : Nat) (m m' : MI) (g c c' : Nat), id ≠ t → E[id]? = some m → E'[t]? = some m' → m.place = some (g, c) → m'.place = some (g, c') → (m.wr = true ∨ m'.wr = true) → False) : Rel σ' E' w' := by
  refine ⟨hl, Nat.le_trans hr.base hs.size, ?_, ?_, ?_⟩
  · intro id m g c hm hp
    by_cases e : id = t
    · subst e; exact hfr m g c hm hp
    · rw [(hoth id e).2] at hm; exact hr.fresh id m g c hm hp
  · intro id b hb
    by_cases e : id = t
    · subst e; exact ht b hb
    · obtain ⟨e1, e2⟩ := hoth id e
      rw [e1] at hb
      obtain ⟨m, hm, hok⟩ := hr.blk id b hb
      exact ⟨m, by rw [e2]; exact hm, hok.step hs (fun g c hp => hblk id m g c e hm hp)⟩
  · intro id id' m m' g c c' hne hm hm' hw hp hp'
    by_cases e : id = t
    · subst e
      have e' : id' ≠ id := fun q => hne q.symm
      rw [(hoth id' e').2] at hm'
      exact hinj id' m' m g c' c e' hm' hm hp' hp (.inr hw)
    · rw [(hoth id e).2] at hm
      by_cases e' : id' = t
      · subst e'
        exact hinj id m m' g c c' e hm hm' hp hp' (.inl hw)
      · rw [(hoth id' e').2] at hm'
        exact hr.inj id id' m m' g c c' hne hm hm' hw hp hp'

/-- A place lies in the heap. -/
theorem Rel.place_lt (hr : Rel σ E w) {id : Nat} {m : MI} {g c : Nat} (hm : E[id]? = some m) (hp : m.place = some (g, c)) : g < w.heap.size := by
  have hlt : id < E.length := (List.getElem?_eq_some_iff.1 hm).1
  rw [hr.len] at hlt
  obtain ⟨m', hm', hok⟩ := hr.blk id _ (List.getElem?_eq_getElem hlt)
  rw [hm] at hm'; cases hm'
  cases he : (σ[id]).ext with
  | none =>
    have := (hok.cells he).2.2.2.2.2
    rw [hp] at this
    obtain ⟨_, _, cur, e, lo, hi, hh, _⟩ := this
    exact (Array.getElem?_eq_some_iff.1 hh).1
  | some x =>
    obtain ⟨_, _, _, _, _, _, g', c', k7, k8, _⟩ := hok.isExt he
    rw [hp] at k7; cases k7
    exact k8

/-! ### A new block -/
structure Grows (w w' : World) (o : Obj) : Prop where
  heap : w'.heap = w.heap.push o
  os : w'.os = w.os
  tape : w'.tape = w.tape
  output : w'.output = w.output

omit [Zone] in
theorem Grows.alloc (w : World) (o : Obj) : Grows w (w.alloc o) o := ⟨rfl, rfl, rfl, rfl⟩
omit [Zone] in
theorem Grows.drewAlloc (w : World) (o : Obj) : Grows w (w.drew.alloc o) o := ⟨rfl, rfl, rfl, rfl⟩

omit [Zone] in
theorem Grows.old {o : Obj} (h : Grows w w' o) {g : Nat} (hg : g < w.heap.size) : w'.heap[g]? = w.heap[g]? := by
  rw [h.heap, Array.getElem?_push, if_neg (by omega)]

omit [Zone] in
theorem ew_append {m : MI} {g : Nat} (h : EW (E ++ [m]) g) : EW E g ∨ ∃ c, m.place = some (g, c) := by
  obtain ⟨id, m', c, hm, hw, hp⟩ := h
  rw [List.getElem?_append] at hm
  split at hm
  · exact .inl ⟨id, m', c, hm, hw, hp⟩
  · rw [List.getElem?_singleton] at hm
    split at hm
    · cases hm; exact .inr ⟨c, hp⟩
    · cases hm

theorem new_block (hr : Rel σ E w) {cur : Array Value} {e lo hi : Nat} (hg : Grows w w' (.cells cur e (lo, hi))) (b : Blk) (c : Nat) (hbe : b.ext = none) (hb0 : b.gen = 0) (hbw : b.wr = true) (hsz : 0 < b.sz) (hrow : ∀ r, r ∈ b.els → r.length = b.sz)
    (hlc : b.els.length ≤ c) (hfu : b.full = true → c ≤ b.els.length) (hc : c ≤ 9223372036854775807) (hcur : cur.size = c * b.sz) (hfz : cur.size ≤ lo ∨ lo = 0 ∧ hi = 0) (h1 : ∀ v, v ∈ cur.toList → v.oneCell' = true)
    (hrep : if b.pure then RepVL w (EW E) (cur.toList.take b.els.flatten.length) b.els.flatten else RepL w E (cur.toList.take b.els.flatten.length) b.els.flatten) :
    Step E w (E ++ [⟨0, b.sz, true, some (w.heap.size, c)⟩]) w' ∧ Rel (σ ++ [b]) (E ++ [⟨0, b.sz, true, some (w.heap.size, c)⟩]) w' := by
  have hs : Step E w (E ++ [⟨0, b.sz, true, some (w.heap.size, c)⟩]) w' := by
    refine ⟨hg.os, hg.tape, hg.output, by rw [hg.heap]; simp, fun g hlt _ => hg.old hlt, ?_, ?_⟩
    · intro g h
      rcases ew_append h with h | ⟨c', h⟩
      · exact .inl h
      · cases h; exact .inr (Nat.le_refl _)
    · intro id m hm
      have hlt : id < E.length := (List.getElem?_eq_some_iff.1 hm).1
      exact ⟨m, by rw [List.getElem?_append_left hlt]; exact hm, Nat.le_refl _, fun _ => ⟨rfl, rfl⟩⟩
  refine ⟨hs, hr.change hs (by simp [hr.len]) σ.length ?_ ?_ ?_ ?_ ?_⟩
  · intro id hne
    by_cases hlt : id < σ.length
    · rw [List.getElem?_append_left hlt, List.getElem?_append_left (by rw [hr.len]; exact hlt)]; exact ⟨rfl, rfl⟩
    · have h1 : σ.length + 1 ≤ id := by omega
      rw [List.getElem?_eq_none (by simp; omega), List.getElem?_eq_none (by omega), List.getElem?_eq_none (by simp [hr.len]; omega), List.getElem?_eq_none (by rw [hr.len]; omega)]
      exact ⟨rfl, rfl⟩
  · intro id m g c' _ hm hp
    exact hg.old (hr.place_lt hm hp)
  · intro b' hb'
    rw [List.getElem?_append_right (Nat.le_refl _)] at hb'
    simp at hb'
    subst hb'
    refine ⟨⟨0, b.sz, true, some (w.heap.size, c)⟩, by rw [← hr.len, List.getElem?_append_right (Nat.le_refl _)]; simp, BlkAny.of ?_ hbe⟩
    refine ⟨hb0.symm, rfl, hbw.symm, hsz, hrow, ⟨hlc, hfu⟩, hc, cur, e, lo, hi, by rw [hg.heap]; simp, hcur, hfz, h1, ?_⟩
    split at hrep
    · rename_i hp; rw [if_pos hp]; exact hrep.keep hs.keep
    · rename_i hp; rw [if_neg hp]; exact hrep.step hs
  · intro m g c' hm hp
    rw [← hr.len, List.getElem?_append_right (Nat.le_refl _)] at hm
    simp at hm
    subst hm
    cases hp
    exact hr.base
  · intro id m m' g c1 c2 hne hm hm' hp hp' _
    rw [← hr.len, List.getElem?_append_right (Nat.le_refl _)] at hm'
    simp at hm'
    subst hm'
    cases hp'
    have := hr.place_lt hm hp
    omega

/-! ### A block is written -/
omit [Zone] in
theorem set_get_self {α : Type} {l : List α} {i : Nat} {x y : α} (h : l[i]? = some y) : (l.set i x)[i]? = some x := by
  have hlt : i < l.length := (List.getElem?_eq_some_iff.1 h).1
  rw [List.getElem?_set_self hlt]

theorem write_block (hr : Rel σ E w) {id : Nat} {b b' : Blk} {m : MI} (hb : σ[id]? = some b) (hm : E[id]? = some m) (hok : BlkOk w E b m) (hw : b.wr = true) {g c : Nat} (hp : m.place = some (g, c))
    {cur cur' : Array Value} {e lo hi lo' hi' : Nat} (hh : w.heap[g]? = some (.cells cur e (lo, hi))) (hh' : w'.heap[g]? = some (.cells cur' e (lo', hi'))) (hsize : cur'.size = cur.size) (hfz : cur.size ≤ lo ∨ lo = 0 ∧ hi = 0 → cur.size ≤ lo' ∨ lo' = 0 ∧ hi' = 0)
    (hoth : ∀ k, k ≠ g → w'.heap[k]? = w.heap[k]?) (hos : w'.os = w.os) (htape : w'.tape = w.tape) (hout : w'.output = w.output) (hsz : w'.heap.size = w.heap.size)
    (b0 : b'.ext = none) (b1 : b'.gen = b.gen) (b2 : b'.sz = b.sz) (b3 : b'.wr = b.wr) (hrow : ∀ r, r ∈ b'.els → r.length = b.sz) (hlc : b'.els.length ≤ c) (hfu : b'.full = true → c ≤ b'.els.length) (h1 : ∀ v, v ∈ cur'.toList → v.oneCell' = true)
    (hrep : if b'.pure then RepVL w (EW E) (cur'.toList.take b'.els.flatten.length) b'.els.flatten else RepL w E (cur'.toList.take b'.els.flatten.length) b'.els.flatten) :
    Step E w E w' ∧ Rel (σ.set id b') E w' := by
  obtain ⟨k1, k2, k3, k4, k5, k6⟩ := hok
  rw [hp] at k6
  obtain ⟨k7, k8, cur0, e0, lo0, hi0, k9, k10, k11, k12, k13⟩ := k6
  rw [hh] at k9; cases k9
  have hmw : m.wr = true := k3.trans hw
  have hs : Step E w E w' := by
    refine ⟨hos, htape, hout, by omega, ?_, fun g h => .inl h, fun id m h => ⟨m, h, Nat.le_refl _, fun _ => ⟨rfl, rfl⟩⟩⟩
    intro k hk hn
    refine hoth k (fun q => hn ?_)
    subst q
    exact ⟨id, m, c, hm, hmw, hp⟩
  refine ⟨hs, hr.change hs (by simp [hr.len]) id ?_ ?_ ?_ (hr.fresh id) ?_⟩
  · intro id' hne
    exact ⟨List.getElem?_set_ne (fun q => hne q.symm), rfl⟩
  · intro id' m' g' c' hne hm' hp'
    refine hoth g' (fun q => ?_)
    subst q
    exact hr.inj id id' m m' g' c c' (fun q => hne q.symm) hm hm' hmw hp hp'
  · intro b'' hb''
    rw [set_get_self hb] at hb''
    cases hb''
    refine ⟨m, hm, BlkAny.of ⟨k1.trans b1.symm, k2.trans b2.symm, k3.trans b3.symm, by rw [b2]; exact k4, by rw [b2]; exact hrow, ?_⟩ b0⟩
    rw [hp]
    refine ⟨⟨hlc, hfu⟩, k8, cur', e, lo', hi', hh', by rw [hsize, k10, b2], by rw [hsize]; exact hfz k11, h1, ?_⟩
    split at hrep
    · rename_i hpu; rw [if_pos hpu]; exact hrep.keep hs.keep
    · rename_i hpu; rw [if_neg hpu]; exact hrep.step hs
  · intro id' m1 m2 g' c1 c2 hne hm1 hm2 hp1 hp2 _
    rw [hm] at hm2; cases hm2
    exact hr.inj id id' m m1 g' c2 c1 (fun q => hne q.symm) hm hm1 hmw hp2 hp1

/-! ### A block is frozen -/
theorem freeze_block (hr : Rel σ E w) {id : Nat} {b : Blk} {m : MI} (hb : σ[id]? = some b) (hm : E[id]? = some m) :
    Step E w (E.set id { m with wr := false }) w ∧ Rel (σ.set id { b with wr := false }) (E.set id { m with wr := false }) w ∧ (∀ g c, m.place = some (g, c) → m.wr = true → ¬ EW (E.set id { m with wr := false }) g) := by
  have hw : ∀ g, EW (E.set id { m with wr := false }) g → ∃ (id' : Nat) (m' : MI) (c : Nat), id' ≠ id ∧ E[id']? = some m' ∧ m'.wr = true ∧ m'.place = some (g, c) := by
    rintro g ⟨id', m', c, hm', hw', hp'⟩
    by_cases e : id' = id
    · subst e
      rw [set_get_self hm] at hm'; cases hm'; cases hw'
    · rw [List.getElem?_set_ne (fun q => e q.symm)] at hm'
      exact ⟨id', m', c, e, hm', hw', hp'⟩
  have hs : Step E w (E.set id { m with wr := false }) w := by
    refine ⟨rfl, rfl, rfl, Nat.le_refl _, fun _ _ _ => rfl, ?_, ?_⟩
    · intro g h
      obtain ⟨id', m', c, _, h1, h2, h3⟩ := hw g h
      exact .inl ⟨id', m', c, h1, h2, h3⟩
    · intro id' m' hm'
      by_cases e : id' = id
      · subst e
        rw [hm] at hm'; cases hm'
        exact ⟨_, set_get_self hm, Nat.le_refl _, fun _ => ⟨rfl, rfl⟩⟩
      · exact ⟨m', by rw [List.getElem?_set_ne (fun q => e q.symm)]; exact hm', Nat.le_refl _, fun _ => ⟨rfl, rfl⟩⟩
  obtain ⟨m0, hm0, hok⟩ := hr.blk id b hb
  rw [hm] at hm0; cases hm0
  refine ⟨hs, hr.change hs (by simp [hr.len]) id ?_ (fun _ _ _ _ _ _ _ => rfl) ?_ (fun m' g c hm' hp' => by rw [set_get_self hm] at hm'; cases hm'; exact hr.fresh id m g c hm hp') ?_, ?_⟩
  · intro id' hne
    exact ⟨List.getElem?_set_ne (fun q => hne q.symm), List.getElem?_set_ne (fun q => hne q.symm)⟩
  · intro b' hb'
    rw [set_get_self hb] at hb'; cases hb'
    refine ⟨_, set_get_self hm, ?_⟩
    have := hok.step hs (fun _ _ _ => rfl)
    cases he : b.ext with
    | none =>
      obtain ⟨k1, k2, k3, k4, k5, k6⟩ := this.cells he
      exact .of ⟨k1, k2, rfl, k4, k5, k6⟩ rfl
    | some x =>
      obtain ⟨k1, k2, k3, k4, k5, k6, g, c, k7, k8, k9⟩ := this.isExt he
      exact .ofExt ⟨k1, k2, k3, rfl, k5, k6, g, c, k7, k8, k9⟩ rfl
  · intro id' m1 m2 g' c1 c2 hne hm1 hm2 hp1 hp2 hw'
    rw [set_get_self hm] at hm2; cases hm2
    rcases hw' with hw' | hw'
    · exact hr.inj id' id m1 m g' c1 c2 hne hm1 hm hw' hp1 hp2
    · cases hw'
  · intro g c hp hmw hg
    obtain ⟨id', m', c', hne, h1, h2, h3⟩ := hw g hg
    exact hr.inj id id' m m' g c c' (fun q => hne q.symm) hm h1 hmw hp h3

end
end Go.Proofs.Ytppccaacbpkgiaa.V
