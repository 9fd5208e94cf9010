/-
  VM: maps: what the machine does where the abstract precondition holds (keys: whole numbers; values: whole numbers or bools); blocks that are no cells: laid, turned.
-/
import Derived.Test.YtppccaacbpkgiaaVD5
import Derived.RangeFuncRecord
import Derived.MapKept
import Derived.Laws.IdiomRangeMap
namespace Go.Proofs.Ytppccaacbpkgiaa.V
open Go Go.RowKit
variable [Zone]
set_option linter.unusedSimpArgs false
set_option linter.unusedVariables false
section
variable {P : Program} {w w' : World} {E E' : Env} {σ σ' : AH}

/-- The worlds that a quiet region may come through. -/
structure Calm (w w' : World) : Prop where
  old : Old w w'
  size : w.heap.size ≤ w'.heap.size
  os : w'.os = w.os
  tape : w'.tape = w.tape
  output : w'.output = w.output

theorem Rel.calm {σ : AH} {E : Env} {w w' : World} (hr : Rel σ E w) (h : Calm w w') : Step E w E w' ∧ Rel σ E w' := by
  have hs : Step E w E w' := ⟨h.os, h.tape, h.output, h.size, fun g hg _ => h.old g hg, fun g hg => .inl hg, fun id m hm => ⟨m, hm, Nat.le_refl _, fun _ => ⟨rfl, rfl⟩⟩⟩
  refine ⟨hs, hr.change hs hr.len σ.length (fun _ _ => ⟨rfl, rfl⟩) (fun id m g c _ hm hp => h.old g (hr.place_lt hm hp)) ?_ (hr.fresh _) ?_⟩
  · intro b hb; rw [List.getElem?_eq_none (Nat.le_refl _)] at hb; cases hb
  · intro id m m' g c c' _ _ hm'; rw [List.getElem?_eq_none (by rw [hr.len]; exact Nat.le_refl _)] at hm'; cases hm'

/-- A new block that is no cells. -/
theorem new_ext (hr : Rel σ E w) {o : Obj} (hg : Grows w w' o) (b : Blk) (x : Ext) (hx : b.ext = some x) (hb0 : b.gen = 0) (hbw : b.wr = true) (hsz : b.sz = 0) (hels : b.els = []) (hpu : b.pure = false)
    (hat : ExtAt w' (E ++ [⟨0, 0, true, some (w.heap.size, 0)⟩]) w.heap.size x) :
    Step E w (E ++ [⟨0, 0, true, some (w.heap.size, 0)⟩]) w' ∧ Rel (σ ++ [b]) (E ++ [⟨0, 0, true, some (w.heap.size, 0)⟩]) w' := by
  have hs : Step E w (E ++ [⟨0, 0, true, some (w.heap.size, 0)⟩]) w' := by
    refine ⟨hg.os, hg.tape, hg.output, by rw [hg.heap]; simp, fun g hlt _ => hg.old hlt, ?_, ?_⟩
    · intro g h
      rcases ew_append h with h | ⟨c', h⟩
      · exact .inl h
      · cases h; exact .inr (Nat.le_refl _)
    · intro id m hm
      have hlt : id < E.length := (List.getElem?_eq_some_iff.1 hm).1
      exact ⟨m, by rw [List.getElem?_append_left hlt]; exact hm, Nat.le_refl _, fun _ => ⟨rfl, rfl⟩⟩
  refine ⟨hs, hr.change hs (by simp [hr.len]) σ.length ?_ ?_ ?_ ?_ ?_⟩
  · intro id hne
    by_cases hlt : id < σ.length
    · rw [List.getElem?_append_left hlt, List.getElem?_append_left (by rw [hr.len]; exact hlt)]; exact ⟨rfl, rfl⟩
    · have h1 : σ.length + 1 ≤ id := by omega
      rw [List.getElem?_eq_none (by simp; omega), List.getElem?_eq_none (by omega), List.getElem?_eq_none (by simp [hr.len]; omega), List.getElem?_eq_none (by rw [hr.len]; omega)]
      exact ⟨rfl, rfl⟩
  · intro id m g c' _ hm hp
    exact hg.old (hr.place_lt hm hp)
  · intro b' hb'
    rw [List.getElem?_append_right (Nat.le_refl _)] at hb'
    simp at hb'
    subst hb'
    exact ⟨⟨0, 0, true, some (w.heap.size, 0)⟩, by rw [← hr.len, List.getElem?_append_right (Nat.le_refl _)]; simp, BlkAny.ofExt ⟨hb0.symm, rfl, hsz, hbw.symm, hels, hpu, _, _, rfl, by rw [hg.heap]; simp, hat⟩ hx⟩
  · intro m g c' hm hp
    rw [← hr.len, List.getElem?_append_right (Nat.le_refl _)] at hm
    simp at hm
    subst hm
    cases hp
    exact hr.base
  · intro id m m' g c1 c2 hne hm hm' hp hp' _
    rw [← hr.len, List.getElem?_append_right (Nat.le_refl _)] at hm'
    simp at hm'
    subst hm'
    cases hp'
    have := hr.place_lt hm hp
    omega

/-- A block that is no cells becomes another. -/
theorem write_ext (hr : Rel σ E w) {id : Nat} {b b' : Blk} {x x' : Ext} {m : MI} {g c : Nat} (hb : σ[id]? = some b) (hm : E[id]? = some m) (hx : b.ext = some x) (hw : b.wr = true) (hp : m.place = some (g, c)) {o : Obj} (hh : w' = w.putObj g o)
    (hx' : b'.ext = some x') (b1 : b'.gen = b.gen) (b2 : b'.sz = 0) (b3 : b'.wr = true) (b4 : b'.els = []) (b5 : b'.pure = false) (hat : ExtAt w' E g x') : Step E w E w' ∧ Rel (σ.set id b') E w' := by
  obtain ⟨m0, hm0, hok⟩ := hr.blk id b hb
  rw [hm] at hm0; cases hm0
  obtain ⟨k1, k2, k3, k4, k5, k6, g0, c0, k7, k8, k9⟩ := hok.isExt hx
  rw [hp] at k7; cases k7
  have hmw : m.wr = true := k4.trans hw
  have hoth : ∀ k, k ≠ g → w'.heap[k]? = w.heap[k]? := fun k hk => by rw [hh]; exact World.putObj_heap_other hk
  have hsz : w'.heap.size = w.heap.size := by rw [hh]; exact World.putObj_size
  have hs : Step E w E w' := by
    refine ⟨by rw [hh]; rfl, by rw [hh]; rfl, by rw [hh]; rfl, by omega, ?_, fun g h => .inl h, fun id m h => ⟨m, h, Nat.le_refl _, fun _ => ⟨rfl, rfl⟩⟩⟩
    intro k hk hn
    refine hoth k (fun q => hn ?_)
    subst q
    exact ⟨id, m, c, hm, hmw, hp⟩
  refine ⟨hs, hr.change hs (by simp [hr.len]) id ?_ ?_ ?_ (hr.fresh id) ?_⟩
  · intro id' hne
    exact ⟨List.getElem?_set_ne (fun q => hne q.symm), rfl⟩
  · intro id' m' g' c' hne hm' hp'
    refine hoth g' (fun q => ?_)
    subst q
    exact hr.inj id id' m m' g' c c' (fun q => hne q.symm) hm hm' hmw hp hp'
  · intro b'' hb''
    rw [set_get_self hb] at hb''
    cases hb''
    exact ⟨m, hm, BlkAny.ofExt ⟨k1.trans b1.symm, k2, b2, hmw.trans b3.symm, b4, b5, g, c, hp, by omega, hat⟩ hx'⟩
  · intro id' m1 m2 g' c1 c2 hne hm1 hm2 hp1 hp2 _
    rw [hm] at hm2; cases hm2
    exact hr.inj id id' m m1 g' c2 c1 (fun q => hne q.symm) hm hm1 hmw hp2 hp1

end

/-! ### What is found in a map -/
section
omit [Zone]
theorem findNow_me (n : Int) : ∀ (es : List ME) (i : Nat), Instr.findNow (.int .i64) (.int .i64 n) (es.map ME.e) i = some (match es.findIdx? (fun e => e.key == n) with | some j => (es[j]?).map fun e => (i + j, e.val.v) | none => none)
  | [], i => rfl
  | e :: es, i => by
    have hs : Instr.sameNow (.int .i64) (.int .i64 n) (ME.e e).key = some (n == e.key) := by simp [ME.e, Instr.sameNow]
    rw [List.map_cons, Instr.findNow, hs, List.findIdx?_cons]
    by_cases h : e.key = n
    · subst h
      simp [ME.e]
    · have h1 : (n == e.key) = false := by simpa using fun q : n = e.key => h q.symm
      have h2 : (e.key == n) = false := by simpa using h
      rw [h1, h2]
      simp only [Bool.false_eq_true, if_false]
      rw [findNow_me n es (i + 1)]
      cases es.findIdx? (fun e => e.key == n) with
      | none => rfl
      | some j =>
        simp only [Option.map_some, List.getElem?_cons_succ]
        cases es[j]? with
        | none => rfl
        | some x => simp only [Option.map_some]; congr 3; omega
theorem mget_ix (es : List ME) (n : Int) : mget es n = match es.findIdx? (fun e => e.key == n) with | some j => (es[j]?).map (·.val) | none => none := by
  induction es with
  | nil => rfl
  | cons e es ih =>
    unfold mget at ih ⊢
    rw [List.find?_cons, List.findIdx?_cons]
    by_cases h : (e.key == n) = true
    · rw [h]; simp
    · have h' : (e.key == n) = false := by simpa using h
      rw [h']
      simp only [Bool.false_eq_true, if_false]
      rw [ih]
      cases es.findIdx? (fun e => e.key == n) <;> simp
theorem ix_spec {es : List ME} {n : Int} {j : Nat} (h : es.findIdx? (fun e => e.key == n) = some j) : ∃ e, es[j]? = some e ∧ e.key = n := by
  obtain ⟨hj, h1, _⟩ := List.findIdx?_eq_some_iff_getElem.1 h
  exact ⟨es[j], List.getElem?_eq_getElem hj, by simpa using h1⟩
theorem lst_modify {es : List ME} {j : Nat} {e : ME} {n : Int} (h : es[j]? = some e) (hn : e.key = n) (v : ML) : (es.map ME.e).modify j (fun x => { key := .int .i64 n, val := v.v, born := x.born }) = (es.modify j fun x => { key := x.key, val := v, born := x.born }).map ME.e := by
  apply List.ext_getElem?
  intro k
  simp only [List.getElem?_map, List.getElem?_modify]
  by_cases hk : j = k
  · subst hk
    simp [h, ME.e, hn]
  · simp [hk]
theorem lst_erase (es : List ME) (j : Nat) : (es.map ME.e).eraseIdx j = (es.eraseIdx j).map ME.e := by
  apply List.ext_getElem?
  intro k
  simp only [List.getElem?_eraseIdx, List.getElem?_map]
  split <;> rfl
theorem key_int {es : List ME} : ∀ x, x ∈ es.map ME.e → MapKept.IsKey (.int .i64) x.key := by
  intro x hx
  obtain ⟨e, _, rfl⟩ := List.mem_map.1 hx
  exact rfl
end

section
variable {P : Program} {w : World} {E : Env} {σ : AH} {fr : Fr} {a : Act} {K : AV → AH → Prop}
theorem ML.rep (m : ML) : Rep w E m.v m.a := by
  cases m
  · exact .pure (.int _ _)
  · exact .pure (.bool _)
theorem mapW_elim (hr : Rel σ E w) {x : AV} {M : Nat → Blk → List ME → Nat → Prop} (h : MapW σ x M) {v : Value} (hv : Rep w E v x) : ∃ id b es clock m g c, σ[id]? = some b ∧ b.ext = some (.map es clock) ∧ E[id]? = some m ∧ m.place = some (g, c) ∧ w.heap[g]? = some (.map (es.map ME.e).toArray clock) ∧ v = .map (some g) ∧ b.wr = true ∧ m.gen = b.gen ∧
    b.sz = 0 ∧ b.els = [] ∧ b.pure = false ∧ M id b es clock := by
  replace h := h.ok
  unfold mapD at h
  split at h
  · rename_i id gen
    split at h
    · rename_i b hb
      split at h
      · rename_i es clock hx
        obtain ⟨hg, hw, hk⟩ := h
        obtain ⟨m, hm, hok⟩ := hr.blk id b hb
        obtain ⟨k1, k2, k3, k4, k5, k6, g, c, k7, k8, k9⟩ := hok.isExt hx
        refine ⟨id, b, es, clock, m, g, c, hb, hx, hm, k7, k9, ?_, hw, k1, k3, k5, k6, hk⟩
        cases hv with
        | pure h => cases h
        | rsl m' h1 hm' hg' hh =>
          rw [hm] at hm'; cases hm'
          have := hh (by rw [k1, hg])
          unfold RslAny at this
          rw [if_pos k2] at this
          obtain ⟨g', c', hp', e⟩ := this
          rw [k7] at hp'; cases hp'
          simpa using e
      · exact h.elim
    · exact h.elim
  · exact h.elim
theorem keyR_elim {x : AV} {M : Int → Prop} (h : keyR x M) {v : Value} (hv : Rep w E v x) : ∃ n : Int, v = .int .i64 n ∧ M n := by
  unfold keyR at h
  split at h
  · exact ⟨_, hv.int_inv, h⟩
  · exact h.elim
theorem litK_elim {x : AV} {M : ML → Prop} (h : litK x M) {v : Value} (hv : Rep w E v x) : ∃ m : ML, v = m.v ∧ M m := by
  unfold litK at h
  split at h
  · exact ⟨.int _, hv.int_inv, h⟩
  · exact ⟨.bool _, hv.bool_inv, h⟩
  · exact h.elim
theorem mkmap_leaves {t : TypeId} (hr : Rel σ E w) (h : K (.rsl σ.length 0 0 0 none) (σ ++ [mblk [] 0])) : Leaves P w E (Instr.makeMap t none) K := by
  obtain ⟨s, r⟩ := new_ext hr (Grows.alloc w (.map #[] 0)) (mblk [] 0) (.map [] 0) rfl rfl rfl rfl rfl rfl (World.alloc_heap_new _ _)
  refine ⟨.map (some w.heap.size), _, w.alloc (.map #[] 0), _, _, rfl, ?_, r, s, h⟩
  refine .rsl ⟨0, 0, true, some (w.heap.size, 0)⟩ rfl ?_ (Nat.le_refl _) (fun _ => ?_)
  · rw [← hr.len, List.getElem?_append_right (Nat.le_refl _)]; simp
  · unfold RslAny
    rw [if_pos rfl]
    exact ⟨_, _, rfl, by simp⟩
theorem look_leaves {t kt et : TypeId} {c : Bool} {z : ML} {n : Int} (ht : P.underlying t = some (.map kt et)) (hk : P.underlying kt = some (.int .i64)) (hz : (zeroValue et).run P w = .ok z.v w) (hr : Rel σ E w) {x : AV} {v : Value} (hv : Rep w E v x)
    (h : MapW σ x fun _ _ es _ => LookW (mget es n) (lookR c z σ K)) : Leaves P w E (Instr.lookup t v (.int .i64 n) c) K := by
  obtain ⟨id, b, es, clock, m, g, cc, h1, h2, h3, h4, h5, rfl, h7, h8, h9, h10, h11, h12⟩ := mapW_elim hr h hv
  have h12 := h12.ok
  have hf := findNow_me n es 0
  rw [mget_ix] at h12
  have hrun : ∀ r, Instr.findNow (.int .i64) (.int .i64 n) (es.map ME.e) 0 = some r → (Instr.findKey kt (.int .i64 n) (es.map ME.e)).run P w = .ok r w := fun r hr => MapKept.run_findKey hk hr
  have hck : ∀ e, (Instr.checkKey e 10000 kt (.int .i64 n)).run P w = .ok () w := fun e => MapKept.run_checkKey (d := .int .i64) (k := .int .i64 n) hk rfl e 9999
  cases hix : es.findIdx? (fun e => e.key == n) with
  | none =>
    rw [hix] at h12 hf
    have h13 : lookR c z σ K none := h12
    have hfk := hrun _ hf
    cases c
    · refine ⟨z.v, z.a, w, E, σ, ?_, z.rep, hr, Step.refl _ _, h13⟩
      simp [Instr.lookup, run_underlying ht, MapKept.run_getObj_map h5, hck, hfk, hz]
    · refine ⟨.tuple #[z.v, .bool false], .tup [z.a, .bool false], w, E, σ, ?_, .tup _ _ (.cons z.rep (.cons (.pure (.bool _)) .nil)), hr, Step.refl _ _, h13⟩
      simp [Instr.lookup, run_underlying ht, MapKept.run_getObj_map h5, hck, hfk, hz]
  | some j =>
    obtain ⟨e, he, _⟩ := ix_spec hix
    rw [hix] at h12 hf
    simp only [he, Option.map_some] at h12 hf
    have h13 : lookR c z σ K (some e.val) := h12
    have hfk := hrun _ hf
    cases c
    · refine ⟨e.val.v, e.val.a, w, E, σ, ?_, e.val.rep, hr, Step.refl _ _, h13⟩
      simp [Instr.lookup, run_underlying ht, MapKept.run_getObj_map h5, hck, hfk]
    · refine ⟨.tuple #[e.val.v, .bool true], .tup [e.val.a, .bool true], w, E, σ, ?_, .tup _ _ (.cons e.val.rep (.cons (.pure (.bool _)) .nil)), hr, Step.refl _ _, h13⟩
      simp [Instr.lookup, run_underlying ht, MapKept.run_getObj_map h5, hck, hfk]
/-- A map's block is turned. -/
theorem put_map (hr : Rel σ E w) {id : Nat} {b : Blk} {es es' : List ME} {clock clock' : Nat} {m : MI} {g c : Nat} (h1 : σ[id]? = some b) (h2 : b.ext = some (.map es clock)) (h3 : E[id]? = some m) (h4 : m.place = some (g, c)) (h5 : w.heap[g]? = some (.map (es.map ME.e).toArray clock)) (h7 : b.wr = true)
    (h9 : b.sz = 0) (h10 : b.els = []) (h11 : b.pure = false) : Step E w E (w.putObj g (.map (es'.map ME.e).toArray clock')) ∧ Rel (σ.set id { b with ext := some (.map es' clock') }) E (w.putObj g (.map (es'.map ME.e).toArray clock')) :=
  write_ext hr h1 h3 h2 h7 h4 rfl (b' := { b with ext := some (.map es' clock') }) rfl rfl h9 h7 h10 h11 (World.putObj_heap_same (Array.getElem?_eq_some_iff.1 h5).1)
theorem upd_leaves {t kt et : TypeId} {n : Int} {y : ML} (ht : P.underlying t = some (.map kt et)) (hk : P.underlying kt = some (.int .i64)) (hr : Rel σ E w) {x : AV} {v : Value} (hv : Rep w E v x)
    (h : MapW σ x fun id b es clock => K (.tup []) (σ.set id { b with ext := some (.map (mputE es n y clock) (mputC es n clock)) })) : Leaves P w E (do Instr.mapUpdate t v (.int .i64 n) y.v; pure undef) K := by
  obtain ⟨id, b, es, clock, m, g, cc, h1, h2, h3, h4, h5, rfl, h7, h8, h9, h10, h11, h12⟩ := mapW_elim hr h hv
  obtain ⟨s, r⟩ := put_map (es' := mputE es n y clock) (clock' := mputC es n clock) hr h1 h2 h3 h4 h5 h7 h9 h10 h11
  refine ⟨undef, .tup [], _, E, _, ?_, .tup #[] [] .nil, r, s, h12⟩
  have hf := findNow_me n es 0
  have hrun : ∀ r, Instr.findNow (.int .i64) (.int .i64 n) (es.map ME.e) 0 = some r → (Instr.findKey kt (.int .i64 n) (es.map ME.e)).run P w = .ok r w := fun r hr => MapKept.run_findKey hk hr
  have hck : ∀ e, (Instr.checkKey e 10000 kt (.int .i64 n)).run P w = .ok () w := fun e => MapKept.run_checkKey (d := .int .i64) (k := .int .i64 n) hk rfl e 9999
  unfold mputE mputC
  cases hix : es.findIdx? (fun e => e.key == n) with
  | none =>
    rw [hix] at hf
    have hfk := hrun _ hf
    simp [Instr.mapUpdate, run_underlying ht, MapKept.run_getObj_map h5, hck, hfk, MapKept.run_setObj_map _ h5, World.putObj, ME.e]
  | some j =>
    obtain ⟨e, he, hen⟩ := ix_spec hix
    rw [hix] at hf
    simp only [he, Option.map_some] at hf
    have hfk := hrun _ hf
    have hkt : (Instr.keyThatStays (ME.e e).key (.int .i64 n)).run P w = .ok (.int .i64 n) w := by
      have : Instr.sameBits 10000 (ME.e e).key (.int .i64 n) = true := by
        simp [ME.e, hen, Instr.sameBits]
      simp [Instr.keyThatStays, this]
    simp [Instr.mapUpdate, run_underlying ht, MapKept.run_getObj_map h5, hck, hfk, he, hkt, MapKept.run_setObj_map _ h5, World.putObj]
    rw [lst_modify he hen]
theorem del_leaves {t kt et t2 ty : TypeId} {n : Int} (ht : P.underlying t = some (.map kt et)) (hk : P.underlying kt = some (.int .i64)) (hr : Rel σ E w) {x : AV} {v : Value} (hv : Rep w E v x)
    (h : MapW σ x fun id b es clock => K (.tup []) (σ.set id { b with ext := some (.map (mdel es n) clock) })) : Leaves P w E (Builtin.delete_ #[t, t2] ty #[v, .int .i64 n]) K := by
  obtain ⟨id, b, es, clock, m, g, cc, h1, h2, h3, h4, h5, rfl, h7, h8, h9, h10, h11, h12⟩ := mapW_elim hr h hv
  obtain ⟨s, r⟩ := put_map (es' := mdel es n) (clock' := clock) hr h1 h2 h3 h4 h5 h7 h9 h10 h11
  refine ⟨.tuple #[], .tup [], _, E, _, ?_, .tup #[] [] .nil, r, s, h12⟩
  have hf := findNow_me n es 0
  have hrun : ∀ r, Instr.findNow (.int .i64) (.int .i64 n) (es.map ME.e) 0 = some r → (Instr.findKey kt (.int .i64 n) (es.map ME.e)).run P w = .ok r w := fun r hr => MapKept.run_findKey hk hr
  have hck : ∀ e, (Instr.checkKey e 10000 kt (.int .i64 n)).run P w = .ok () w := fun e => MapKept.run_checkKey (d := .int .i64) (k := .int .i64 n) hk rfl e 9999
  unfold mdel
  cases hix : es.findIdx? (fun e => e.key == n) with
  | none =>
    rw [hix] at hf
    have hfk := hrun _ hf
    simp [Builtin.delete_, run_underlying ht, MapKept.run_getObj_map h5, hck, hfk, MapKept.run_setObj_map _ h5, World.putObj]
  | some j =>
    obtain ⟨e, he, hen⟩ := ix_spec hix
    rw [hix] at hf
    simp only [he, Option.map_some] at hf
    have hfk := hrun _ hf
    simp [Builtin.delete_, run_underlying ht, MapKept.run_getObj_map h5, hck, hfk, MapKept.run_setObj_map _ h5, World.putObj]
    rw [lst_erase]
theorem clr_leaves {t kt et ty : TypeId} (ht : P.underlying t = some (.map kt et)) (hr : Rel σ E w) {x : AV} {v : Value} (hv : Rep w E v x)
    (h : MapW σ x fun id b _ clock => K (.tup []) (σ.set id { b with ext := some (.map [] clock) })) : Leaves P w E (Builtin.clear_ #[t] ty #[v]) K := by
  obtain ⟨id, b, es, clock, m, g, cc, h1, h2, h3, h4, h5, rfl, h7, h8, h9, h10, h11, h12⟩ := mapW_elim hr h hv
  obtain ⟨s, r⟩ := put_map (es' := []) (clock' := clock) hr h1 h2 h3 h4 h5 h7 h9 h10 h11
  refine ⟨.tuple #[], .tup [], _, E, _, ?_, .tup #[] [] .nil, r, s, h12⟩
  simp [Builtin.clear_, run_underlying ht, MapKept.run_getObj_map h5, MapKept.run_setObj_map _ h5, World.putObj]
theorem rng_leaves {t kt et : TypeId} (ht : P.underlying t = some (.map kt et)) (hr : Rel σ E w) {x : AV} {v : Value} (hv : Rep w E v x)
    (h : MapW σ x fun id b _ clock => K (.ptr σ.length 0 0 0) (σ ++ [iblk id b.gen clock [] clock])) : Leaves P w E (Instr.range t v) K := by
  obtain ⟨id, b, es, clock, m, g, cc, h1, h2, h3, h4, h5, rfl, h7, h8, h9, h10, h11, h12⟩ := mapW_elim hr h hv
  have hlt : id < E.length := (List.getElem?_eq_some_iff.1 h3).1
  have hg : g < w.heap.size := (Array.getElem?_eq_some_iff.1 h5).1
  obtain ⟨s, r⟩ := new_ext hr (Grows.alloc w (.mapIter (some g) clock #[] clock)) (iblk id b.gen clock [] clock) (.iter id b.gen clock [] clock) rfl rfl rfl rfl rfl rfl
    ⟨g, World.alloc_heap_new _ _, m, by rw [List.getElem?_append_left hlt]; exact h3, by rw [h8]; exact Nat.le_refl _, fun _ => ⟨_, h4⟩⟩
  refine ⟨_, _, _, _, _, run_range_map w t kt et g _ clock ht h5, ?_, r, s, h12⟩
  refine .ptr ⟨0, 0, true, some (w.heap.size, 0)⟩ rfl ?_ (Nat.le_refl _) (fun _ => ⟨_, _, rfl, by simp⟩)
  rw [← hr.len, List.getElem?_append_right (Nat.le_refl _)]; simp
omit [Zone] in
theorem choose_run (n : Nat) (hn : 0 < n) (w : World) : ∃ (j : Nat) (w1 : World), j < n ∧ (w1 = w ∨ w1 = w.drew) ∧ (choose (Question.mapNext n)).run P w = .ok j w1 := by
  by_cases hf : n ≤ 1
  · exact ⟨0, w, by omega, .inl rfl, by simp [choose, Sem.run, Question.forced, hf]⟩
  · exact ⟨_, w.drew, Nat.mod_lt _ (by omega), .inr rfl, by
      simp only [choose, Sem.run, Question.forced, decide_eq_true_eq, hf, if_false, Question.cut]
      rfl⟩
omit [Zone] in
theorem next_run {r gm since stepped clock : Nat} {seen : List Nat} {es : List MapEntry} (ty : TypeId) (hi : w.heap[r]? = some (.mapIter (some gm) since seen.toArray stepped)) (hm : w.heap[gm]? = some (.map es.toArray clock)) (hok : seen = [] ∨ es = [] ∨ ∃ e, e ∈ es ∧ e.born < stepped) :
    ((∀ e, e ∈ es → e.born < since → e.born ∈ seen) ∧ ∃ w1, (w1 = w ∨ w1 = w.drew) ∧ (Instr.next (.pointer (some ⟨r, 0, none⟩)) false ty).run P w = .ok (.tuple #[.bool false]) w1) ∨
    ∃ e, e ∈ es ∧ e.born ∉ seen ∧ ∃ w1, (w1 = w ∨ w1 = w.drew) ∧ (Instr.next (.pointer (some ⟨r, 0, none⟩)) false ty).run P w = .ok (.tuple #[.bool true, e.key, e.val]) (w1.putObj r (.mapIter (some gm) since (seen ++ [e.born]).toArray clock)) := by
  have htest : (!seen.toArray.isEmpty && !es.toArray.isEmpty && es.toArray.all (fun x => decide (x.born ≥ stepped))) = false := by
    rcases hok with h | h | ⟨e, he, hlt⟩
    · subst h; rfl
    · subst h; simp
    · have : es.toArray.all (fun x => decide (x.born ≥ stepped)) = false := by
        rw [Bool.eq_false_iff]
        intro h
        rw [Array.all_eq_true_iff_forall_mem] at h
        have := h e (by simpa using he)
        simp at this
        omega
      rw [this, Bool.and_false]
  simp only [Instr.next, getObj, Sem.run_bind, Sem.run, hi, hm, Result.andThen, htest, Bool.false_eq_true, if_false]
  have hleft : ∀ x, x ∈ (Array.filter (fun e => !seen.toArray.contains e.born) es.toArray) ↔ x ∈ es ∧ x.born ∉ seen := by
    intro x
    simp
  generalize Array.filter (fun e => !seen.toArray.contains e.born) es.toArray = L at hleft ⊢
  have hold : ∀ x, x ∈ L.filter (fun x => decide (x.born < since)) ↔ (x ∈ es ∧ x.born ∉ seen) ∧ x.born < since := by
    intro x; simp [hleft x]
  have hnew : ∀ x, x ∈ L.filter (fun x => decide (x.born ≥ since)) ↔ (x ∈ es ∧ x.born ∉ seen) ∧ since ≤ x.born := by
    intro x; simp [hleft x]
  generalize L.filter (fun x => decide (x.born < since)) = A at hold ⊢
  generalize L.filter (fun x => decide (x.born ≥ since)) = B at hnew ⊢
  generalize hC : (if A.isEmpty = true then #[none] else #[]) ++ (A ++ B).map some = C
  have hCpos : 0 < C.size := by
    rw [← hC]
    by_cases hA : A.isEmpty = true
    · rw [if_pos hA]; simp; omega
    · rw [if_neg hA]
      have : 0 < A.size := by
        rcases Nat.eq_zero_or_pos A.size with h | h
        · exact absurd (by simp [Array.isEmpty, h]) hA
        · exact h
      simp
      omega
  obtain ⟨j, w1, hj, hw1, hrun⟩ := choose_run (P := P) C.size hCpos w
  have hcj : C[j]? = some C[j] := Array.getElem?_eq_getElem hj
  have hi1 : w1.heap[r]? = some (.mapIter (some gm) since seen.toArray stepped) := by
    rcases hw1 with rfl | rfl
    · exact hi
    · exact hi
  simp only [hrun, hcj]
  have hmem : C[j] ∈ C := Array.getElem_mem hj
  cases hc : C[j] with
  | none =>
    left
    rw [hc, ← hC] at hmem
    refine ⟨fun e he hb => ?_, w1, hw1, by simp [hc]⟩
    have hA : A.isEmpty = true := by
      by_cases hA : A.isEmpty = true
      · exact hA
      · rw [if_neg hA] at hmem
        simp at hmem
    refine Classical.byContradiction fun hns => ?_
    have : e ∈ A := (hold e).2 ⟨⟨he, hns⟩, hb⟩
    have h0 : A = #[] := by simpa [Array.isEmpty_iff] using hA
    rw [h0] at this
    simp at this
  | some e =>
    right
    rw [hc, ← hC] at hmem
    have hem : e ∈ A ∨ e ∈ B := by
      by_cases hA : A.isEmpty = true
      · rw [if_pos hA] at hmem
        simpa using hmem
      · rw [if_neg hA] at hmem
        simpa using hmem
    have hee : e ∈ es ∧ e.born ∉ seen := by
      rcases hem with h | h
      · exact ((hold e).1 h).1
      · exact ((hnew e).1 h).1
    refine ⟨e, hee.1, hee.2, w1, hw1, ?_⟩
    simp [hc, setObj, Sem.run, hi1, World.putObj]
theorem next_leaves {ty : TypeId} (hr : Rel σ E w) {x : AV} {v : Value} (hv : Rep w E v x) (h : NextW σ x K) : Leaves P w E (Instr.next v false ty) K := by
  replace h := h.ok
  unfold nextD at h
  split at h
  · rename_i it gen
    split at h
    · rename_i b hb
      split at h
      · rename_i mid mgen since seen stepped hx
        split at h
        · rename_i mb hmb
          split at h
          · rename_i es clock hmx
            obtain ⟨hg, hw, hmg, hok, hover, hstep⟩ := h
            obtain ⟨m, hm, hokb⟩ := hr.blk it b hb
            obtain ⟨k1, k2, k3, k4, k5, k6, g, c, k7, k8, gm, k9, m2, hm2, hg2, hp2⟩ := hokb.isExt hx
            obtain ⟨m3, hm3, hok3⟩ := hr.blk mid mb hmb
            obtain ⟨j1, j2, j3, j4, j5, j6, g3, c3, j7, j8, j9⟩ := hok3.isExt hmx
            rw [hm2] at hm3; cases hm3
            obtain ⟨c4, hp4⟩ := hp2 (by rw [j1, hmg])
            rw [j7] at hp4; cases hp4
            have hve : v = .pointer (some ⟨g, 0, none⟩) := by
              cases hv with
              | pure h => cases h
              | ptr m' h1 hm' hg' hh =>
                rw [hm] at hm'; cases hm'
                obtain ⟨g', c', hp', e⟩ := hh (by rw [k1, hg])
                rw [k7] at hp'; cases hp'
                simpa using e
            subst hve
            have hok' : seen = [] ∨ es.map ME.e = [] ∨ ∃ e, e ∈ es.map ME.e ∧ e.born < stepped := by
              rcases hok with h | h | ⟨e, he, hlt⟩
              · exact .inl h
              · exact .inr (.inl (by rw [h]; rfl))
              · exact .inr (.inr ⟨e.e, List.mem_map.2 ⟨e, he, rfl⟩, hlt⟩)
            have hcalm : ∀ w1, (w1 = w ∨ w1 = w.drew) → Calm w w1 := fun w1 h => by
              rcases h with rfl | rfl
              · exact ⟨fun _ _ => rfl, Nat.le_refl _, rfl, rfl, rfl⟩
              · exact ⟨fun _ _ => rfl, Nat.le_refl _, rfl, rfl, rfl⟩
            have hheap : ∀ w1, (w1 = w ∨ w1 = w.drew) → w1.heap = w.heap := fun w1 h => by
              rcases h with rfl | rfl <;> rfl
            rcases next_run (P := P) ty k9 j9 hok' with ⟨ho, w1, hw1, hrun⟩ | ⟨e', he', hn', w1, hw1, hrun⟩
            · obtain ⟨s, r⟩ := hr.calm (hcalm w1 hw1)
              refine ⟨_, _, w1, E, σ, hrun, .tup _ _ (.cons (.pure (.bool _)) .nil), r, s, hover fun e he hb => ?_⟩
              exact ho e.e (List.mem_map.2 ⟨e, he, rfl⟩) hb
            · obtain ⟨e, he, rfl⟩ := List.mem_map.1 he'
              obtain ⟨s, r⟩ := hr.calm (hcalm w1 hw1)
              have hg1 : g < w1.heap.size := by rw [hheap w1 hw1]; exact k8
              have hne : gm ≠ g := fun q => by
                subst q
                have j9' : w.heap[gm]? = some (.map (es.map ME.e).toArray clock) := j9
                rw [k9] at j9'
                cases j9'
              obtain ⟨s2, r2⟩ := write_ext r hb hm hx hw k7 (w' := w1.putObj g (.mapIter (some gm) since (seen ++ [(ME.e e).born]).toArray clock)) rfl (b' := { b with ext := some (.iter mid mgen since (seen ++ [e.born]) clock) }) rfl rfl k3 hw k5 k6
                ⟨gm, World.putObj_heap_same hg1, _, hm2, hg2, hp2⟩
              exact ⟨_, _, _, E, _, hrun, .tup _ _ (.cons (.pure (.bool _)) (.cons (.pure (.int _ _)) (.cons e.val.rep .nil))), r2, s.trans s2, hstep e he hn'⟩
          · exact h.elim
        · exact h.elim
      · exact h.elim
    · exact h.elim
  · exact h.elim
omit [Zone] in
theorem find_me (s : Nat) : ∀ (es : List ME), (es.map ME.e).find? (fun e => e.born == s) = (es.find? fun e => e.born == s).map ME.e
  | [] => rfl
  | e :: es => by
    rw [List.map_cons, List.find?_cons, List.find?_cons]
    have : ((ME.e e).born == s) = (e.born == s) := rfl
    rw [this]
    cases e.born == s
    · exact find_me s es
    · rfl
theorem entry_leaves (hr : Rel σ E w) {x : AV} {v : Value} (hv : Rep w E v x) (h : EntryW σ x K) : Leaves P w E (Instr.entry v) K := by
  replace h := h.ok
  unfold entryD at h
  split at h
  · rename_i it gen
    split at h
    · rename_i b hb
      split at h
      · rename_i mid mgen since seen stepped hx
        split at h
        · rename_i mb hmb
          split at h
          · rename_i es clock hmx
            obtain ⟨hg, hmg, hcl, st, e, hlast, hfind, hk⟩ := h
            obtain ⟨m, hm, hokb⟩ := hr.blk it b hb
            obtain ⟨k1, k2, k3, k4, k5, k6, g, c, k7, k8, gm, k9, m2, hm2, hg2, hp2⟩ := hokb.isExt hx
            obtain ⟨m3, hm3, hok3⟩ := hr.blk mid mb hmb
            obtain ⟨j1, j2, j3, j4, j5, j6, g3, c3, j7, j8, j9⟩ := hok3.isExt hmx
            rw [hm2] at hm3; cases hm3
            obtain ⟨c4, hp4⟩ := hp2 (by rw [j1, hmg])
            rw [j7] at hp4; cases hp4
            have hve : v = .pointer (some ⟨g, 0, none⟩) := by
              cases hv with
              | pure h => cases h
              | ptr m' h1 hm' hg' hh =>
                rw [hm] at hm'; cases hm'
                obtain ⟨g', c', hp', e⟩ := hh (by rw [k1, hg])
                rw [k7] at hp'; cases hp'
                simpa using e
            subst hve
            subst hcl
            have j9' : w.heap[gm]? = some (.map (es.map ME.e).toArray clock) := j9
            have hback : seen.toArray.back? = some st := by
              rw [List.back?_toArray]; exact hlast
            have hf : ((es.map ME.e).toArray).find? (fun e => e.born == st) = some e.e := by
              rw [List.find?_toArray, find_me, hfind]; rfl
            refine ⟨.tuple #[e.e.key, e.e.val], _, w, E, σ, ?_, .tup _ _ (.cons (.pure (.int _ _)) (.cons e.val.rep .nil)), hr, Step.refl _ _, hk⟩
            simp only [Instr.entry, getObj, Sem.run_bind, Sem.run, k9, j9', Result.andThen, hback, bne_self_eq_false, Bool.false_eq_true, if_false, hf]
            rfl
          · exact h.elim
        · exact h.elim
      · exact h.elim
    · exact h.elim
  · exact h.elim
end
end Go.Proofs.Ytppccaacbpkgiaa.V
