/-
  VL: a function's own memory, handed to who called: slices of slices that are new.
-/
import Derived.Test.YtppccaacbpkgiaaVI
namespace Go.Proofs.Ytppccaacbpkgiaa.V
open Go Go.RowKit
set_option linter.unusedSimpArgs false
set_option linter.unusedVariables false

/-- What may go with a result: what is new by value, references into the function's own memory. -/
inductive FreshS : AV → Prop
  | fresh {x} (h : FreshA x) : FreshS x
  | rsl (id gen off len : Nat) (cap : Option Nat) : FreshS (.rsl id gen off len cap)
  | ptr (id gen idx off : Nat) : FreshS (.ptr id gen idx off)
def FreshT : AV → Prop
  | .tup l => ∀ x, x ∈ l → FreshS x
  | x => FreshS x
def shA (n : Nat) : AV → AV
  | .rsl id gen off len cap => .rsl (n + id) gen off len cap
  | .ptr id gen idx off => .ptr (n + id) gen idx off
  | x => x
def shT (n : Nat) : AV → AV
  | .tup l => .tup (l.map (shA n))
  | x => shA n x
def shX (n : Nat) : Ext → Ext
  | .iter id gen since seen stepped => .iter (n + id) gen since seen stepped
  | x => x
def shB (n : Nat) (b : Blk) : Blk := { b with els := (b.els.map fun r => r.map (shA n)), ext := b.ext.map (shX n) }
def shH (n : Nat) (τ : AH) : AH := τ.map (shB n)
theorem shA_fresh {n : Nat} {x : AV} (h : FreshA x) : shA n x = x := by cases h <;> rfl
theorem shB_len (n : Nat) (b : Blk) : (shB n b).els.length = b.els.length := by simp [shB]
theorem shH_len (n : Nat) (τ : AH) : (shH n τ).length = τ.length := by simp [shH]
theorem shH_get {n : Nat} {τ : AH} {id : Nat} {b : Blk} (h : τ[id]? = some b) : (shH n τ)[id]? = some (shB n b) := by simp [shH, h]
theorem map_flat (n : Nat) : ∀ (l : List (List AV)), (l.map fun r => r.map (shA n)).flatten = l.flatten.map (shA n)
  | [] => rfl
  | x :: r => by simp only [List.map_cons, List.flatten_cons, List.map_append, map_flat n r]
theorem ptr_none [Zone] {w : World} {W : Nat → Prop} {v : Value} {id gen idx off : Nat} (h : RepV w W v (.ptr id gen idx off)) : False := by cases h
theorem rsl_none [Zone] {w : World} {W : Nat → Prop} {v : Value} {id gen off len : Nat} {cap : Option Nat} (h : RepV w W v (.rsl id gen off len cap)) : False := by cases h

/-- What stands in a heap may go with a result. -/
def FreshH (τ : AH) : Prop := ∀ b, b ∈ τ → ∀ y, y ∈ b.els.flatten → FreshS y

section
variable {z' z : Zone} {w : World} {E E1 E2 : Env}
/-- The blocks that are handed on; of others nothing more is told. -/
structure Thin (E1 E2 : Env) : Prop where
  some : ∀ (id : Nat) (m : MI), E1[id]? = some m → ∃ m', E2[id]? = some m' ∧ m.gen ≤ m'.gen ∧ (m.gen = m'.gen → m' = m)
  wr : ∀ g, EW E2 g → EW E1 g
theorem shA_rep (hb : z.base ≤ z'.base) (hE : ∀ g, EW E g → g < z'.base) (ht : Thin E1 E2) {x : AV} (hf : FreshS x) {v : Value} (h : @Rep z' w E1 v x) : @Rep z w (E ++ E2) v (shA E.length x) := by
  have hW : ∀ g, EW (E ++ E2) g → z'.base ≤ g → EW E1 g := by
    rintro g ⟨id, m, c, hm, hw, hp⟩ hg
    rw [List.getElem?_append] at hm
    split at hm
    · have := hE g ⟨id, m, c, hm, hw, hp⟩; omega
    · exact ht.wr g ⟨_, m, c, hm, hw, hp⟩
  cases hf with
  | fresh hy =>
    rw [shA_fresh hy]
    exact @Rep.pure z w (E ++ E2) _ _ ((@fresh_rep z' w E1 v _ hy h).lift hb hW hy)
  | rsl id gen off len cap =>
    cases h with
    | pure h => exact (@rsl_none z' _ _ _ _ _ _ _ _ h).elim
    | rsl m h1 hm hg hh =>
      obtain ⟨m', hm', hg', he⟩ := ht.some id m hm
      refine @Rep.rsl z w (E ++ E2) _ _ _ _ _ _ m' h1 ?_ (Nat.le_trans hg hg') (fun e => ?_)
      · rw [List.getElem?_append_right (by omega)]
        simpa using hm'
      · have e2 : m.gen = m'.gen := by omega
        rw [he e2]
        exact hh (by omega)
  | ptr id gen idx off =>
    cases h with
    | pure h => exact (@ptr_none z' _ _ _ _ _ _ _ h).elim
    | ptr m h1 hm hg hh =>
      obtain ⟨m', hm', hg', he⟩ := ht.some id m hm
      refine @Rep.ptr z w (E ++ E2) _ _ _ _ _ m' h1 ?_ (Nat.le_trans hg hg') (fun e => ?_)
      · rw [List.getElem?_append_right (by omega)]
        simpa using hm'
      · have e2 : m.gen = m'.gen := by omega
        rw [he e2]
        exact hh (by omega)
theorem shL_rep (hb : z.base ≤ z'.base) (hE : ∀ g, EW E g → g < z'.base) (ht : Thin E1 E2) : ∀ {l : List AV}, (∀ x, x ∈ l → FreshS x) → ∀ {vs : List Value}, @RepL z' w E1 vs l → @RepL z w (E ++ E2) vs (l.map (shA E.length))
  | [], hf, vs, h => by cases h; exact @RepL.nil z w (E ++ E2)
  | x :: r, hf, vs, h => by
    cases h with
    | cons a b => exact @RepL.cons z w (E ++ E2) _ _ _ _ (shA_rep hb hE ht (hf x (by simp)) a) (shL_rep hb hE ht (fun y hy => hf y (by simp [hy])) b)
theorem shT_rep (hb : z.base ≤ z'.base) (hE : ∀ g, EW E g → g < z'.base) (ht : Thin E1 E2) {x : AV} (hf : FreshT x) {v : Value} (h : @Rep z' w E1 v x) : @Rep z w (E ++ E2) v (shT E.length x) := by
  cases x with
  | tup l =>
    obtain ⟨vs, rfl, hrep⟩ := @Rep.tup_inv z' w E1 v _ h
    exact @Rep.tup z w (E ++ E2) vs _ (shL_rep hb hE ht hf hrep)
  | sl a b c => exact shA_rep hb hE ht (x := .sl a b c) hf h
  | agg a => exact shA_rep hb hE ht (x := .agg a) hf h
  | int a b => exact shA_rep hb hE ht (x := .int a b) hf h
  | bool a => exact shA_rep hb hE ht (x := .bool a) hf h
  | str a => exact shA_rep hb hE ht (x := .str a) hf h
  | nils => exact shA_rep hb hE ht (x := .nils) hf h
  | nilp => exact shA_rep hb hE ht (x := .nilp) hf h
  | any => exact shA_rep hb hE ht (x := .any) hf h
  | slx a b => exact shA_rep hb hE ht (x := .slx a b) hf h
  | rsl a b c d e => exact shA_rep hb hE ht (x := .rsl a b c d e) hf h
  | ptr a b c d => exact shA_rep hb hE ht (x := .ptr a b c d) hf h
  | vptr a b => exact shA_rep hb hE ht (x := .vptr a b) hf h
  | fn a b => exact shA_rep hb hE ht (x := .fn a b) hf h
  | fnb a b c => exact shA_rep hb hE ht (x := .fnb a b c) hf h
/-- By value, what is FreshS is FreshA. -/
theorem pure_fresh [Zone] {w : World} {W : Nat → Prop} : ∀ {cs : List Value} {l : List AV}, RepVL w W cs l → (∀ x, x ∈ l → FreshS x) → ∀ x, x ∈ l → FreshA x
  | _, _, .nil, hf, x, hx => by cases hx
  | _, _, .cons (x := y) h t, hf, x, hx => by
    rcases List.mem_cons.1 hx with rfl | hx
    · cases hf x (by simp) with
      | fresh h => exact h
      | rsl => exact (rsl_none h).elim
      | ptr => exact (ptr_none h).elim
    · exact pure_fresh t (fun y hy => hf y (by simp [hy])) x hx
theorem map_fresh {n : Nat} : ∀ {l : List AV}, (∀ x, x ∈ l → FreshA x) → l.map (shA n) = l
  | [], _ => rfl
  | x :: r, h => by rw [List.map_cons, shA_fresh (h x (by simp)), map_fresh fun y hy => h y (by simp [hy])]
end

open Classical in
/-- The rows that may be handed on. -/
noncomputable def preB : List (List AV) → List (List AV)
  | [] => []
  | r :: l => if ∀ y, y ∈ r → FreshS y then r :: preB l else []
noncomputable def kB (n : Nat) (b : Blk) : Blk := shB n { b with els := (if b.ext.isSome then [] else preB b.els), full := false }
noncomputable def kH (n : Nat) (τ : AH) : AH := τ.map (kB n)
theorem preB_split : ∀ (l : List (List AV)), ∃ t, l = preB l ++ t
  | [] => ⟨[], rfl⟩
  | r :: l => by
    obtain ⟨t, ht⟩ := preB_split l
    unfold preB
    split
    · exact ⟨t, by rw [List.cons_append, ← ht]⟩
    · exact ⟨r :: l, rfl⟩
theorem preB_mem : ∀ (l : List (List AV)) (r : List AV), r ∈ preB l → ∀ y, y ∈ r → FreshS y
  | [], r, hr => by simp [preB] at hr
  | a :: l, r, hr => by
    unfold preB at hr
    split at hr
    · rename_i h
      rcases List.mem_cons.1 hr with rfl | hr
      · exact h
      · exact preB_mem l r hr
    · cases hr
theorem preB_good (l : List (List AV)) : ∀ y, y ∈ (preB l).flatten → FreshS y := by
  intro y hy
  obtain ⟨r, hr, hy⟩ := List.mem_flatten.1 hy
  exact preB_mem l r hr y hy
theorem preB_le (l : List (List AV)) : (preB l).length ≤ l.length := by
  obtain ⟨t, ht⟩ := preB_split l
  rw [congrArg List.length ht, List.length_append]
  exact Nat.le_add_right _ _
theorem preB_app : ∀ {rows sp : List (List AV)}, (∀ r, r ∈ rows → ∀ y, y ∈ r → FreshS y) → ∃ sp', preB (rows ++ sp) = rows ++ sp' ∧ sp'.length ≤ sp.length
  | [], sp, h => ⟨_, rfl, preB_le sp⟩
  | a :: l, sp, h => by
    obtain ⟨sp', e, e2⟩ := preB_app (rows := l) (sp := sp) fun r hr => h r (by simp [hr])
    refine ⟨sp', ?_, e2⟩
    rw [List.cons_append, preB, if_pos (h a (by simp)), e]
    rfl
theorem kH_get {n : Nat} {τ : AH} {id : Nat} {b : Blk} (h : τ[id]? = some b) : (kH n τ)[id]? = some (kB n b) := by simp [kH, h]
theorem kH_len (n : Nat) (τ : AH) : (kH n τ).length = τ.length := by simp [kH]

/-- What is told of blocks that were handed on: their first rows, if these may be. -/
def Handed (n : Nat) (τ τ' : AH) : Prop := (τ'.length = τ.length ∧ ∀ (id : Nat) (b : Blk) (x : Ext), τ[id]? = some b → b.ext = some x → τ'[id]? = some { sz := b.sz, els := [], gen := b.gen, wr := b.wr, pure := b.pure, ext := some (shX n x) }) ∧ ∀ (id : Nat) (b : Blk) (rows sp : List (List AV)), τ[id]? = some b → b.ext = none → b.els = rows ++ sp → (∀ r, r ∈ rows → ∀ y, y ∈ r → FreshS y) →
  ∃ sp', τ'[id]? = some { sz := b.sz, els := (rows.map fun r => r.map (shA n)) ++ sp', gen := b.gen, wr := b.wr, pure := b.pure } ∧ sp'.length ≤ sp.length

/-- A function that is run by itself, with what comes in told by value: its results stand with who called. -/
theorem CallS.lift {P : Program} {f : Nat} {xs vs : List AV} {σ : AH} {Q : AV → AH → Prop} (hs : LooksL σ xs vs)
    (h : CallS P f vs [] fun x τ => FreshT x ∧ ∀ τ' : AH, Handed σ.length τ τ' → Q (shT σ.length x) (σ ++ τ')) : CallS P f xs σ Q := by
  refine ⟨h.1, ?_⟩
  intro z w E cs hr hrep
  have hrep' := hs.rep ⟨w.heap.size⟩ z hr hrep
  refine (h.2 ⟨w.heap.size⟩ w [] cs (@rel_nil ⟨w.heap.size⟩ w (Nat.le_refl _)) hrep').mono ?_
  rintro e w' ⟨v, E1, x, σ1, rfl, hv, hr1, hs, hf, hQ⟩
  have hlen1 := @Rel.len ⟨w.heap.size⟩ _ _ _ hr1
  have hE : ∀ g, EW E g → g < w.heap.size := by
    rintro g ⟨id, m, c, hm, _, hp⟩; exact hr.place_lt hm hp
  have hE1 : ∀ (id : Nat) (m : MI) (g c : Nat), E1[id]? = some m → m.place = some (g, c) → w.heap.size ≤ g := fun id m g c hm hp => @Rel.fresh ⟨w.heap.size⟩ _ _ _ hr1 id m g c hm hp
  have hthin : Thin E1 E1 := ⟨fun id m hm => ⟨m, hm, Nat.le_refl _, fun _ => rfl⟩, fun g h => h⟩
  have hst : Step E w (E ++ E1) w' := by
    refine ⟨hs.os, hs.tape, hs.output, hs.size, fun g hg _ => hs.block g hg (ew_nil g), ?_, ?_⟩
    · rintro g ⟨id, m, c, hm, hw, hp⟩
      rw [List.getElem?_append] at hm
      split at hm
      · exact .inl ⟨id, m, c, hm, hw, hp⟩
      · exact .inr (hE1 _ m g c hm hp)
    · intro id m hm
      have hlt : id < E.length := (List.getElem?_eq_some_iff.1 hm).1
      exact ⟨m, by rw [List.getElem?_append_left hlt]; exact hm, Nat.le_refl _, fun _ => ⟨rfl, rfl⟩⟩
  have hW : ∀ g, EW (E ++ E1) g → w.heap.size ≤ g → EW E1 g := by
    rintro g ⟨id, m, c, hm, hw, hp⟩ hg
    rw [List.getElem?_append] at hm
    split at hm
    · have := hE g ⟨id, m, c, hm, hw, hp⟩; omega
    · exact ⟨_, m, c, hm, hw, hp⟩
  have hhand : Handed σ.length σ1 (kH σ.length σ1) := by
    refine ⟨⟨kH_len _ _, fun id b x hb hx => by rw [kH_get hb]; simp [kB, shB, hx]⟩, fun id b rows sp hb hx he hg => ?_⟩
    obtain ⟨sp', e, e2⟩ := preB_app (rows := rows) (sp := sp) hg
    refine ⟨sp'.map fun r => r.map (shA σ.length), ?_, by rw [List.length_map]; exact e2⟩
    rw [kH_get hb]
    simp [kB, shB, hx, he, e, List.map_append]
  refine ⟨v, E ++ E1, _, σ ++ kH σ.length σ1, rfl, by rw [← hr.len]; exact shT_rep (z' := ⟨w.heap.size⟩) hr.base hE hthin hf hv, ?_, hst, hQ _ hhand⟩
  refine ⟨by rw [List.length_append, List.length_append, hr.len, kH_len, hlen1], Nat.le_trans hr.base hs.size, ?_, ?_, ?_⟩
  · intro id m g c hm hp
    rw [List.getElem?_append] at hm
    split at hm
    · exact hr.fresh id m g c hm hp
    · exact Nat.le_trans hr.base (hE1 _ m g c hm hp)
  · intro id b hbb
    rw [List.getElem?_append] at hbb
    split at hbb
    · rename_i hlt
      obtain ⟨m, hm, hok⟩ := hr.blk id b hbb
      exact ⟨m, by rw [List.getElem?_append_left (by rw [hr.len]; exact hlt)]; exact hm, hok.step hst (fun g c hp => hs.block g (hr.place_lt hm hp) (ew_nil g))⟩
    · rename_i hlt
      have hlt2 : id - σ.length < σ1.length := by
        have := (List.getElem?_eq_some_iff.1 hbb).1
        rw [kH_len] at this; exact this
      have hb1 : σ1[id - σ.length]? = some σ1[id - σ.length] := List.getElem?_eq_getElem hlt2
      generalize σ1[id - σ.length] = b1 at hb1
      rw [kH_get hb1] at hbb
      cases hbb
      obtain ⟨m, hm, hok⟩ := @Rel.blk ⟨w.heap.size⟩ _ _ _ hr1 _ b1 hb1
      refine ⟨m, by rw [List.getElem?_append_right (by rw [hr.len]; omega), hr.len]; exact hm, ?_⟩
      cases hx : b1.ext with
      | some x =>
        obtain ⟨k1, k2, k3, k4, k5, k6, g, c, k7, k8, k9⟩ := @BlkAny.isExt ⟨w.heap.size⟩ _ _ _ _ _ hok hx
        refine BlkAny.ofExt (x := shX σ.length x) ⟨k1, k2, k3, k4, by simp [kB, shB, hx], k6, g, c, k7, k8, ?_⟩ (by simp [kB, shB, hx])
        cases x with
        | map es clock => exact k9
        | loop l => exact k9
        | iter id' gen since seen stepped =>
          obtain ⟨gm, q0, m', q1, q2, q3⟩ := k9
          exact ⟨gm, q0, m', by rw [List.getElem?_append_right (by rw [hr.len]; omega), hr.len, Nat.add_sub_cancel_left]; exact q1, q2, q3⟩
      | none =>
      refine BlkAny.of ?_ (by simp [kB, shB, hx])
      obtain ⟨k1, k2, k3, k4, k5, k6⟩ := @BlkAny.cells ⟨w.heap.size⟩ _ _ _ _ hok hx
      obtain ⟨t, ht⟩ := preB_split b1.els
      have hfr := preB_good b1.els
      have hkb : (kB σ.length b1).els = (preB b1.els).map fun r => r.map (shA σ.length) := by simp [kB, shB, hx]
      have hfl : (kB σ.length b1).els.flatten = (preB b1.els).flatten.map (shA σ.length) := by rw [hkb]; exact map_flat _ _
      have hll : (kB σ.length b1).els.length = (preB b1.els).length := by rw [hkb, List.length_map]
      have hle : (preB b1.els).length ≤ b1.els.length := by rw [congrArg List.length ht, List.length_append]; exact Nat.le_add_right _ _
      have hsp : b1.els.flatten = (preB b1.els).flatten ++ t.flatten := by rw [← List.flatten_append, ← ht]
      refine ⟨k1, k2, k3, k4, ?_, ?_⟩
      · intro r hr'
        rw [hkb] at hr'
        obtain ⟨r0, hr0, rfl⟩ := List.mem_map.1 hr'
        rw [List.length_map]; exact k5 r0 (by rw [ht]; exact List.mem_append_left _ hr0)
      · split at k6
        · rw [hkb, k6]; rfl
        · obtain ⟨q1, q2, cur, ee, lo, hi, q3, q4, q5, q6, q7⟩ := k6
          refine ⟨⟨by rw [hll]; exact Nat.le_trans hle q1.1, fun h => by cases h⟩, q2, cur, ee, lo, hi, q3, q4, q5, q6, ?_⟩
          rw [hfl, List.length_map]
          have hcut : (cur.toList.take b1.els.flatten.length).take (preB b1.els).flatten.length = cur.toList.take (preB b1.els).flatten.length := by
            rw [List.take_take, Nat.min_eq_left (by rw [hsp, List.length_append]; exact Nat.le_add_right _ _)]
          have hcut2 : b1.els.flatten.take (preB b1.els).flatten.length = (preB b1.els).flatten := by
            rw [hsp, List.take_left]
          cases hpu : b1.pure
          · rw [hpu] at q7
            have q7' : @RepL ⟨w.heap.size⟩ w' E1 _ _ := q7
            have q8 := @RepL.take ⟨w.heap.size⟩ _ _ _ _ q7' (preB b1.els).flatten.length
            rw [hcut, hcut2] at q8
            show if (kB σ.length b1).pure then _ else _
            rw [show (kB σ.length b1).pure = false from hpu]
            have := shL_rep (z := z) (z' := ⟨w.heap.size⟩) hr.base hE hthin hfr q8
            rw [hr.len] at this
            exact this
          · rw [hpu] at q7
            have q7' : @RepVL ⟨w.heap.size⟩ w' (EW E1) _ _ := q7
            have q8 := @RepVL.take ⟨w.heap.size⟩ _ _ _ _ q7' (preB b1.els).flatten.length
            rw [hcut, hcut2] at q8
            show if (kB σ.length b1).pure then _ else _
            rw [show (kB σ.length b1).pure = true from hpu]
            have hfa := @pure_fresh ⟨w.heap.size⟩ _ _ _ _ q8 hfr
            rw [map_fresh hfa]
            exact RepVL.lift (z := z) (z' := ⟨w.heap.size⟩) hr.base hW q8 hfa
  · intro id id' m m' g c c' hne hm hm' hw hp hp'
    rw [List.getElem?_append] at hm hm'
    split at hm <;> split at hm'
    · exact hr.inj id id' m m' g c c' hne hm hm' hw hp hp'
    · have h1 := hr.place_lt hm hp
      have h2 := hE1 _ m' g c' hm' hp'
      omega
    · have h1 := hr.place_lt hm' hp'
      have h2 := hE1 _ m g c hm hp
      omega
    · exact @Rel.inj ⟨w.heap.size⟩ _ _ _ hr1 _ _ m m' g c c' (by omega) hm hm' hw hp hp'

/-! ### Slices of slices of the call's own -/
/-- Slices xs, each of a block of its own, told by D. -/
structure Sep (σ : AH) (xs : List AV) (D : List (List UInt8)) : Prop where
  len : xs.length = D.length
  own : ∀ (j : Nat) (x : AV) (d : List UInt8), xs[j]? = some x → D[j]? = some d → Own σ 1 x (bs d)
  dis : ∀ (j k : Nat) (x y : AV), xs[j]? = some x → xs[k]? = some y → j ≠ k → x.bid = none ∨ x.bid ≠ y.bid
theorem Sep.nil (σ : AH) : Sep σ [] [] := ⟨rfl, fun j x d h => by simp at h, fun j k x y h => by simp at h⟩
theorem Sep.row {σ : AH} {xs : List AV} {D : List (List UInt8)} (h : Sep σ xs D) {j : Nat} {x : AV} (hx : xs[j]? = some x) : ∃ d, D[j]? = some d ∧ Own σ 1 x (bs d) := by
  have hj : j < D.length := by rw [← h.len]; exact (List.getElem?_eq_some_iff.1 hx).1
  exact ⟨_, List.getElem?_eq_getElem hj, h.own j x _ hx (List.getElem?_eq_getElem hj)⟩
theorem Sep.mem {σ : AH} {xs : List AV} {D : List (List UInt8)} (h : Sep σ xs D) {x : AV} (hx : x ∈ xs) : ∃ d, Own σ 1 x (bs d) := by
  obtain ⟨j, hj⟩ := List.mem_iff_getElem?.1 hx
  obtain ⟨d, _, h2⟩ := h.row hj
  exact ⟨d, h2⟩
theorem Sep.keep {σ σ' : AH} {o : Option Nat} {xs : List AV} {D : List (List UInt8)} (h : Sep σ xs D) (hg : Gr σ σ' o) (hd : ∀ x, x ∈ xs → x.bid = none ∨ o ≠ x.bid) : Sep σ' xs D :=
  ⟨h.len, fun j x d h1 h2 => Own.keep hg (h.own j x d h1 h2) (hd x (List.mem_of_getElem? h1)), h.dis⟩
theorem Sep.keepN {σ σ' : AH} {xs : List AV} {D : List (List UInt8)} (hg : Gr σ σ' none) (h : Sep σ xs D) : Sep σ' xs D :=
  ⟨h.len, fun j x d h1 h2 => (h.own j x d h1 h2).keepN hg, h.dis⟩
theorem Sep.snoc {σ : AH} {xs : List AV} {D : List (List UInt8)} {x : AV} {d : List UInt8} (h : Sep σ xs D) (hx : Own σ 1 x (bs d)) (hn : ∀ y, y ∈ xs → y.bid = none ∨ y.bid ≠ x.bid) : Sep σ (xs ++ [x]) (D ++ [d]) := by
  have sp : ∀ {j : Nat} {y : AV}, (xs ++ [x])[j]? = some y → (j < xs.length ∧ xs[j]? = some y) ∨ (j = xs.length ∧ y = x) := by
    intro j y hy
    rw [List.getElem?_append] at hy
    split at hy
    · rename_i hl; exact .inl ⟨hl, hy⟩
    · rename_i hl
      right
      have : j - xs.length = 0 := by
        cases q : j - xs.length with
        | zero => rfl
        | succ n => rw [q] at hy; simp at hy
      rw [this] at hy
      simp at hy
      exact ⟨by omega, hy.symm⟩
  refine ⟨by rw [List.length_append, List.length_append, h.len]; rfl, ?_, ?_⟩
  · intro j y e h1 h2
    rcases sp h1 with ⟨hl, h1⟩ | ⟨hl, rfl⟩
    · rw [List.getElem?_append_left (by rw [← h.len]; exact hl)] at h2
      exact h.own j y e h1 h2
    · rw [List.getElem?_append_right (by rw [← h.len]; omega), show j - D.length = 0 from by rw [← h.len]; omega] at h2
      simp at h2
      rw [← h2]; exact hx
  · intro j k y y' h1 h2 hne
    rcases sp h1 with ⟨hl, h3⟩ | ⟨hl, h3⟩ <;> rcases sp h2 with ⟨hl', h4⟩ | ⟨hl', h4⟩
    · exact h.dis j k y y' h3 h4 hne
    · rw [h4]; exact hn y (List.mem_of_getElem? h3)
    · subst h3
      rcases hn y' (List.mem_of_getElem? h4) with q | q
      · cases hx' : y.bid with
        | none => exact .inl rfl
        | some a => exact .inr (by rw [q]; simp)
      · exact .inr fun e => q e.symm
    · omega
/-- a: a slice, in a block of its own, of rows that may hold slices of one's own. -/
def NestR (σ : AH) (sz : Nat) (a : AV) (rows : List (List AV)) : Prop :=
  (a = .nils ∧ rows = []) ∨ ∃ id gen p, a = .rsl id gen 0 rows.length none ∧ σ[id]? = some { sz := sz, els := rows, gen := gen, wr := true, pure := p } ∧ ∀ r, r ∈ rows → ∀ x, x ∈ r → x.bid ≠ some id
theorem NestR.nil (σ : AH) (sz : Nat) : NestR σ sz .nils [] := .inl ⟨rfl, rfl⟩
theorem NestR.lt {σ : AH} {sz : Nat} {a : AV} {rows : List (List AV)} (h : NestR σ sz a rows) {id : Nat} (hi : a.bid = some id) : id < σ.length := by
  rcases h with ⟨rfl, _⟩ | ⟨i, g, p, rfl, hb, _⟩
  · cases hi
  · cases hi; exact (List.getElem?_eq_some_iff.1 hb).1
theorem NestR.keep {σ σ' : AH} {sz : Nat} {o : Option Nat} {a : AV} {rows : List (List AV)} (hg : Gr σ σ' o) (h : NestR σ sz a rows) (hd : a.bid = none ∨ o ≠ a.bid) : NestR σ' sz a rows := by
  rcases h with h | ⟨i, g, p, rfl, hb, hn⟩
  · exact .inl h
  · refine .inr ⟨i, g, p, rfl, hg.2 i _ hb ?_, hn⟩
    rcases hd with q | q
    · cases q
    · exact fun e => q e
theorem NestR.keepN {σ σ' : AH} {sz : Nat} {a : AV} {rows : List (List AV)} (hg : Gr σ σ' none) (h : NestR σ sz a rows) : NestR σ' sz a rows := h.keep hg (by cases a.bid <;> simp)
theorem NestR.append {σ : AH} {sz bytes : Nat} {a : AV} {rows : List (List AV)} {row : List AV} {K : AV → AH → Prop} (h : NestR σ sz a rows) (hb : (rows.length + 1) * bytes ≤ 140737488355328) (hx : ∀ x, x ∈ row → (∀ id, x.bid = some id → id < σ.length) ∧ (x.bid = none ∨ x.bid ≠ a.bid))
    (hk : ∀ a' σ', NestR σ' sz a' (rows ++ [row]) → Gr σ σ' a.bid → (a'.bid = a.bid ∨ a'.bid = some σ.length) → K a' σ') : AppIW σ sz bytes a [row] K := by
  rcases h with ⟨rfl, rfl⟩ | ⟨id, gen, p, rfl, hbk, hn⟩
  · refine appI_nil (by simp) (by simpa using hb) (hk _ _ ?_ ((Gr.append _ _).anyO _) (.inr rfl))
    refine .inr ⟨σ.length, 0, false, rfl, by simp [newB], fun r hr y hy => ?_⟩
    simp only [List.nil_append, List.mem_singleton] at hr
    subst hr
    intro e
    have := (hx y hy).1 _ e
    omega
  · have hl : rows.take rows.length = rows := List.take_of_length_le (Nat.le_refl _)
    refine appI_rsl hbk rfl rfl rfl (Nat.le_refl _) (by simpa using hb) ?_
    dsimp only
    rw [hl]
    refine hk _ _ (.inr ⟨id, gen + 1, false, by simp, ?_, fun r hr y hy => ?_⟩) (Gr.set _ id _) (.inl rfl)
    · rw [get_set hbk]
    · rcases List.mem_append.1 hr with q | q
      · exact hn r q y hy
      · simp only [List.mem_singleton] at q
        subst q
        rcases (hx y hy).2 with q | q
        · rw [q]; simp
        · exact q
theorem NestR.looks {σ : AH} {sz : Nat} {a : AV} {rows vrows : List (List AV)} (h : NestR σ sz a rows) (hl : vrows.length = rows.length) (hr : ∀ r, r ∈ vrows → r.length = sz) (hv : LooksVL σ rows.flatten vrows.flatten) : Looks σ a (.sl sz vrows false) := by
  rcases h with ⟨rfl, rfl⟩ | ⟨id, gen, p, rfl, hb, _⟩
  · have : vrows = [] := List.length_eq_zero_iff.1 hl
    subst this
    exact .mk (u := .nils) rfl (.nil _ _)
  · refine Looks.nest hb rfl (by simp) hr hl ?_
    have e : (rows.drop 0).take rows.length = rows := by
      rw [List.drop_zero]; exact List.take_of_length_le (Nat.le_refl _)
    dsimp only
    rw [e]
    exact hv
theorem NestR.lenW {σ : AH} {sz : Nat} {a : AV} {rows : List (List AV)} (h : NestR σ sz a rows) {K : Nat → Prop} (hk : K rows.length) : LenW σ a K := by
  refine ⟨?_⟩
  rcases h with ⟨rfl, rfl⟩ | ⟨i, g, p, rfl, h, _⟩
  · exact hk
  · exact blkAt_intro h rfl hk
theorem NestR.rowsW {σ : AH} {sz : Nat} {a : AV} {rows : List (List AV)} (h : NestR σ sz a rows) {K : Bool → List (List AV) → Prop} (hk : ∀ p, K p rows) : RowsW σ sz a K := by
  refine ⟨?_⟩
  rcases h with ⟨rfl, rfl⟩ | ⟨i, g, p, rfl, h, _⟩
  · exact hk _
  · exact blkAt_intro h rfl ⟨rfl, by simp, by simpa using hk p⟩
theorem NestR.ia {σ : AH} {sz : Nat} {a : AV} {rows : List (List AV)} {n : Int} {K : AV → Prop} (h : NestR σ sz a rows) (h0 : Side (0 ≤ n)) (h1 : Side (n < rows.length))
    (hk : ∀ id gen p, a = .rsl id gen 0 rows.length none → σ[id]? = some { sz := sz, els := rows, gen := gen, wr := true, pure := p } → K (.ptr id gen (0 + n.toNat) 0)) : IaW σ sz a n K := by
  rcases h with ⟨rfl, rfl⟩ | ⟨id, gen, p, rfl, hb, _⟩
  · have h2 : 0 ≤ n := h0
    have h3 : n < ((([] : List (List AV)).length : Nat) : Int) := h1
    simp at h3; omega
  · exact ⟨blkAt_intro hb rfl ⟨rfl, h0, h1, hk id gen p rfl hb⟩⟩
/-- a: a slice of the slices xs. -/
abbrev NestS (σ : AH) (a : AV) (xs : List AV) : Prop := NestR σ 1 a (xs.map fun x => [x])
theorem NestS.append {σ : AH} {bytes : Nat} {a x : AV} {xs : List AV} {K : AV → AH → Prop} (h : NestS σ a xs) (hb : (xs.length + 1) * bytes ≤ 140737488355328) (hx : ∀ id, x.bid = some id → id < σ.length) (hxa : x.bid = none ∨ x.bid ≠ a.bid)
    (hk : ∀ a' σ', NestS σ' a' (xs ++ [x]) → Gr σ σ' a.bid → (a'.bid = a.bid ∨ a'.bid = some σ.length) → K a' σ') : AppIW σ 1 bytes a [[x]] K := by
  refine NestR.append h (by simpa using hb) (fun y hy => ?_) fun a' σ' h1 h2 h3 => hk a' σ' (by simpa [NestS] using h1) h2 h3
  simp only [List.mem_singleton] at hy
  subst hy
  exact ⟨hx, hxa⟩
theorem looks_rows {σ : AH} : ∀ {xs : List AV} {D : List (List UInt8)}, xs.length = D.length → (∀ (j : Nat) (x : AV) (d : List UInt8), xs[j]? = some x → D[j]? = some d → Own σ 1 x (bs d)) → LooksVL σ (xs.map fun x => [x]).flatten (D.map fun d => [AV.sl 1 (bs d) false]).flatten
  | [], [], _, _ => .nil
  | [], d :: D, h, _ => by cases h
  | x :: xs, [], h, _ => by cases h
  | x :: xs, d :: D, h, ho => by
    simp only [List.map_cons, List.flatten_cons, List.singleton_append]
    refine .cons (.sl (.ownbs (ho 0 x d rfl rfl))) (looks_rows (by simpa using h) fun j y e h1 h2 => ho (j + 1) y e (by simpa using h1) (by simpa using h2))
theorem NestS.looks {σ : AH} {a : AV} {xs : List AV} {D : List (List UInt8)} (h : NestS σ a xs) (hs : Sep σ xs D) : Looks σ a (.sl 1 (D.map fun d => [AV.sl 1 (bs d) false]) false) :=
  NestR.looks h (by simp [hs.len]) (by simp) (looks_rows hs.len hs.own)

/-! ### Handed on -/
theorem map_map_fresh {n : Nat} {rows : List (List AV)} (h : ∀ r, r ∈ rows → ∀ y, y ∈ r → FreshA y) : (rows.map fun r => r.map (shA n)) = rows := by
  induction rows with
  | nil => rfl
  | cons r l ih => rw [List.map_cons, ih fun r hr => h r (by simp [hr]), map_fresh (h r (by simp))]
theorem shA_bid (n : Nat) (x : AV) : (shA n x).bid = x.bid.map (n + ·) := by cases x <;> rfl
theorem shA_ne {n : Nat} {x y : AV} (h : x.bid = none ∨ x.bid ≠ y.bid) : (shA n x).bid = none ∨ (shA n x).bid ≠ (shA n y).bid := by
  rw [shA_bid, shA_bid]
  rcases h with h | h
  · left; rw [h]; rfl
  · right
    intro e
    apply h
    cases hx : x.bid <;> cases hy : y.bid <;> rw [hx, hy] at e <;> simp at e
    rw [e]
theorem shA_new (n : Nat) (x : AV) : ∀ id, (shA n x).bid = some id → n ≤ id := by
  intro id h
  rw [shA_bid] at h
  cases hx : x.bid with
  | none => rw [hx] at h; cases h
  | some a => rw [hx] at h; simp at h; omega
theorem Own.fs {σ : AH} {sz : Nat} {x : AV} {rows : List (List AV)} (h : Own σ sz x rows) : FreshS x := by
  rcases h with ⟨rfl, _⟩ | ⟨id, gen, sp, rfl, _⟩
  · exact .fresh .nils
  · exact .rsl _ _ _ _ _
theorem NestR.fs {σ : AH} {sz : Nat} {a : AV} {rows : List (List AV)} (h : NestR σ sz a rows) : FreshS a := by
  rcases h with ⟨rfl, _⟩ | ⟨id, gen, sp, rfl, _⟩
  · exact .fresh .nils
  · exact .rsl _ _ _ _ _
theorem Own.handed {σ τ τ' : AH} (hh : Handed σ.length τ τ') {sz : Nat} {x : AV} {rows : List (List AV)} (h : Own τ sz x rows) (hr : ∀ r, r ∈ rows → ∀ y, y ∈ r → FreshA y) : Own (σ ++ τ') sz (shA σ.length x) rows := by
  rcases h with ⟨rfl, h⟩ | ⟨id, gen, sp, rfl, hb⟩
  · exact .inl ⟨rfl, h⟩
  · obtain ⟨sp', h1, _⟩ := hh.2 id _ rows sp hb rfl rfl fun r hr' y hy => .fresh (hr r hr' y hy)
    refine .inr ⟨σ.length + id, gen, sp', rfl, ?_⟩
    rw [List.getElem?_append_right (by omega), show σ.length + id - σ.length = id from by omega, h1, map_map_fresh hr]
theorem fresh_bs_rows (s : List UInt8) : ∀ r, r ∈ bs s → ∀ y, y ∈ r → FreshA y := by
  intro r hr y hy
  simp only [bs, List.mem_map] at hr
  obtain ⟨b, _, rfl⟩ := hr
  simp only [List.mem_singleton] at hy
  subst hy
  exact .int _ _
theorem fresh_is_rows (l : List Int) : ∀ r, r ∈ V.is l → ∀ y, y ∈ r → FreshA y := by
  intro r hr y hy
  simp only [V.is, List.mem_map] at hr
  obtain ⟨b, _, rfl⟩ := hr
  simp only [List.mem_singleton] at hy
  subst hy
  exact .int _ _
theorem Sep.handed {σ τ τ' : AH} (hh : Handed σ.length τ τ') {xs : List AV} {D : List (List UInt8)} (h : Sep τ xs D) : Sep (σ ++ τ') (xs.map (shA σ.length)) D := by
  refine ⟨by rw [List.length_map]; exact h.len, ?_, ?_⟩
  · intro j x d h1 h2
    rw [List.getElem?_map] at h1
    obtain ⟨x0, h3, rfl⟩ := Option.map_eq_some_iff.1 h1
    exact (h.own j x0 d h3 h2).handed hh (fresh_bs_rows d)
  · intro j k x y h1 h2 hne
    rw [List.getElem?_map] at h1 h2
    obtain ⟨x0, h3, rfl⟩ := Option.map_eq_some_iff.1 h1
    obtain ⟨y0, h4, rfl⟩ := Option.map_eq_some_iff.1 h2
    exact shA_ne (h.dis j k x0 y0 h3 h4 hne)
theorem NestR.handed {σ τ τ' : AH} (hh : Handed σ.length τ τ') {sz : Nat} {a : AV} {rows : List (List AV)} (h : NestR τ sz a rows) (hx : ∀ r, r ∈ rows → ∀ x, x ∈ r → FreshS x) : NestR (σ ++ τ') sz (shA σ.length a) (rows.map fun r => r.map (shA σ.length)) := by
  rcases h with ⟨rfl, rfl⟩ | ⟨id, gen, p, rfl, hb, hn⟩
  · exact .inl ⟨rfl, rfl⟩
  · obtain ⟨sp', h1, h2⟩ := hh.2 id _ rows [] hb rfl (by simp) hx
    have hs : sp' = [] := List.length_eq_zero_iff.1 (by simpa using h2)
    subst hs
    refine .inr ⟨σ.length + id, gen, p, by simp [shA], ?_, ?_⟩
    · rw [List.getElem?_append_right (by omega), show σ.length + id - σ.length = id from by omega, h1, List.append_nil]
    · intro r hr y hy
      obtain ⟨r0, hr0, rfl⟩ := List.mem_map.1 hr
      obtain ⟨x, hx', rfl⟩ := List.mem_map.1 hy
      rw [shA_bid]
      intro e
      cases hxb : x.bid with
      | none => rw [hxb] at e; cases e
      | some c =>
        rw [hxb] at e
        simp at e
        exact hn r0 hr0 x hx' (by rw [hxb, e])
theorem NestS.handed {σ τ τ' : AH} (hh : Handed σ.length τ τ') {a : AV} {xs : List AV} (h : NestS τ a xs) (hx : ∀ x, x ∈ xs → FreshS x) : NestS (σ ++ τ') (shA σ.length a) (xs.map (shA σ.length)) := by
  have := NestR.handed hh h fun r hr x hx' => by
    obtain ⟨y, hy, rfl⟩ := List.mem_map.1 hr
    simp only [List.mem_singleton] at hx'
    subst hx'
    exact hx _ hy
  simpa [NestS, Function.comp_def] using this
/-- Each slice lies apart from x. -/
def Off (x : AV) (xs : List AV) : Prop := ∀ y, y ∈ xs → y.bid = none ∨ y.bid ≠ x.bid
theorem Off.snoc {x z : AV} {xs : List AV} (h : Off x xs) (hz : z.bid = none ∨ z.bid ≠ x.bid) : Off x (xs ++ [z]) := by
  intro y hy
  rcases List.mem_append.1 hy with q | q
  · exact h y q
  · simp only [List.mem_singleton] at q
    rw [q]; exact hz
theorem Off.same {x x' : AV} {xs : List AV} (h : Off x xs) (e : x'.bid = x.bid) : Off x' xs := fun y hy => by rw [e]; exact h y hy
theorem Off.new {σ : AH} {x : AV} {xs : List AV} {D : List (List UInt8)} (h : Sep σ xs D) {n : Nat} (e : x.bid = some n) (hn : σ.length ≤ n) : Off x xs := fun y hy => by
  obtain ⟨d, ho⟩ := h.mem hy
  cases hb : y.bid with
  | none => exact .inl rfl
  | some a =>
    right
    rw [e]
    intro q
    cases q
    have := ho.lt hb
    omega
theorem Off.keepd {x : AV} {xs : List AV} (h : Off x xs) : ∀ y, y ∈ xs → y.bid = none ∨ x.bid ≠ y.bid := fun y hy => by
  rcases h y hy with q | q
  · exact .inl q
  · exact .inr fun e => q e.symm
theorem Sep.lt {σ : AH} {xs : List AV} {D : List (List UInt8)} (h : Sep σ xs D) {y : AV} (hy : y ∈ xs) {id : Nat} (hi : y.bid = some id) : id < σ.length := by
  obtain ⟨d, ho⟩ := h.mem hy
  exact ho.lt hi
theorem Sep.fs {σ : AH} {xs : List AV} {D : List (List UInt8)} (h : Sep σ xs D) : ∀ x, x ∈ xs → FreshS x := fun x hx => by
  obtain ⟨d, ho⟩ := h.mem hx
  exact ho.fs
theorem Off.sh {x : AV} {xs : List AV} (h : Off x xs) (n : Nat) : Off (shA n x) (xs.map (shA n)) := fun y hy => by
  obtain ⟨z, hz, rfl⟩ := List.mem_map.1 hy
  exact shA_ne (h z hz)
theorem Sep.apart {σ : AH} {xs : List AV} {D : List (List UInt8)} (h : Sep σ xs D) {y : AV} (hy : ∀ id, y.bid = some id → σ.length ≤ id) : ∀ w, w ∈ xs → w.bid = none ∨ w.bid ≠ y.bid := fun w hw => by
  cases hb : w.bid with
  | none => exact .inl rfl
  | some a =>
    right
    intro e
    have p1 := hy a e.symm
    have p2 := h.lt hw hb
    omega
theorem NestR.apart {σ : AH} {sz : Nat} {a : AV} {rows : List (List AV)} (h : NestR σ sz a rows) {y : AV} (hy : ∀ id, y.bid = some id → σ.length ≤ id) : y.bid = none ∨ y.bid ≠ a.bid := by
  cases hb : y.bid with
  | none => exact .inl rfl
  | some c =>
    right
    intro e
    have p1 := hy c hb
    have p2 := h.lt e.symm
    omega
theorem nest_nth {xs : List AV} {i : Nat} {x : AV} {K : List AV → Prop} (h : xs[i]? = some x) (hk : K [x]) : nthR (xs.map fun x => [x]) (0 + (i : Int).toNat) K :=
  nthR_intro (x := [x]) (by simp [h]) hk
theorem Gr.handed (σ τ' : AH) : Gr σ (σ ++ τ') none := Gr.append σ τ'
end Go.Proofs.Ytppccaacbpkgiaa.V
