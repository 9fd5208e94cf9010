/-
  VG: contracts of functions that only read what they are given and hand back new memory; how they are proved, how they are used.
-/
import Derived.Test.YtppccaacbpkgiaaVF
namespace Go.Proofs.Ytppccaacbpkgiaa.V
open Go Go.RowKit
set_option linter.unusedSimpArgs false
set_option linter.unusedVariables false

/-- What holds no memory that came in. -/
inductive FreshA : AV → Prop
  | int (k : IntKind) (n : Int) : FreshA (.int k n)
  | bool (b : Bool) : FreshA (.bool b)
  | str (s : List UInt8) : FreshA (.str s)
  | nils : FreshA .nils
  | nilp : FreshA .nilp
  | any : FreshA .any
  | sl (sz : Nat) (l : List (List AV)) (h : ∀ x, x ∈ l.flatten → FreshA x) : FreshA (.sl sz l true)

def FreshE : AV → Prop
  | .agg l => ∀ x, x ∈ l → FreshA x
  | x => FreshA x

def FreshR : AV → Prop
  | .tup l => ∀ x, x ∈ l → FreshE x
  | x => FreshE x

/-- A result, as it stands with who called: slices that are new are blocks of its own. -/
def impC (n : Nat) : AV → AV × AH
  | .sl sz l true => (.rsl n 0 0 l.length none, [{ sz := sz, els := l, gen := 0, wr := true, pure := true }])
  | x => (x, [])
def impL (n : Nat) : List AV → List AV × AH
  | [] => ([], [])
  | x :: r => ((impC n x).1 :: (impL (n + (impC n x).2.length) r).1, (impC n x).2 ++ (impL (n + (impC n x).2.length) r).2)
def imp (n : Nat) : AV → AV × AH
  | .tup l => (.tup (impL n l).1, (impL n l).2)
  | x => impC n x

/-- A contract: by values alone; what it hands back is new. -/
def AOK (P : Program) (f : Nat) (args : List AV) (post : AV → Prop) : Prop :=
  CallS P f args [] fun x σ' => ∃ y, post y ∧ FreshR y ∧ x = (imp 0 y).1 ∧ σ' = (imp 0 y).2

theorem AOK.mono {P : Program} {f : Nat} {args : List AV} {post post' : AV → Prop} (h : AOK P f args post) (hp : ∀ y, post y → post' y) : AOK P f args post' :=
  ⟨h.1, fun z w E cs hr hrep => (h.2 z w E cs hr hrep).mono fun e w' ⟨v, E', x, σ', h1, h2, h3, h4, y, h5, h6⟩ => ⟨v, E', x, σ', h1, h2, h3, h4, y, hp y h5, h6⟩⟩

theorem AOK.mono' {P : Program} {f : Nat} {args : List AV} {post post' : AV → Prop} (h : AOK P f args post) (hp : ∀ y, FreshR y → post y → post' y) : AOK P f args post' :=
  ⟨h.1, fun z w E cs hr hrep => (h.2 z w E cs hr hrep).mono fun e w' ⟨v, E', x, σ', h1, h2, h3, h4, y, h5, h6⟩ => ⟨v, E', x, σ', h1, h2, h3, h4, y, hp y h6.1 h5, h6⟩⟩

theorem CallS.mono {P : Program} {f : Nat} {args : List AV} {σ : AH} {Q Q' : AV → AH → Prop} (h : CallS P f args σ Q) (hq : ∀ x σ', Q x σ' → Q' x σ') : CallS P f args σ Q' :=
  ⟨h.1, fun z w E cs hr hrep => (h.2 z w E cs hr hrep).mono fun e w' ⟨v, E', x, σ', h1, h2, h3, h4, h5⟩ => ⟨v, E', x, σ', h1, h2, h3, h4, hq x σ' h5⟩⟩

/-! ### Used by a caller -/
section
variable {z z' : Zone} {w : World} {W W' : Nat → Prop}

mutual
theorem RepV.lift (hb : z.base ≤ z'.base) (hW : ∀ g, W' g → z'.base ≤ g → W g) : ∀ {v : Value} {x : AV}, @RepV z' w W v x → FreshA x → @RepV z w W' v x
  | _, _, .any v h1, _ => @RepV.any z w W' v h1
  | _, _, .int a n, _ => @RepV.int z w W' a n
  | _, _, .bool b, _ => @RepV.bool z w W' b
  | _, _, .str b s h, _ => @RepV.str z w W' b s h
  | _, _, .nils, _ => @RepV.nils z w W'
  | _, _, .slnil sz fr, _ => @RepV.slnil z w W' sz fr
  | _, _, .sl a cap sz l fr cs hB hlen hcap hr hWa hc hone h, hf => by
    cases hf with
    | sl _ _ hf =>
      exact @RepV.sl z w W' a cap sz l true cs (fun q hne => Nat.le_trans hb (hB q hne)) hlen hcap hr (fun hne q => hWa hne (hW _ q (hB rfl hne))) hc hone (RepVL.lift hb hW h hf)
  | _, _, .slxnil sz, _ => @RepV.slxnil z w W' sz
  | _, _, .slx a sz l cs hcap hr hWa hc hone h, hf => by cases hf
  | _, _, .agg cs l h1 h, hf => by cases hf
  | _, _, .nilp, _ => @RepV.nilp z w W'
theorem RepVL.lift (hb : z.base ≤ z'.base) (hW : ∀ g, W' g → z'.base ≤ g → W g) : ∀ {cs : List Value} {l : List AV}, @RepVL z' w W cs l → (∀ x, x ∈ l → FreshA x) → @RepVL z w W' cs l
  | _, _, .nil, _ => @RepVL.nil z w W'
  | _, _, .cons h t, hf => @RepVL.cons z w W' _ _ _ _ (RepV.lift hb hW h (hf _ (by simp))) (RepVL.lift hb hW t (fun x hx => hf x (by simp [hx])))
end
end

theorem fresh_rep [Zone] {w : World} {E : Env} {v : Value} {y : AV} (hy : FreshA y) (h : Rep w E v y) : RepV w (EW E) v y := by
  cases h with
  | pure h => exact h
  | rsl => cases hy
  | ptr => cases hy
  | vptr => cases hy
  | agg => cases hy
  | fn => cases hy
  | fnb => cases hy
  | tup => cases hy
theorem fresh_repL [Zone] {w : World} {E : Env} : ∀ {cs : List Value} {l : List AV}, RepL w E cs l → (∀ x, x ∈ l → FreshA x) → RepVL w (EW E) cs l
  | _, _, .nil, _ => .nil
  | _, _, .cons h t, hf => .cons (fresh_rep (hf _ (by simp)) h) (fresh_repL t (fun x hx => hf x (by simp [hx])))

theorem impL_eq (n : Nat) : ∀ (l : List AV), (impL n l).2.length ≤ l.length
  | [] => by simp [impL]
  | x :: r => by
    simp only [impL, List.length_append, List.length_cons]
    have h1 : (impC n x).2.length ≤ 1 := by
      unfold impC; split <;> simp
    have := impL_eq (n + (impC n x).2.length) r
    omega

theorem impC_blocks (n m : Nat) (x : AV) : (impC n x).2 = (impC m x).2 := by
  unfold impC; split <;> rfl
theorem impL_blocks (n m : Nat) : ∀ (l : List AV), (impL n l).2 = (impL m l).2
  | [] => rfl
  | x :: r => by
    simp only [impL]
    rw [impC_blocks n m x, impL_blocks (n + (impC m x).2.length) (m + (impC m x).2.length) r]
theorem imp_blocks (n m : Nat) (x : AV) : (imp n x).2 = (imp m x).2 := by
  cases x <;> simp only [imp] <;> first | exact impL_blocks n m _ | exact impC_blocks n m _

/-- The blocks of results are pure and fresh. -/
theorem impC_fresh {n : Nat} {x : AV} (h : FreshE x) : ∀ b, b ∈ (impC n x).2 → b.pure = true ∧ ∀ y, y ∈ b.els.flatten → FreshA y := by
  intro b hb
  unfold impC at hb
  split at hb
  · simp only [List.mem_singleton] at hb
    subst hb
    refine ⟨rfl, ?_⟩
    have h' : FreshA _ := h
    cases h' with | sl _ _ h => exact h
  · simp at hb
theorem impL_fresh : ∀ {n : Nat} {l : List AV}, (∀ x, x ∈ l → FreshE x) → ∀ b, b ∈ (impL n l).2 → b.pure = true ∧ ∀ y, y ∈ b.els.flatten → FreshA y
  | n, [], h, b, hb => by simp [impL] at hb
  | n, x :: r, h, b, hb => by
    simp only [impL, List.mem_append] at hb
    rcases hb with hb | hb
    · exact impC_fresh (h x (by simp)) b hb
    · exact impL_fresh (fun y hy => h y (by simp [hy])) b hb
theorem imp_fresh {n : Nat} {x : AV} (h : FreshR x) : ∀ b, b ∈ (imp n x).2 → b.pure = true ∧ ∀ y, y ∈ b.els.flatten → FreshA y := by
  cases x <;> first | exact impL_fresh h | exact impC_fresh h

section
variable {z' z : Zone} {w : World} {E E1 : Env}

/-- One result's value. -/
theorem impC_rep (hb : z.base ≤ z'.base) (hE : ∀ g, EW E g → g < z'.base) {k : Nat} {x : AV} (hf : FreshE x) {v : Value} (h : @Rep z' w E1 v (impC k x).1) : @Rep z w (E ++ E1) v (impC (E.length + k) x).1 := by
  have hW : ∀ g, EW (E ++ E1) g → z'.base ≤ g → EW E1 g := by
    rintro g ⟨id, m, c, hm, hw, hp⟩ hg
    rw [List.getElem?_append] at hm
    split at hm
    · have := hE g ⟨id, m, c, hm, hw, hp⟩; omega
    · exact ⟨_, m, c, hm, hw, hp⟩
  have flat : ∀ {y : AV}, FreshA y → @Rep z' w E1 v y → @Rep z w (E ++ E1) v y := fun hy h => @Rep.pure z w (E ++ E1) _ _ ((@fresh_rep z' w E1 v _ hy h).lift hb hW hy)
  cases x with
  | sl sz l fr =>
    have hf' : FreshA (.sl sz l fr) := hf
    cases hf'
    simp only [impC] at h ⊢
    cases h with
    | pure h => cases h
    | rsl m h1 hm hg hh =>
      refine @Rep.rsl z w (E ++ E1) _ _ _ _ _ _ m h1 ?_ hg hh
      rw [List.getElem?_append_right (by omega)]
      simpa using hm
  | agg l =>
    simp only [impC] at h ⊢
    obtain ⟨cs, rfl, h1, hrep⟩ := @Rep.agg_inv z' w E1 v l h
    have hf' : ∀ x, x ∈ l → FreshA x := hf
    exact @Rep.pure z w (E ++ E1) _ _ (@RepV.agg z w _ cs l h1 (RepVL.lift (z' := z') (W := EW E1) hb hW (@fresh_repL z' w E1 _ _ hrep hf') hf'))
  | int a b => exact flat hf h
  | bool b => exact flat hf h
  | str s => exact flat hf h
  | nils => exact flat hf h
  | nilp => exact flat hf h
  | any => exact flat hf h
  | slx a b => exact (by cases (hf : FreshA _))
  | rsl a b c d e => exact (by cases (hf : FreshA _))
  | ptr a b c d => exact (by cases (hf : FreshA _))
  | vptr a b => exact (by cases (hf : FreshA _))
  | fn a b => exact (by cases (hf : FreshA _))
  | fnb a b c => exact (by cases (hf : FreshA _))
  | tup a => exact (by cases (hf : FreshA _))


theorem impL_rep (hb : z.base ≤ z'.base) (hE : ∀ g, EW E g → g < z'.base) : ∀ {k : Nat} {l : List AV}, (∀ x, x ∈ l → FreshE x) → ∀ {vs : List Value}, @RepL z' w E1 vs (impL k l).1 → @RepL z w (E ++ E1) vs (impL (E.length + k) l).1
  | k, [], hf, vs, h => by
    cases h
    exact @RepL.nil z w (E ++ E1)
  | k, x :: r, hf, vs, h => by
    simp only [impL] at h ⊢
    cases h with
    | cons a b =>
      refine @RepL.cons z w (E ++ E1) _ _ _ _ (impC_rep hb hE (hf x (by simp)) a) ?_
      have := impL_rep hb hE (fun y hy => hf y (by simp [hy])) b
      rw [impC_blocks (E.length + k) k x, Nat.add_assoc]
      exact this

theorem imp_rep (hb : z.base ≤ z'.base) (hE : ∀ g, EW E g → g < z'.base) {y : AV} (hf : FreshR y) {v : Value} (h : @Rep z' w E1 v (imp 0 y).1) : @Rep z w (E ++ E1) v (imp E.length y).1 := by
  have other : ∀ {x : AV}, FreshE x → @Rep z' w E1 v (impC 0 x).1 → @Rep z w (E ++ E1) v (impC E.length x).1 := fun hf h => impC_rep (k := 0) hb hE hf h
  cases y with
  | tup l =>
    simp only [imp] at h ⊢
    obtain ⟨vs, rfl, hrep⟩ := @Rep.tup_inv z' w E1 v _ h
    exact @Rep.tup z w (E ++ E1) vs _ (impL_rep (k := 0) hb hE hf hrep)
  | sl a b c => exact other hf h
  | agg a => exact other hf h
  | int a b => exact other hf h
  | bool a => exact other hf h
  | str a => exact other hf h
  | nils => exact other hf h
  | nilp => exact other hf h
  | any => exact other hf h
  | slx a b => exact other hf h
  | rsl a b c d e => exact other hf h
  | ptr a b c d => exact other hf h
  | vptr a b => exact other hf h
  | fn a b => exact other hf h
  | fnb a b c => exact other hf h
end

theorem AOK.callS {P : Program} {f : Nat} {l l' : List AV} {σ : AH} {Q : AV → AH → Prop} {post : AV → Prop} (h : AOK P f l' post) (hd : ∀ (z' z : Zone) (E : Env) (w : World) (cs : List Value), @Rel z σ E w → @RepL z w E cs l → @RepL z' w [] cs l') (hQ : ∀ y, post y → Q (imp σ.length y).1 (σ ++ (imp σ.length y).2)) : CallS P f l σ Q := by
  refine ⟨h.1, ?_⟩
  intro z w E cs hr hrep
  have hrep' := hd ⟨w.heap.size⟩ z E w cs hr hrep
  refine (h.2 ⟨w.heap.size⟩ w [] cs (@rel_nil ⟨w.heap.size⟩ w (Nat.le_refl _)) hrep').mono ?_
  rintro e w' ⟨v, E1, x, σ1, rfl, hv, hr1, hs, y, hpost, hf, rfl, rfl⟩
  have hE : ∀ g, EW E g → g < w.heap.size := by
    rintro g ⟨id, m, c, hm, _, hp⟩; exact hr.place_lt hm hp
  have hE1 : ∀ (id : Nat) (m : MI) (g c : Nat), E1[id]? = some m → m.place = some (g, c) → w.heap.size ≤ g := fun id m g c hm hp => @Rel.fresh ⟨w.heap.size⟩ _ _ _ hr1 id m g c hm hp
  have hst : Step E w (E ++ E1) w' := by
    refine ⟨hs.os, hs.tape, hs.output, hs.size, fun g hg _ => hs.block g hg (ew_nil g), ?_, ?_⟩
    · rintro g ⟨id, m, c, hm, hw, hp⟩
      rw [List.getElem?_append] at hm
      split at hm
      · exact .inl ⟨id, m, c, hm, hw, hp⟩
      · exact .inr (hE1 _ m g c hm hp)
    · intro id m hm
      have hlt : id < E.length := (List.getElem?_eq_some_iff.1 hm).1
      exact ⟨m, by rw [List.getElem?_append_left hlt]; exact hm, Nat.le_refl _, fun _ => ⟨rfl, rfl⟩⟩
  have hW : ∀ g, EW (E ++ E1) g → w.heap.size ≤ g → EW E1 g := by
    rintro g ⟨id, m, c, hm, hw, hp⟩ hg
    rw [List.getElem?_append] at hm
    split at hm
    · have := hE g ⟨id, m, c, hm, hw, hp⟩; omega
    · exact ⟨_, m, c, hm, hw, hp⟩
  have hb := imp_blocks σ.length 0 y
  refine ⟨v, E ++ E1, _, σ ++ (imp σ.length y).2, rfl, by rw [← hr.len]; exact imp_rep (z' := ⟨w.heap.size⟩) hr.base hE hf hv, ?_, hst, hQ y hpost⟩
  rw [hb]
  have hlen1 := @Rel.len ⟨w.heap.size⟩ _ _ _ hr1
  refine ⟨by simp [hr.len, hlen1], Nat.le_trans hr.base hs.size, ?_, ?_, ?_⟩
  · intro id m g c hm hp
    rw [List.getElem?_append] at hm
    split at hm
    · exact hr.fresh id m g c hm hp
    · exact Nat.le_trans hr.base (hE1 _ m g c hm hp)
  · intro id b hbb
    rw [List.getElem?_append] at hbb
    split at hbb
    · rename_i hlt
      obtain ⟨m, hm, hok⟩ := hr.blk id b hbb
      exact ⟨m, by rw [List.getElem?_append_left (by rw [hr.len]; exact hlt)]; exact hm, hok.step hst (fun g c hp => hs.block g (hr.place_lt hm hp) (ew_nil g))⟩
    · rename_i hlt
      obtain ⟨m, hm, hok⟩ := @Rel.blk ⟨w.heap.size⟩ _ _ _ hr1 _ b hbb
      obtain ⟨hpu, hfr⟩ := imp_fresh hf b (List.mem_of_getElem? hbb)
      have hext := @BlkAny.pure ⟨w.heap.size⟩ _ _ _ _ hok hpu
      refine ⟨m, by rw [List.getElem?_append_right (by rw [hr.len]; omega), hr.len]; exact hm, BlkAny.of ?_ hext⟩
      obtain ⟨k1, k2, k3, k4, k5, k6⟩ := @BlkAny.cells ⟨w.heap.size⟩ _ _ _ _ hok hext
      refine ⟨k1, k2, k3, k4, k5, ?_⟩
      split at k6
      · exact k6
      · obtain ⟨q1, q2, cur, ee, lo, hi, q3, q4, q5, q6, q7⟩ := k6
        refine ⟨q1, q2, cur, ee, lo, hi, q3, q4, q5, q6, ?_⟩
        rw [if_pos hpu] at q7 ⊢
        exact RepVL.lift (z := z) (z' := ⟨w.heap.size⟩) hr.base hW q7 hfr
  · intro id id' m m' g c c' hne hm hm' hw hp hp'
    rw [List.getElem?_append] at hm hm'
    split at hm <;> split at hm'
    · exact hr.inj id id' m m' g c c' hne hm hm' hw hp hp'
    · have h1 := hr.place_lt hm hp
      have h2 := hE1 _ m' g c' hm' hp'
      omega
    · have h1 := hr.place_lt hm' hp'
      have h2 := hE1 _ m g c hm hp
      omega
    · exact @Rel.inj ⟨w.heap.size⟩ _ _ _ hr1 _ _ m m' g c c' (by omega) hm hm' hw hp hp'

/-! ### Proved by its body -/
/-- What a function hands back, out of its own memory: by value; which blocks go with it; which ones it holds inside. -/
def expA (σ : AH) (x : AV) : Option (AV × List Nat) :=
  match x with
  | .rsl id gen off len none => match σ[id]? with
    | some b => if b.gen = gen ∧ b.pure = true ∧ off + len ≤ b.els.length then some (.sl b.sz ((b.els.drop off).take len) true, [id]) else none
    | none => none
  | x => if x.flat then some (x, []) else none
theorem AOK.call {P : Program} {f : Nat} {l l' : List AV} {σ : AH} {Q : AV → AH → Prop} {post : AV → Prop} (h : AOK P f l' post) (hd : derefs σ l = some l') (hQ : ∀ y, post y → Q (imp σ.length y).1 (σ ++ (imp σ.length y).2)) : CallS P f l σ Q :=
  h.callS (fun z' z E w cs hr hrep => derefs_ok (z' := z') hr hd hrep) hQ


def expAs (σ : AH) : List AV → Option (List AV × List Nat)
  | [] => some ([], [])
  | x :: r => match expA σ x, expAs σ r with
    | some (y, a), some (ys, b) => some (y :: ys, a ++ b)
    | _, _ => none

/-- tops: the blocks handed out; nest: those inside. -/
def expC (σ : AH) (x : AV) : Option (AV × List (Nat × Nat) × List Nat) :=
  match x with
  | .rsl id gen off len none => match σ[id]? with
    | some b => if b.gen = gen ∧ b.pure = true ∧ b.wr = true ∧ off = 0 ∧ len ≤ b.els.length then some (.sl b.sz (b.els.take len) true, [(id, len)], []) else none
    | none => none
  | .agg l => (expAs σ l).map fun p => (.agg p.1, [], p.2)
  | .sl _ _ _ => none
  | x => if x.flat then some (x, [], []) else none

def expL (σ : AH) : List AV → Option (List AV × List (Nat × Nat) × List Nat)
  | [] => some ([], [], [])
  | x :: r => match expC σ x, expL σ r with
    | some (y, a, c), some (ys, b, d) => some (y :: ys, a ++ b, c ++ d)
    | _, _ => none

def expR (σ : AH) (x : AV) : Option (AV × List (Nat × Nat) × List Nat) :=
  match x with
  | .tup l => (expL σ l).map fun p => (.tup p.1, p.2.1, p.2.2)
  | x => expC σ x

/-- The places that go with the results. -/
def selE (E : Env) : List (Nat × Nat) → Env
  | [] => []
  | (id, _) :: r => { gen := 0, sz := (E.getD id ⟨0, 0, true, none⟩).sz, wr := true, place := (E.getD id ⟨0, 0, true, none⟩).place } :: selE E r

theorem selE_get {E : Env} : ∀ {l : List (Nat × Nat)} {k : Nat} {m : MI}, (selE E l)[k]? = some m → ∃ id len, l[k]? = some (id, len) ∧ m = { gen := 0, sz := (E.getD id ⟨0, 0, true, none⟩).sz, wr := true, place := (E.getD id ⟨0, 0, true, none⟩).place }
  | [], k, m, h => by simp [selE] at h
  | (id, len) :: r, 0, m, h => by simp [selE] at h; exact ⟨id, len, rfl, h.symm⟩
  | (id, len) :: r, k + 1, m, h => by
    simp only [selE, List.getElem?_cons_succ] at h
    obtain ⟨id', len', h1, h2⟩ := selE_get h
    exact ⟨id', len', by simpa using h1, h2⟩

theorem selE_at {E : Env} : ∀ {l : List (Nat × Nat)} {k id len : Nat}, l[k]? = some (id, len) → (selE E l)[k]? = some { gen := 0, sz := (E.getD id ⟨0, 0, true, none⟩).sz, wr := true, place := (E.getD id ⟨0, 0, true, none⟩).place }
  | [], k, id, len, h => by simp at h
  | (id', len') :: r, 0, id, len, h => by simp at h; obtain ⟨rfl, rfl⟩ := h; rfl
  | (id', len') :: r, k + 1, id, len, h => by
    simp only [selE, List.getElem?_cons_succ]
    exact selE_at (by simpa using h)

theorem selE_len {E : Env} : ∀ {l : List (Nat × Nat)}, (selE E l).length = l.length
  | [] => rfl
  | (a, b) :: r => by simp [selE, selE_len]

section
variable [Zone] {w : World} {E : Env} {σ : AH}

/-- What is seen of the places handed out: only they may be written. -/
structure Only (E : Env) (tops : List (Nat × Nat)) (nest : List Nat) (E2 : Env) : Prop where
  own : ∀ g, EW E2 g → ∃ (id len : Nat) (m : MI) (c : Nat), (id, len) ∈ tops ∧ E[id]? = some m ∧ m.wr = true ∧ m.place = some (g, c)
  apart : ∀ id len, (id, len) ∈ tops → id ∉ nest

omit [Zone] in
theorem Only.ew {tops : List (Nat × Nat)} {nest : List Nat} {E2 : Env} (h : Only E tops nest E2) (g : Nat) (hg : EW E2 g) : EW E g := by
  obtain ⟨id, len, m, c, _, h1, h2, h3⟩ := h.own g hg
  exact ⟨id, m, c, h1, h2, h3⟩

theorem expA_ok (hr : Rel σ E w) {E2 : Env} {tops : List (Nat × Nat)} {nest : List Nat} (ho : Only E tops nest E2) {x y : AV} {ids : List Nat} (h : expA σ x = some (y, ids)) (hn : ∀ i, i ∈ ids → i ∈ nest) {v : Value} (hv : Rep w E v x) : RepV w (EW E2) v y := by
  unfold expA at h
  split at h
  · rename_i id gen off len
    split at h
    · rename_i b hb
      split at h
      · rename_i hc
        cases h
        obtain ⟨hg, hp, hle⟩ := hc
        refine rsl_val hr hb hg hp hle hv ho.ew ?_
        intro m g c hm hpl hgg
        obtain ⟨id', len', m', c', h1, h2, h3, h4⟩ := ho.own g hgg
        by_cases e : id' = id
        · subst e; exact ho.apart _ _ h1 (hn _ (by simp))
        · exact hr.inj id' id m' m g c' c e h2 hm h3 h4 hpl
      · cases h
    · cases h
  · split at h
    · rename_i hz
      cases h
      exact (flat_rep hv hz).weaken ho.ew
    · cases h

theorem expAs_ok (hr : Rel σ E w) {E2 : Env} {tops : List (Nat × Nat)} {nest : List Nat} (ho : Only E tops nest E2) : ∀ {xs ys : List AV} {ids : List Nat}, expAs σ xs = some (ys, ids) → (∀ i, i ∈ ids → i ∈ nest) → ∀ {vs : List Value}, RepL w E vs xs → RepVL w (EW E2) vs ys
  | [], ys, ids, h, hn, vs, hv => by simp [expAs] at h; rw [h.1]; cases hv; exact .nil
  | x :: xs, ys, ids, h, hn, vs, hv => by
    simp only [expAs] at h
    split at h
    · rename_i y a ys' b h1 h2
      cases h
      cases hv with
      | cons p q => exact .cons (expA_ok hr ho h1 (fun i hi => hn i (by simp [hi])) p) (expAs_ok hr ho h2 (fun i hi => hn i (by simp [hi])) q)
    · cases h

omit [Zone] in
theorem expC_tops {x y : AV} {ts : List (Nat × Nat)} {ids : List Nat} (h : expC σ x = some (y, ts, ids)) (i id len : Nat) (hi : ts[i]? = some (id, len)) : ∃ b, σ[id]? = some b ∧ b.wr = true := by
  unfold expC at h
  split at h
  · split at h
    · rename_i b hb
      split at h
      · rename_i hc
        cases h
        cases i with
        | zero => simp at hi; obtain ⟨rfl, rfl⟩ := hi; exact ⟨b, hb, hc.2.2.1⟩
        | succ i => simp at hi
      · cases h
    · cases h
  · obtain ⟨p, _, he⟩ := Option.map_eq_some_iff.1 h
    cases he; simp at hi
  · cases h
  · split at h
    · cases h; simp at hi
    · cases h

/-- One result: its value with whoever called; E2 holds the places handed out, those of this result from k on. -/
theorem expC_ok (hr : Rel σ E w) {E2 : Env} {tops : List (Nat × Nat)} {nest : List Nat} (ho : Only E tops nest E2) {x y : AV} {ts : List (Nat × Nat)} {ids : List Nat} (h : expC σ x = some (y, ts, ids)) (hn : ∀ i, i ∈ ids → i ∈ nest) {k : Nat}
    (hE : ∀ i p, ts[i]? = some p → E2[k + i]? = (selE E ts)[i]?) {v : Value} (hv : Rep w E v x) :
    Rep w E2 v (impC k y).1 ∧ (impC k y).2.length = ts.length ∧ ∀ (i id len : Nat), ts[i]? = some (id, len) → ∃ b, σ[id]? = some b ∧ b.pure = true ∧ b.wr = true ∧ len ≤ b.els.length ∧ (impC k y).2[i]? = some { sz := b.sz, els := b.els.take len, gen := 0, wr := true, pure := true } := by
  unfold expC at h
  split at h
  · rename_i id gen off len
    split at h
    · rename_i b hb
      split at h
      · rename_i hc
        obtain ⟨hg, hp, hw, rfl, hle⟩ := hc
        cases h
        obtain ⟨m, hm, hok⟩ := hr.blk id b hb
        replace hok := hok.cells (hok.pure hp)
        have hs := hv.rsl_inv hm (hok.1.trans hg) hok.pos
        have h0 := hE 0 (id, len) rfl
        simp only [selE, List.getElem?_cons_zero, Nat.add_zero] at h0
        have hgd : E.getD id ⟨0, 0, true, none⟩ = m := by simp [List.getD, hm]
        rw [hgd] at h0
        refine ⟨?_, by simp [impC], ?_⟩
        · simp only [impC]
          have hl : (b.els.take len).length = len := by rw [List.length_take]; omega
          rw [hl]
          refine .rsl _ (hv.one rfl (fun l q => by cases q)) h0 (Nat.le_refl _) (fun _ => ?_)
          refine RslAny.of ?_ hok.pos
          unfold RslOk at hs ⊢
          exact hs
        · intro i id' len' hi
          cases i with
          | zero => simp at hi; obtain ⟨rfl, rfl⟩ := hi; exact ⟨b, hb, hp, hw, hle, by simp [impC]⟩
          | succ i => simp at hi
      · cases h
    · cases h
  · rename_i l
    obtain ⟨⟨ys, ids'⟩, hys, he⟩ := Option.map_eq_some_iff.1 h
    cases he
    obtain ⟨cs, rfl, h1, hrep⟩ := hv.agg_inv
    exact ⟨.pure (.agg cs ys h1 (expAs_ok hr ho hys hn hrep)), by simp [impC], fun i id len hi => by simp at hi⟩
  · cases h
  · rename_i hns
    split at h
    · rename_i hz
      cases h
      have hv' := (flat_rep hv hz).weaken ho.ew
      cases x with
      | sl sz l fr => exact absurd rfl (hns sz l fr)
      | int a b => exact ⟨.pure hv', rfl, fun i id len hi => by simp at hi⟩
      | bool a => exact ⟨.pure hv', rfl, fun i id len hi => by simp at hi⟩
      | str a => exact ⟨.pure hv', rfl, fun i id len hi => by simp at hi⟩
      | nils => exact ⟨.pure hv', rfl, fun i id len hi => by simp at hi⟩
      | nilp => exact ⟨.pure hv', rfl, fun i id len hi => by simp at hi⟩
      | any => exact ⟨.pure hv', rfl, fun i id len hi => by simp at hi⟩
      | agg a => cases hz
      | slx a b => cases hz
      | rsl a b c d e => cases hz
      | ptr a b c d => cases hz
      | vptr a b => cases hz
      | fn a b => cases hz
      | fnb a b c => cases hz
      | tup a => cases hz
    · cases h

theorem expL_ok (hr : Rel σ E w) {E2 : Env} {tops : List (Nat × Nat)} {nest : List Nat} (ho : Only E tops nest E2) : ∀ {xs ys : List AV} {ts : List (Nat × Nat)} {ids : List Nat}, expL σ xs = some (ys, ts, ids) → (∀ i, i ∈ ids → i ∈ nest) → ∀ {k : Nat},
    (∀ i p, ts[i]? = some p → E2[k + i]? = (selE E ts)[i]?) → ∀ {vs : List Value}, RepL w E vs xs →
    RepL w E2 vs (impL k ys).1 ∧ (impL k ys).2.length = ts.length ∧ ∀ (i id len : Nat), ts[i]? = some (id, len) → ∃ b, σ[id]? = some b ∧ b.pure = true ∧ b.wr = true ∧ len ≤ b.els.length ∧ (impL k ys).2[i]? = some { sz := b.sz, els := b.els.take len, gen := 0, wr := true, pure := true }
  | [], ys, ts, ids, h, hn, k, hE, vs, hv => by
    simp [expL] at h
    obtain ⟨rfl, rfl, rfl⟩ := h
    cases hv
    exact ⟨.nil, rfl, fun i id len hi => by simp at hi⟩
  | x :: xs, ys, ts, ids, h, hn, k, hE, vs, hv => by
    simp only [expL] at h
    split at h
    · rename_i y a c ys' b d h1 h2
      cases h
      have hsel : ∀ (p q : List (Nat × Nat)), selE E (p ++ q) = selE E p ++ selE E q := by
        intro p q
        induction p with
        | nil => rfl
        | cons u r ih => obtain ⟨u1, u2⟩ := u; simp [selE, ih]
      cases hv with
      | cons p q =>
        obtain ⟨r1, r2, r3⟩ := expC_ok (k := k) hr ho h1 (fun i hi => hn i (by simp [hi])) (fun i pp hi => by
          have hlt : i < a.length := (List.getElem?_eq_some_iff.1 hi).1
          have := hE i pp (by rw [List.getElem?_append_left hlt]; exact hi)
          rw [this, hsel, List.getElem?_append_left (by rw [selE_len]; exact hlt)]) p
        obtain ⟨s1, s2, s3⟩ := expL_ok hr ho h2 (fun i hi => hn i (by simp [hi])) (k := k + (impC k y).2.length) (fun i pp hi => by
          have := hE (a.length + i) pp (by rw [List.getElem?_append_right (by omega)]; simpa using hi)
          rw [hsel, List.getElem?_append_right (by rw [selE_len]; omega), selE_len] at this
          rw [r2, Nat.add_assoc, this]
          congr 1; omega) q
        simp only [impL]
        refine ⟨.cons r1 s1, by rw [List.length_append, s2, r2, List.length_append], ?_⟩
        intro i id len hi
        by_cases hlt : i < a.length
        · rw [List.getElem?_append_left hlt] at hi
          obtain ⟨bb, t1, t2, t3, t4, t5⟩ := r3 i id len hi
          exact ⟨bb, t1, t2, t3, t4, by rw [List.getElem?_append_left (by rw [r2]; exact hlt)]; exact t5⟩
        · rw [List.getElem?_append_right (by omega)] at hi
          obtain ⟨bb, t1, t2, t3, t4, t5⟩ := s3 (i - a.length) id len hi
          exact ⟨bb, t1, t2, t3, t4, by
            rw [List.getElem?_append_right (by rw [r2]; omega), show i - (impC k y).2.length = i - a.length from by rw [r2]]
            exact t5⟩
    · cases h

/-- A whole result. -/
theorem expR_ok (hr : Rel σ E w) {x y : AV} {ts : List (Nat × Nat)} {nest : List Nat} (h : expR σ x = some (y, ts, nest)) (hnd : (ts.map (·.1) ++ nest).Nodup) {v : Value} (hv : Rep w E v x) {E0 : Env} {w0 : World} (hs : Step E0 w0 E w) (hE0 : E0 = []) :
    ∃ E2, Rep w E2 v (imp 0 y).1 ∧ Rel (imp 0 y).2 E2 w ∧ Step E0 w0 E2 w := by
  subst hE0
  have hts : ∀ (i id len : Nat), ts[i]? = some (id, len) → ∃ b, σ[id]? = some b ∧ b.wr = true := by
    intro i id len hi
    have key : ∀ {xs ys : List AV} {ts : List (Nat × Nat)} {ids : List Nat}, expL σ xs = some (ys, ts, ids) → ∀ (i id len : Nat), ts[i]? = some (id, len) → ∃ b, σ[id]? = some b ∧ b.wr = true := by
      intro xs
      induction xs with
      | nil => intro ys ts ids h i id len hi; simp [expL] at h; rw [h.2.1] at hi; simp at hi
      | cons x xs ih =>
        intro ys ts ids h i id len hi
        simp only [expL] at h
        split at h
        · rename_i y a c ys' b d h1 h2
          cases h
          by_cases hlt : i < a.length
          · rw [List.getElem?_append_left hlt] at hi
            exact expC_tops h1 i id len hi
          · rw [List.getElem?_append_right (by omega)] at hi
            exact ih h2 _ _ _ hi
        · cases h
    unfold expR at h
    split at h
    · rename_i l
      obtain ⟨⟨ys, ts', ids'⟩, hys, he⟩ := Option.map_eq_some_iff.1 h
      cases he
      exact key hys i id len hi
    · exact expC_tops h i id len hi
  have htop : ∀ (k : Nat) (m : MI), (selE E ts)[k]? = some m → ∃ (id len : Nat) (m0 : MI), ts[k]? = some (id, len) ∧ E[id]? = some m0 ∧ m0.wr = true ∧ m = { gen := 0, sz := m0.sz, wr := true, place := m0.place } := by
    intro k m hk
    obtain ⟨id, len, h1, h2⟩ := selE_get hk
    obtain ⟨b, hb, hw⟩ := hts k id len h1
    obtain ⟨m0, hm0, hok⟩ := hr.blk id b hb
    have hgd : E.getD id ⟨0, 0, true, none⟩ = m0 := by simp [List.getD, hm0]
    rw [hgd] at h2
    exact ⟨id, len, m0, h1, hm0, hok.gens.2.trans hw, h2⟩
  have ho : Only E ts nest (selE E ts) := by
    refine ⟨?_, ?_⟩
    · rintro g ⟨k, m, c, hm, hw, hp⟩
      obtain ⟨id, len, m0, h1, h2, h3, rfl⟩ := htop k m hm
      exact ⟨id, len, m0, c, List.mem_of_getElem? h1, h2, h3, hp⟩
    · intro id len hi hn
      have := (List.nodup_append.1 hnd).2.2 id (List.mem_map.2 ⟨(id, len), hi, rfl⟩) id hn
      exact this rfl
  have main : Rep w (selE E ts) v (imp 0 y).1 ∧ (imp 0 y).2.length = ts.length ∧ ∀ (i id len : Nat), ts[i]? = some (id, len) → ∃ b, σ[id]? = some b ∧ b.pure = true ∧ b.wr = true ∧ len ≤ b.els.length ∧ (imp 0 y).2[i]? = some { sz := b.sz, els := b.els.take len, gen := 0, wr := true, pure := true } := by
    unfold expR at h
    split at h
    · rename_i l
      obtain ⟨⟨ys, ts', ids'⟩, hys, he⟩ := Option.map_eq_some_iff.1 h
      cases he
      obtain ⟨vs, rfl, hrep⟩ := hv.tup_inv
      obtain ⟨a1, a2, a3⟩ := expL_ok (k := 0) hr ho hys (fun i hi => hi) (fun i p hi => by rw [Nat.zero_add]) hrep
      exact ⟨.tup vs _ a1, a2, a3⟩
    · obtain ⟨a1, a2, a3⟩ := expC_ok (k := 0) hr ho h (fun i hi => hi) (fun i p hi => by rw [Nat.zero_add]) hv
      have hy : imp 0 y = impC 0 y := by
        rename_i hnt
        cases y with
        | tup l =>
          exfalso
          unfold expC at h
          split at h
          · split at h
            · split at h <;> cases h
            · cases h
          · obtain ⟨p, _, he⟩ := Option.map_eq_some_iff.1 h; cases he
          · cases h
          · split at h
            · rename_i hz; cases h; cases hz
            · cases h
        | _ => rfl
      rw [hy]; exact ⟨a1, a2, a3⟩
  obtain ⟨hrep, hlen, hblk⟩ := main
  refine ⟨selE E ts, hrep, ⟨by rw [selE_len, hlen], hr.base, ?_, ?_, ?_⟩, ⟨hs.os, hs.tape, hs.output, hs.size, hs.block, ?_, fun id m hm => by simp at hm⟩⟩
  · intro k m g c hm hp
    obtain ⟨id, len, m0, h1, h2, h3, rfl⟩ := htop k m hm
    exact hr.fresh id m0 g c h2 hp
  · intro k b hb
    have hlt : k < ts.length := by rw [← hlen]; exact (List.getElem?_eq_some_iff.1 hb).1
    obtain ⟨⟨id, len⟩, hk⟩ : ∃ p, ts[k]? = some p := ⟨_, List.getElem?_eq_getElem hlt⟩
    obtain ⟨b0, q1, q2, q3, q4, q5⟩ := hblk k id len hk
    rw [q5] at hb; cases hb
    obtain ⟨m0, hm0, hok⟩ := hr.blk id b0 q1
    have hgd : E.getD id ⟨0, 0, true, none⟩ = m0 := by simp [List.getD, hm0]
    have hsel := selE_at (E := E) hk
    rw [hgd] at hsel
    replace hok := hok.cells (hok.pure q2)
    refine ⟨_, hsel, BlkAny.of ?_ rfl⟩
    refine ⟨rfl, hok.2.1, rfl, hok.2.2.2.1, fun r hr' => hok.2.2.2.2.1 r (List.mem_of_mem_take hr'), ?_⟩
    have k6 := hok.2.2.2.2.2
    have k5 := hok.2.2.2.2.1
    have hfl : (b0.els.take len).flatten = b0.els.flatten.take (len * b0.sz) := flatten_take k5 len
    have hfl2 := flatten_len k5
    have hle : len * b0.sz ≤ b0.els.flatten.length := by rw [hfl2]; exact Nat.mul_le_mul_right _ q4
    show match m0.place with | none => _ | some (g, c) => _
    split at k6
    · rename_i hpl
      rw [hpl]
      show b0.els.take len = []
      rw [k6]; simp
    · rename_i g c hpl
      rw [hpl]
      obtain ⟨p1, p2, cur, e, lo, hi, p3, p4, p5, p6, p7⟩ := k6
      have hN : (b0.els.take len).flatten.length = len * b0.sz := by rw [hfl, List.length_take]; omega
      have htk : cur.toList.take (b0.els.take len).flatten.length = (cur.toList.take b0.els.flatten.length).take (len * b0.sz) := by
        rw [hN, List.take_take, Nat.min_eq_left hle]
      refine ⟨⟨by show (b0.els.take len).length ≤ c; rw [List.length_take]; omega, by simp⟩, p2, cur, e, lo, hi, p3, p4, p5, p6, ?_⟩
      · show RepVL w (EW (selE E ts)) (cur.toList.take (b0.els.take len).flatten.length) (b0.els.take len).flatten
        rw [if_pos q2] at p7
        rw [htk, hfl]
        exact (p7.take _).keep ⟨fun _ _ _ _ => rfl, fun g hg => .inl (ho.ew g hg)⟩
  · intro k k' m m' g c c' hne hm hm' hw hp hp'
    obtain ⟨id, len, m0, h1, h2, h3, rfl⟩ := htop k m hm
    obtain ⟨id', len', m0', h1', h2', h3', rfl⟩ := htop k' m' hm'
    have hii : id ≠ id' := by
      intro e
      subst e
      have hnd1 := (List.nodup_append.1 hnd).1
      have e1 : (ts.map (·.1))[k]? = some id := by rw [List.getElem?_map, h1]; rfl
      have e2 : (ts.map (·.1))[k']? = some id := by rw [List.getElem?_map, h1']; rfl
      have hk : k < (ts.map (·.1)).length := (List.getElem?_eq_some_iff.1 e1).1
      exact hne ((List.getElem?_inj hk hnd1).1 (e1.trans e2.symm))
    exact hr.inj id id' m0 m0' g c c' hii h2 h2' h3 hp hp'
  · intro g hg
    have := hs.own g (ho.ew g hg)
    exact this
end

/-- A contract out of a body, results new. -/
theorem AOK.of_call {P : Program} {f : Nat} {args : List AV} {post : AV → Prop}
    (h : CallS P f args [] fun x σ => ∃ y ts nest, expR σ x = some (y, ts, nest) ∧ (ts.map (·.1) ++ nest).Nodup ∧ FreshR y ∧ post y) : AOK P f args post := by
  obtain ⟨hb, hcall⟩ := h
  refine ⟨hb, ?_⟩
  intro z w E cs hr hrep
  have hE : E = [] := List.length_eq_zero_iff.1 hr.len
  refine (hcall z w E cs hr hrep).mono ?_
  rintro e w' ⟨v, E', x, σ', rfl, hv, hr', hs', y, ts, nest, h1, h2, h3, h4⟩
  obtain ⟨E2, r1, r2, r3⟩ := expR_ok hr' h1 h2 hv hs' hE
  exact ⟨v, E2, _, _, rfl, r1, r2, r3, y, h4, h3, rfl, rfl⟩

end Go.Proofs.Ytppccaacbpkgiaa.V
