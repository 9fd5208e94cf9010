/-
  VA: abstract values over the machine's memory. A slice is told by value, or by reference into an abstract heap that holds the blocks of the call's own. What an abstract value says of a machine's value (Rep), what an abstract heap says of a world (Rel), and what keeps both.
-/
import Derived.Tactics
import Derived.Below
import Derived.Deep.Quiet
import Derived.StillTail
namespace Go.Proofs.Ytppccaacbpkgiaa.V
open Go Go.RowKit

inductive AV where
  | any
  | int (k : IntKind) (n : Int)
  | bool (b : Bool)
  | str (s : List UInt8)
  | nils
  | sl (sz : Nat) (l : List (List AV)) (fr : Bool)
  | slx (sz : Nat) (l : List (List AV))
  | agg (l : List AV)
  | rsl (id gen off len : Nat) (cap : Option Nat)
  | ptr (id gen idx off : Nat)
  | vptr (row : List AV) (off : Nat)
  | nilp
  | fn (f : Nat) (cap : List AV)
  | fnb (f : Nat) (pre cap : List AV)
  | tup (l : List AV)

/-- From which block on what is told to be new is new. -/
class Zone where
  base : Nat

-- By value alone. W: the blocks that may be written.
mutual
inductive RepV [Zone] (w : World) (W : Nat → Prop) : Value → AV → Prop
  | any (v : Value) (h1 : v.oneCell' = true) : RepV w W v .any
  | int (k : IntKind) (n : Int) : RepV w W (.int k n) (.int k n)
  | bool (b : Bool) : RepV w W (.bool b) (.bool b)
  | str (b : ByteArray) (s : List UInt8) (h : b.data.toList = s) : RepV w W (.string b) (.str s)
  | nils : RepV w W (.slice none 0 0) .nils
  | slnil (sz : Nat) (fr : Bool) : RepV w W (.slice none 0 0) (.sl sz [] fr)
  | sl (a : Addr) (cap sz : Nat) (l : List (List AV)) (fr : Bool) (cs : List Value) (hB : fr = true → l.flatten ≠ [] → Zone.base ≤ a.block) (hlen : l.length ≤ cap) (hcap : cap ≤ 9223372036854775807) (hr : ∀ r, r ∈ l → r.length = sz)
      (hW : l.flatten ≠ [] → ¬ W a.block) (hc : ∀ j u, cs[j]? = some u → w.cell? (a.add j) = some u) (h1 : ∀ v, v ∈ cs → v.oneCell' = true) (h : RepVL w W cs l.flatten) : RepV w W (.slice (some a) l.length cap) (.sl sz l fr)
  | slxnil (sz : Nat) : RepV w W (.slice none 0 0) (.slx sz [])
  | slx (a : Addr) (sz : Nat) (l : List (List AV)) (cs : List Value) (hcap : l.length ≤ 9223372036854775807) (hr : ∀ r, r ∈ l → r.length = sz)
      (hW : l.flatten ≠ [] → ¬ W a.block) (hc : ∀ j u, cs[j]? = some u → w.cell? (a.add j) = some u) (h1 : ∀ v, v ∈ cs → v.oneCell' = true) (h : RepVL w W cs l.flatten) : RepV w W (.slice (some a) l.length l.length) (.slx sz l)
  | agg (cs : Array Value) (l : List AV) (h1 : ∀ v, v ∈ cs.toList → v.oneCell' = true) (h : RepVL w W cs.toList l) : RepV w W (.agg cs) (.agg l)
  | nilp : RepV w W (.pointer none) .nilp
inductive RepVL [Zone] (w : World) (W : Nat → Prop) : List Value → List AV → Prop
  | nil : RepVL w W [] []
  | cons {v x vs xs} (h : RepV w W v x) (t : RepVL w W vs xs) : RepVL w W (v :: vs) (x :: xs)
end

structure MI where
  gen : Nat
  sz : Nat
  wr : Bool
  place : Option (Nat × Nat)

abbrev Env := List MI

/-- The blocks that may be written. -/
def EW (E : Env) (g : Nat) : Prop := ∃ (id : Nat) (m : MI) (c : Nat), E[id]? = some m ∧ m.wr = true ∧ m.place = some (g, c)

def RslOk (m : MI) (off len : Nat) (cap : Option Nat) (v : Value) : Prop :=
  match m.place with
  | none => (v = .slice none 0 0 ∨ ∃ a, v = .slice (some a) 0 0) ∧ len = 0 ∧ off = 0 ∧ (∀ k', cap = some k' → k' = 0)
  | some (g, c) => ∃ a k, v = .slice (some a) len k ∧ len ≤ k ∧ off + k ≤ c ∧ (k ≠ 0 → a = ⟨g, off * m.sz, none⟩) ∧ (match cap with | some k' => k = k' | none => off + k = c)

/-- What a reference is: to cells; or a map's. -/
def RslAny (m : MI) (off len : Nat) (cap : Option Nat) (v : Value) : Prop :=
  if m.sz = 0 then ∃ g c, m.place = some (g, c) ∧ v = (if off = 0 then .map (some g) else .func (.yield g) #[] #[]) else RslOk m off len cap v
theorem RslAny.of {m : MI} {off len : Nat} {cap : Option Nat} {v : Value} (h : RslOk m off len cap v) (h0 : 0 < m.sz) : RslAny m off len cap v := by
  unfold RslAny
  rw [if_neg (by omega)]
  exact h
theorem RslAny.cells {m : MI} {off len : Nat} {cap : Option Nat} {v : Value} (h : RslAny m off len cap v) (h0 : 0 < m.sz) : RslOk m off len cap v := by
  unfold RslAny at h
  rwa [if_neg (by omega)] at h

/-- Yield's number, among the functions: none of the program's. -/
abbrev yno : Nat := 4294967295

mutual
inductive Rep [Zone] (w : World) (E : Env) : Value → AV → Prop
  | pure {v x} (h : RepV w (EW E) v x) : Rep w E v x
  | rsl {v : Value} {id gen off len : Nat} {cap : Option Nat} (m : MI) (h1 : v.oneCell' = true) (hm : E[id]? = some m) (hg : gen ≤ m.gen) (h : gen = m.gen → RslAny m off len cap v) : Rep w E v (.rsl id gen off len cap)
  | ptr {v : Value} {id gen idx off : Nat} (m : MI) (h1 : v.oneCell' = true) (hm : E[id]? = some m) (hg : gen ≤ m.gen) (h : gen = m.gen → ∃ g c, m.place = some (g, c) ∧ v = .pointer (some ⟨g, idx * m.sz + off, none⟩)) : Rep w E v (.ptr id gen idx off)
  | vptr (a : Addr) (row : List AV) (off : Nat) (cs : List Value) (hW : row ≠ [] → ¬ EW E a.block) (hc : ∀ j u, cs[j]? = some u → w.cell? (a.add j) = some u) (h1 : ∀ v, v ∈ cs → v.oneCell' = true) (h : RepVL w (EW E) cs row) : Rep w E (.pointer (some (a.add off))) (.vptr row off)
  | agg (cs : Array Value) (l : List AV) (h1 : ∀ v, v ∈ cs.toList → v.oneCell' = true) (h : RepL w E cs.toList l) : Rep w E (.agg cs) (.agg l)
  | fn (f : Nat) (caps : Array Value) (l : List AV) (hne : f ≠ yno) (h : RepL w E caps.toList l) : Rep w E (.func (.func f) #[] caps) (.fn f l)
  | fnb (f : Nat) (ps caps : Array Value) (l m : List AV) (hne : f ≠ yno) (h1 : RepL w E ps.toList l) (h : RepL w E caps.toList m) : Rep w E (.func (.func f) ps caps) (.fnb f l m)
  | tup (vs : Array Value) (l : List AV) (h : RepL w E vs.toList l) : Rep w E (.tuple vs) (.tup l)
inductive RepL [Zone] (w : World) (E : Env) : List Value → List AV → Prop
  | nil : RepL w E [] []
  | cons {v x vs xs} (h : Rep w E v x) (t : RepL w E vs xs) : RepL w E (v :: vs) (x :: xs)
end

/-- From (E, w) to (E', w'): nothing that is not ours has turned; what is told of our blocks stands, or its generation is spent. -/
structure Step (E : Env) (w : World) (E' : Env) (w' : World) : Prop where
  os : w'.os = w.os
  tape : w'.tape = w.tape
  output : w'.output = w.output
  size : w.heap.size ≤ w'.heap.size
  block : ∀ g, g < w.heap.size → ¬ EW E g → w'.heap[g]? = w.heap[g]?
  own : ∀ g, EW E' g → EW E g ∨ w.heap.size ≤ g
  metas : ∀ (id : Nat) (m : MI), E[id]? = some m → ∃ m' : MI, E'[id]? = some m' ∧ m.gen ≤ m'.gen ∧ (m.gen = m'.gen → m'.sz = m.sz ∧ m'.place = m.place)

theorem Step.refl (E : Env) (w : World) : Step E w E w :=
  ⟨rfl, rfl, rfl, Nat.le_refl _, fun _ _ _ => rfl, fun _ h => .inl h, fun _ m h => ⟨m, h, Nat.le_refl _, fun _ => ⟨rfl, rfl⟩⟩⟩

theorem Step.trans {E : Env} {w : World} {E1 : Env} {w1 : World} {E2 : Env} {w2 : World} (h : Step E w E1 w1) (k : Step E1 w1 E2 w2) : Step E w E2 w2 := by
  refine ⟨k.os.trans h.os, k.tape.trans h.tape, k.output.trans h.output, Nat.le_trans h.size k.size, ?_, ?_, ?_⟩
  · intro g hg hn
    have h1 : ¬ EW E1 g := fun q => by
      rcases h.own g q with q | q
      · exact hn q
      · omega
    rw [k.block g (Nat.lt_of_lt_of_le hg h.size) h1, h.block g hg hn]
  · intro g hg
    rcases k.own g hg with q | q
    · exact h.own g q
    · exact .inr (Nat.le_trans h.size q)
  · intro id m hm
    obtain ⟨m1, hm1, hg1, he1⟩ := h.metas id m hm
    obtain ⟨m2, hm2, hg2, he2⟩ := k.metas id m1 hm1
    refine ⟨m2, hm2, Nat.le_trans hg1 hg2, fun e => ?_⟩
    obtain ⟨a1, a2⟩ := he1 (by omega)
    obtain ⟨b1, b2⟩ := he2 (by omega)
    exact ⟨b1.trans a1, b2.trans a2⟩

/-- What memory keeps of what is told by value. -/
structure KeepV (w : World) (W : Nat → Prop) (w' : World) (W' : Nat → Prop) : Prop where
  block : ∀ g, g < w.heap.size → ¬ W g → (∃ (a : Addr) (v : Value), a.block = g ∧ w.cell? a = some v) → w'.heap[g]? = w.heap[g]?
  own : ∀ g, W' g → W g ∨ w.heap.size ≤ g

theorem Step.keep {E : Env} {w : World} {E' : Env} {w' : World} (h : Step E w E' w') : KeepV w (EW E) w' (EW E') := ⟨fun g h1 h2 _ => h.block g h1 h2, h.own⟩

theorem block_lt {w : World} {a : Addr} {v : Value} (h : w.cell? a = some v) : a.block < w.heap.size := World.block_lt_of_cell? w a h

theorem cell_keep {w : World} {W : Nat → Prop} {w' : World} {W' : Nat → Prop} (k : KeepV w W w' W') {a : Addr} {v : Value} (hW : ¬ W a.block) (h : w.cell? a = some v) : w'.cell? a = some v := by
  rw [World.cell?_of_block (k.block _ (block_lt h) hW ⟨a, v, rfl, h⟩)]; exact h

theorem add_block (a : Addr) (j : Nat) : (a.add j).block = a.block := by unfold Addr.add; split <;> rfl

section
variable [Zone]

theorem RepVL.length {w : World} {W : Nat → Prop} : ∀ {cs : List Value} {l : List AV}, RepVL w W cs l → cs.length = l.length
  | _, _, .nil => rfl
  | _, _, .cons _ t => by simp [t.length]

theorem RepL.length {w : World} {E : Env} : ∀ {cs : List Value} {l : List AV}, RepL w E cs l → cs.length = l.length
  | _, _, .nil => rfl
  | _, _, .cons _ t => by simp [t.length]

omit [Zone] in
theorem keep_cells {w : World} {W : Nat → Prop} {w' : World} {W' : Nat → Prop} (k : KeepV w W w' W') {a : Addr} {cs : List Value} {l : List AV} (hl : cs.length = l.length) (hW : l ≠ [] → ¬ W a.block)
    (hc : ∀ j u, cs[j]? = some u → w.cell? (a.add j) = some u) : (l ≠ [] → ¬ W' a.block) ∧ (∀ j u, cs[j]? = some u → w'.cell? (a.add j) = some u) := by
  constructor
  · intro hne hW'
    rcases k.own _ hW' with q | q
    · exact hW hne q
    · cases hcs : cs with
      | nil => rw [hcs] at hl; simp only [List.length_nil] at hl; exact hne (List.length_eq_zero_iff.1 hl.symm)
      | cons c r =>
        have := block_lt (hc 0 c (by rw [hcs]; rfl))
        rw [add_block] at this
        omega
  · intro j u hj
    by_cases hne : l = []
    · rw [hne] at hl
      have : cs = [] := List.length_eq_zero_iff.1 hl
      rw [this] at hj; simp at hj
    · exact cell_keep k (by rw [add_block]; exact hW hne) (hc j u hj)

mutual
theorem RepV.keep {w : World} {W : Nat → Prop} {w' : World} {W' : Nat → Prop} (k : KeepV w W w' W') : ∀ {v : Value} {x : AV}, RepV w W v x → RepV w' W' v x
  | _, _, .any v h1 => .any v h1
  | _, _, .int a n => .int a n
  | _, _, .bool b => .bool b
  | _, _, .str b s h => .str b s h
  | _, _, .nils => .nils
  | _, _, .slnil sz fr => .slnil sz fr
  | _, _, .sl a cap sz l fr cs hB hlen hcap hr hW hc hone h =>
    let ⟨h1, h2⟩ := keep_cells k h.length hW hc
    .sl a cap sz l fr cs hB hlen hcap hr h1 h2 hone (RepVL.keep k h)
  | _, _, .slxnil sz => .slxnil sz
  | _, _, .slx a sz l cs hcap hr hW hc hone h =>
    let ⟨h1, h2⟩ := keep_cells k h.length hW hc
    .slx a sz l cs hcap hr h1 h2 hone (RepVL.keep k h)
  | _, _, .agg cs l h1 h => .agg cs l h1 (RepVL.keep k h)
  | _, _, .nilp => .nilp
theorem RepVL.keep {w : World} {W : Nat → Prop} {w' : World} {W' : Nat → Prop} (k : KeepV w W w' W') : ∀ {cs : List Value} {l : List AV}, RepVL w W cs l → RepVL w' W' cs l
  | _, _, .nil => .nil
  | _, _, .cons h t => .cons (RepV.keep k h) (RepVL.keep k t)
end

mutual
theorem Rep.keepM {E : Env} {w : World} {E' : Env} {w' : World} (k : KeepV w (EW E) w' (EW E')) (hms : ∀ (id : Nat) (m : MI), E[id]? = some m → ∃ m' : MI, E'[id]? = some m' ∧ m.gen ≤ m'.gen ∧ (m.gen = m'.gen → m'.sz = m.sz ∧ m'.place = m.place)) : ∀ {v : Value} {x : AV}, Rep w E v x → Rep w' E' v x
  | _, _, .pure h => .pure (h.keep k)
  | _, _, .rsl m h1 hm hg h => by
    obtain ⟨m', hm', hg', he⟩ := hms _ m hm
    refine .rsl m' h1 hm' (Nat.le_trans hg hg') (fun e => ?_)
    obtain ⟨e1, e2⟩ := he (by omega)
    have := h (by omega)
    unfold RslAny RslOk at *
    rw [e2, e1]; exact this
  | _, _, .ptr m h1 hm hg h => by
    obtain ⟨m', hm', hg', he⟩ := hms _ m hm
    refine .ptr m' h1 hm' (Nat.le_trans hg hg') (fun e => ?_)
    obtain ⟨e1, e2⟩ := he (by omega)
    have := h (by omega)
    rw [e2, e1]; exact this
  | _, _, .vptr a row off cs hW hc hone h =>
    let ⟨h1, h2⟩ := keep_cells k h.length hW hc
    .vptr a row off cs h1 h2 hone (h.keep k)
  | _, _, .agg cs l h1 h => .agg cs l h1 (RepL.keepM k hms h)
  | _, _, .fn f caps l hne h => .fn f caps l hne (RepL.keepM k hms h)
  | _, _, .fnb f ps caps l m hne h1 h => .fnb f ps caps l m hne (RepL.keepM k hms h1) (RepL.keepM k hms h)
  | _, _, .tup vs l h => .tup vs l (RepL.keepM k hms h)
theorem RepL.keepM {E : Env} {w : World} {E' : Env} {w' : World} (k : KeepV w (EW E) w' (EW E')) (hms : ∀ (id : Nat) (m : MI), E[id]? = some m → ∃ m' : MI, E'[id]? = some m' ∧ m.gen ≤ m'.gen ∧ (m.gen = m'.gen → m'.sz = m.sz ∧ m'.place = m.place)) : ∀ {cs : List Value} {l : List AV}, RepL w E cs l → RepL w' E' cs l
  | _, _, .nil => .nil
  | _, _, .cons h t => .cons (Rep.keepM k hms h) (RepL.keepM k hms t)
end
theorem Rep.step {E : Env} {w : World} {E' : Env} {w' : World} (s : Step E w E' w') {v : Value} {x : AV} (h : Rep w E v x) : Rep w' E' v x := Rep.keepM s.keep s.metas h
theorem RepL.step {E : Env} {w : World} {E' : Env} {w' : World} (s : Step E w E' w') {cs : List Value} {l : List AV} (h : RepL w E cs l) : RepL w' E' cs l := RepL.keepM s.keep s.metas h

theorem RepVL.toRepL {w : World} {E : Env} : ∀ {cs : List Value} {l : List AV}, RepVL w (EW E) cs l → RepL w E cs l
  | _, _, .nil => .nil
  | _, _, .cons h t => .cons (.pure h) t.toRepL

theorem RepVL.get {w : World} {W : Nat → Prop} : ∀ {cs : List Value} {l : List AV}, RepVL w W cs l → ∀ (i : Nat) (x : AV), l[i]? = some x → ∃ v, cs[i]? = some v ∧ RepV w W v x
  | _, _, .nil, i, x, h => by simp at h
  | _, _, .cons hv t, 0, x, h => by simp at h; subst h; exact ⟨_, rfl, hv⟩
  | _, _, .cons hv t, i + 1, x, h => by simp at h; obtain ⟨v, h1, h2⟩ := t.get i x h; exact ⟨v, by simpa using h1, h2⟩

theorem RepL.get {w : World} {E : Env} : ∀ {cs : List Value} {l : List AV}, RepL w E cs l → ∀ (i : Nat) (x : AV), l[i]? = some x → ∃ v, cs[i]? = some v ∧ Rep w E v x
  | _, _, .nil, i, x, h => by simp at h
  | _, _, .cons hv t, 0, x, h => by simp at h; subst h; exact ⟨_, rfl, hv⟩
  | _, _, .cons hv t, i + 1, x, h => by simp at h; obtain ⟨v, h1, h2⟩ := t.get i x h; exact ⟨v, by simpa using h1, h2⟩

theorem RepVL.take {w : World} {W : Nat → Prop} : ∀ {cs : List Value} {l : List AV}, RepVL w W cs l → ∀ n, RepVL w W (cs.take n) (l.take n)
  | _, _, .nil, n => by simp; exact .nil
  | _, _, .cons hv t, 0 => by simp; exact .nil
  | _, _, .cons hv t, n + 1 => by simp; exact .cons hv (t.take n)
theorem RepVL.drop {w : World} {W : Nat → Prop} : ∀ {cs : List Value} {l : List AV}, RepVL w W cs l → ∀ n, RepVL w W (cs.drop n) (l.drop n)
  | _, _, .nil, n => by simp; exact .nil
  | _, _, .cons hv t, 0 => by simpa using .cons hv t
  | _, _, .cons hv t, n + 1 => by simpa using t.drop n
theorem RepVL.append {w : World} {W : Nat → Prop} : ∀ {cs : List Value} {l : List AV} {ds : List Value} {k : List AV}, RepVL w W cs l → RepVL w W ds k → RepVL w W (cs ++ ds) (l ++ k)
  | _, _, _, _, .nil, h => h
  | _, _, _, _, .cons hv t, h => .cons hv (t.append h)
theorem RepL.take {w : World} {E : Env} : ∀ {cs : List Value} {l : List AV}, RepL w E cs l → ∀ n, RepL w E (cs.take n) (l.take n)
  | _, _, .nil, n => by simp; exact .nil
  | _, _, .cons hv t, 0 => by simp; exact .nil
  | _, _, .cons hv t, n + 1 => by simp; exact .cons hv (t.take n)
theorem RepL.drop {w : World} {E : Env} : ∀ {cs : List Value} {l : List AV}, RepL w E cs l → ∀ n, RepL w E (cs.drop n) (l.drop n)
  | _, _, .nil, n => by simp; exact .nil
  | _, _, .cons hv t, 0 => by simpa using .cons hv t
  | _, _, .cons hv t, n + 1 => by simpa using t.drop n
theorem RepL.append {w : World} {E : Env} : ∀ {cs : List Value} {l : List AV} {ds : List Value} {k : List AV}, RepL w E cs l → RepL w E ds k → RepL w E (cs ++ ds) (l ++ k)
  | _, _, _, _, .nil, h => h
  | _, _, _, _, .cons hv t, h => .cons hv (t.append h)

/-! ### The abstract heap -/
/-- What a map holds: keys are whole numbers, values these. -/
inductive ML where
  | int (n : Int)
  | bool (b : Bool)
def ML.v : ML → Value
  | .int n => .int .i64 n
  | .bool b => .bool b
def ML.a : ML → AV
  | .int n => .int .i64 n
  | .bool b => .bool b
structure ME where
  key : Int
  val : ML
  born : Nat
def ME.e (x : ME) : MapEntry := { key := .int .i64 x.key, val := x.val.v, born := x.born }
/-- What is no cells: a map; the walk over a map; the record of a range over a function. -/
inductive Ext where
  | map (es : List ME) (clock : Nat)
  | iter (id gen since : Nat) (seen : List Nat) (stepped : Nat)
  | loop (l : Loop)
structure Blk where
  sz : Nat
  els : List (List AV)
  gen : Nat
  wr : Bool
  pure : Bool
  full : Bool := false
  ext : Option Ext := none
abbrev AH := List Blk

def BlkOk (w : World) (E : Env) (b : Blk) (m : MI) : Prop :=
  m.gen = b.gen ∧ m.sz = b.sz ∧ m.wr = b.wr ∧ 0 < b.sz ∧ (∀ r, r ∈ b.els → r.length = b.sz) ∧
  match m.place with
  | none => b.els = []
  | some (g, c) => (b.els.length ≤ c ∧ (b.full = true → c ≤ b.els.length)) ∧ c ≤ 9223372036854775807 ∧ ∃ cur e lo hi, w.heap[g]? = some (.cells cur e (lo, hi)) ∧ cur.size = c * b.sz ∧ (cur.size ≤ lo ∨ lo = 0 ∧ hi = 0) ∧ (∀ v, v ∈ cur.toList → v.oneCell' = true) ∧
      (if b.pure then RepVL w (EW E) (cur.toList.take b.els.flatten.length) b.els.flatten else RepL w E (cur.toList.take b.els.flatten.length) b.els.flatten)

def ExtAt (w : World) (E : Env) (g : Nat) : Ext → Prop
  | .map es clock => w.heap[g]? = some (.map (es.map ME.e).toArray clock)
  | .iter id gen since seen stepped => ∃ gm, w.heap[g]? = some (.mapIter (some gm) since seen.toArray stepped) ∧ ∃ m : MI, E[id]? = some m ∧ gen ≤ m.gen ∧ (gen = m.gen → ∃ c, m.place = some (gm, c))
  | .loop l => w.heap[g]? = some (.loop l)
/-- The same of what is no cells. -/
def ExtOk (w : World) (E : Env) (b : Blk) (m : MI) (x : Ext) : Prop :=
  m.gen = b.gen ∧ m.sz = 0 ∧ b.sz = 0 ∧ m.wr = b.wr ∧ b.els = [] ∧ b.pure = false ∧ ∃ g c, m.place = some (g, c) ∧ g < w.heap.size ∧ ExtAt w E g x
def BlkAny (w : World) (E : Env) (b : Blk) (m : MI) : Prop :=
  match b.ext with
  | none => BlkOk w E b m
  | some x => ExtOk w E b m x
theorem BlkAny.of {w : World} {E : Env} {b : Blk} {m : MI} (h : BlkOk w E b m) (he : b.ext = none) : BlkAny w E b m := by
  unfold BlkAny; rw [he]; exact h
theorem BlkAny.ofExt {w : World} {E : Env} {b : Blk} {m : MI} {x : Ext} (h : ExtOk w E b m x) (he : b.ext = some x) : BlkAny w E b m := by
  unfold BlkAny; rw [he]; exact h
theorem BlkAny.cells {w : World} {E : Env} {b : Blk} {m : MI} (h : BlkAny w E b m) (he : b.ext = none) : BlkOk w E b m := by
  unfold BlkAny at h; rwa [he] at h
theorem BlkAny.isExt {w : World} {E : Env} {b : Blk} {m : MI} {x : Ext} (h : BlkAny w E b m) (he : b.ext = some x) : ExtOk w E b m x := by
  unfold BlkAny at h; rwa [he] at h
theorem BlkAny.pure {w : World} {E : Env} {b : Blk} {m : MI} (h : BlkAny w E b m) (hp : b.pure = true) : b.ext = none := by
  cases he : b.ext with
  | none => rfl
  | some x => have := (h.isExt he).2.2.2.2.2.1; rw [hp] at this; cases this
theorem BlkAny.rows {w : World} {E : Env} {b : Blk} {m : MI} (h : BlkAny w E b m) (hp : b.els ≠ []) : b.ext = none := by
  cases he : b.ext with
  | none => rfl
  | some x => exact absurd (h.isExt he).2.2.2.2.1 hp
theorem BlkAny.gens {w : World} {E : Env} {b : Blk} {m : MI} (h : BlkAny w E b m) : m.gen = b.gen ∧ m.wr = b.wr := by
  cases he : b.ext with
  | none => exact ⟨(h.cells he).1, (h.cells he).2.2.1⟩
  | some x => exact ⟨(h.isExt he).1, (h.isExt he).2.2.2.1⟩
theorem BlkOk.pos {w : World} {E : Env} {b : Blk} {m : MI} (h : BlkOk w E b m) : 0 < m.sz := by rw [h.2.1]; exact h.2.2.2.1

structure Rel (σ : AH) (E : Env) (w : World) : Prop where
  len : E.length = σ.length
  base : Zone.base ≤ w.heap.size
  fresh : ∀ (id : Nat) (m : MI) (g c : Nat), E[id]? = some m → m.place = some (g, c) → Zone.base ≤ g
  blk : ∀ (id : Nat) (b : Blk), σ[id]? = some b → ∃ m : MI, E[id]? = some m ∧ BlkAny w E b m
  inj : ∀ (id id' : Nat) (m m' : MI) (g c c' : Nat), id ≠ id' → E[id]? = some m → E[id']? = some m' → m.wr = true → m.place = some (g, c) → m'.place = some (g, c') → False

end

/-! ### Without the marks of what is new -/
mutual
def untag : AV → AV
  | .sl sz l _ => .sl sz (untagLL l) false
  | .slx sz l => .slx sz (untagLL l)
  | .agg l => .agg (untagL l)
  | x => x
def untagL : List AV → List AV
  | [] => []
  | x :: r => untag x :: untagL r
def untagLL : List (List AV) → List (List AV)
  | [] => []
  | x :: r => untagL x :: untagLL r
end

theorem untagL_append (a b : List AV) : untagL (a ++ b) = untagL a ++ untagL b := by
  induction a with
  | nil => rfl
  | cons x r ih => simp [untagL, ih]
theorem untagLL_flatten (l : List (List AV)) : (untagLL l).flatten = untagL l.flatten := by
  induction l with
  | nil => rfl
  | cons x r ih => simp [untagLL, untagL_append, ih]
theorem untagL_length (l : List AV) : (untagL l).length = l.length := by
  induction l with
  | nil => rfl
  | cons x r ih => simp [untagL, ih]
theorem untagLL_length (l : List (List AV)) : (untagLL l).length = l.length := by
  induction l with
  | nil => rfl
  | cons x r ih => simp [untagLL, ih]
theorem untagLL_rows {l : List (List AV)} {sz : Nat} (h : ∀ r, r ∈ l → r.length = sz) : ∀ r, r ∈ untagLL l → r.length = sz := by
  induction l with
  | nil => intro r hr; simp [untagLL] at hr
  | cons x t ih =>
    intro r hr
    simp only [untagLL, List.mem_cons] at hr
    rcases hr with rfl | hr
    · rw [untagL_length]; exact h x (by simp)
    · exact ih (fun r hr => h r (by simp [hr])) r hr
theorem untagL_nil {l : List AV} : untagL l = [] ↔ l = [] := by cases l <;> simp [untagL]

mutual
theorem RepV.untag {z' z : Zone} {w : World} {W W' : Nat → Prop} (hW' : ∀ g, W' g → W g) : ∀ {v : Value} {x : AV}, @RepV z w W v x → @RepV z' w W' v (V.untag x)
  | _, _, .any v h1 => @RepV.any z' w W' v h1
  | _, _, .int a n => @RepV.int z' w W' a n
  | _, _, .bool b => @RepV.bool z' w W' b
  | _, _, .str b s h => @RepV.str z' w W' b s h
  | _, _, .nils => @RepV.nils z' w W'
  | _, _, .slnil sz fr => @RepV.slnil z' w W' sz false
  | _, _, .sl a cap sz l fr cs hB hlen hcap hr hW hc hone h => by
    have h2 := RepVL.untag (z := z) (z' := z') hW' h
    rw [← untagLL_flatten] at h2
    have := @RepV.sl z' w W' a cap sz (untagLL l) false cs (fun q => by cases q) (by rw [untagLL_length]; exact hlen) hcap (untagLL_rows hr) (fun hne q => hW (fun e => hne (by rw [untagLL_flatten, e]; rfl)) (hW' _ q)) hc hone h2
    rw [untagLL_length] at this
    exact this
  | _, _, .slxnil sz => @RepV.slxnil z' w W' sz
  | _, _, .slx a sz l cs hcap hr hW hc hone h => by
    have h2 := RepVL.untag (z := z) (z' := z') hW' h
    rw [← untagLL_flatten] at h2
    have := @RepV.slx z' w W' a sz (untagLL l) cs (by rw [untagLL_length]; exact hcap) (untagLL_rows hr) (fun hne q => hW (fun e => hne (by rw [untagLL_flatten, e]; rfl)) (hW' _ q)) hc hone h2
    rw [untagLL_length] at this
    exact this
  | _, _, .agg cs l h1 h => @RepV.agg z' w W' cs (untagL l) h1 (RepVL.untag hW' h)
  | _, _, .nilp => @RepV.nilp z' w W'
theorem RepVL.untag {z' z : Zone} {w : World} {W W' : Nat → Prop} (hW' : ∀ g, W' g → W g) : ∀ {cs : List Value} {l : List AV}, @RepVL z w W cs l → @RepVL z' w W' cs (untagL l)
  | _, _, .nil => @RepVL.nil z' w W'
  | _, _, .cons h t => @RepVL.cons z' w W' _ _ _ _ (RepV.untag hW' h) (RepVL.untag hW' t)
end

end Go.Proofs.Ytppccaacbpkgiaa.V
