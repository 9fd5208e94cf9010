/-
  VC: which instruction an operation of the program is, and that a read-only instruction's precondition tells what the machine does.
-/
import Derived.Test.YtppccaacbpkgiaaVB
import Derived.Deep.MidRow
import Derived.Laws.BytesString
import Derived.Laws.Slices
namespace Go.Proofs.Ytppccaacbpkgiaa.V
open Go Go.RowKit
variable [Zone]

omit [Zone] in
theorem one_slice (a : Option Addr) (n c : Nat) : (Value.slice a n c).oneCell' = true := rfl

theorem Rep.one {w : World} {E : Env} {v : Value} {x : AV} (h : Rep w E v x) (hx : x.okCells = true) (ha : ∀ l, x ≠ .agg l) : v.oneCell' = true := by
  cases h with
  | pure h => cases h <;> first | rfl | assumption | exact absurd rfl (ha _)
  | rsl _ h1 => exact h1
  | ptr _ h1 => exact h1
  | vptr => rfl
  | agg => exact absurd rfl (ha _)
  | fn => rfl
  | fnb => rfl
  | tup => cases hx

/-- A value's cells. -/
theorem Rep.cells {w : World} {E : Env} {v : Value} {x : AV} (h : Rep w E v x) (hx : x.okCells = true) : RepL w E v.cells.toList x.cells ∧ ∀ u, u ∈ v.cells.toList → u.oneCell' = true := by
  by_cases ha : ∃ l, x = .agg l
  · obtain ⟨l, rfl⟩ := ha
    cases h with
    | pure h => cases h with | agg cs _ h1 h => exact ⟨h.toRepL, h1⟩
    | agg cs _ h1 h => exact ⟨h, h1⟩
  · have hna : ∀ l, x ≠ .agg l := fun l q => ha ⟨l, q⟩
    have h1 := h.one hx hna
    have e1 : v.cells = #[v] := by
      cases v <;> first | rfl | (cases h1)
    have e2 : x.cells = [x] := by
      cases x <;> first | rfl | exact absurd rfl (hna _)
    rw [e1, e2]
    exact ⟨.cons h .nil, by intro u hu; simp at hu; subst hu; exact h1⟩

/-! ### From the program's operations to instructions -/
def absC : Value → Option AV
  | .int k n => some (.int k n)
  | .bool b => some (.bool b)
  | .string s => some (.str s.data.toList)
  | .pointer none => some .nilp
  | .slice none 0 0 => some .nils
  | .nilFunc => some .any
  | .map none => some .any
  | _ => none

def absCs : List Value → Option (List AV)
  | [] => some []
  | v :: r => match absC v, absCs r with
    | some x, some xs => some (x :: xs)
    | _, _ => none

def absV : Value → Option AV
  | .agg cs => (absCs cs.toList).map .agg
  | .tuple vs => if vs.size = 0 then some (.tup []) else none
  | v => absC v

def cOpd : Operand → Option Opd
  | .tmp t => some (.t t)
  | .const v => (absV v).map .c
  | .func f => if f = yno then none else some (.c (.fn f []))
  | .global _ => none

def cOpds : List Operand → Option (List Opd)
  | [] => some []
  | x :: r => match cOpd x, cOpds r with
    | some y, some ys => some (y :: ys)
    | _, _ => none

def cOpdO : Option Operand → Option (Option Opd)
  | none => some none
  | some x => (cOpd x).map some

def rowT (P : Program) (t : TypeId) : Option Bool := (P.underlying t).map fun d => d.isRow
def szT (P : Program) (t : TypeId) : Option Nat := (P.info? t).map (·.size)

def fldT (P : Program) (s : TypeId) (f : Nat) : Option (Nat × Nat × TypeId) :=
  match P.underlying s with
  | some (.struct fs) => match fs[f]? with
    | some d => (szT P d.type).map fun n => (d.offset, n, d.type)
    | none => none
  | _ => none

def zeroT (P : Program) (t : TypeId) : Option (List AV) :=
  match (P.info? t).bind (·.zero) with
  | some v => match absV v with
    | some x => if x.okCells then some x.cells else none
    | none => none
  | none => none

/-- Where a struct's fields, an array's elements lie. -/
inductive Places where
  | flds (l : List (Nat × Nat))
  | elems (n : Nat)

def Places.at (p : Places) (i : Nat) : Option (Nat × Nat) :=
  match p with
  | .flds l => l.toArray[i]?
  | .elems n => some (i * n, n)

def placesT (P : Program) (t : TypeId) : Option Places :=
  match P.underlying t with
  | some (.struct fs) => (fs.toList.mapM (fun f => (P.info? f.type).map fun i => (f.offset, i.size))).map .flds
  | some (.array _ e) => (P.info? e).map fun i => .elems i.size
  | _ => none

def cParts (p : Places) : List (Nat × Operand) → Option (List (Nat × Nat × Opd))
  | [] => some []
  | (i, x) :: r => match p.at i, cOpd x, cParts p r with
    | some (off, n), some y, some ys => some ((off, n, y) :: ys)
    | _, _, _ => none

def isNilP : Operand → Bool
  | .const (.pointer none) => true
  | _ => false
def isNilC : Operand → Bool
  | .const (.slice none 0 0) => true
  | _ => false

def fieldK (P : Program) (t : TypeId) : Option Nat :=
  match P.underlying t with
  | some (.int _) => some 0
  | some .bool => some 1
  | some .string => some 2
  | _ => none
def scalF (P : Program) : Nat → List Field → Option (List Nat)
  | _, [] => some []
  | i, f :: r => match decide (f.offset = i ∧ f.name ≠ "_"), fieldK P f.type, rowT P f.type, scalF P (i + 1) r with
    | true, some k, some false, some ks => some (k :: ks)
    | _, _, _, _ => none
/-- The kinds of a field's cells: a scalar's, or those of a struct of scalars. -/
def fieldKs (P : Program) (t : TypeId) : Option (List Nat) :=
  match P.underlying t with
  | some (.struct fs) => match scalF P 0 fs.toList, P.stoodInHeld t, szT P t with
    | some ks, false, some n => if n = ks.length then some ks else none
    | _, _, _ => none
  | _ => match fieldK P t, rowT P t with
    | some k, some false => some [k]
    | _, _ => none
def scalF2 (P : Program) : Nat → List Field → Option (List Nat)
  | _, [] => some []
  | i, f :: r => match decide (f.offset = i ∧ f.name ≠ "_"), fieldKs P f.type with
    | true, some ks => match scalF2 P (i + ks.length) r with
      | some ks2 => some (ks ++ ks2)
      | none => none
    | _, _ => none
def eqT (P : Program) (t : TypeId) (fs : Array Field) : Option (List Nat) :=
  match scalF2 P 0 fs.toList, P.stoodInHeld t, P.eqGuardType P.depth t with
  | some ks, false, false => some ks
  | _, _, _ => none

def cBin (P : Program) (op : BinOp) (t : TypeId) (x y : Operand) : Option RI :=
  match P.underlying t with
  | some (.int _) => match cOpd x, cOpd y with
    | some a, some b => some (.bin op a b)
    | _, _ => none
  | some .bool => match cOpd x, cOpd y with
    | some a, some b => some (.binb op a b)
    | _, _ => none
  | some .string => match cOpd x, cOpd y with
    | some a, some b => some (.bins op a b)
    | _, _ => none
  | some (.slice _) =>
    if isNilC y then match cOpd x with
      | some a => if op = .eql then some (.eqnil false a) else if op = .neq then some (.eqnil true a) else none
      | none => none
    else none
  | some (.pointer _) =>
    if isNilP y then match cOpd x with
      | some a => if op = .eql then some (.eqnilp false a) else if op = .neq then some (.eqnilp true a) else none
      | none => none
    else none
  | some (.struct fs) => match cOpd x, cOpd y, eqT P t fs with
    | some a, some b, some ks => if op = .eql then some (.eqagg false ks a b) else if op = .neq then some (.eqagg true ks a b) else none
    | _, _, _ => none
  | _ => none

def cConv (P : Program) (s d : TypeId) (x : Operand) : Option RI :=
  match P.underlying s, P.underlying d, cOpd x with
  | some (.int _), some (.int k), some a => some (.conv k a)
  | some (.slice e), some .string, some a => match P.underlying e, szT P e with
    | some (.int .u8), some 1 => some (.b2s a)
    | _, _ => none
  | _, _, _ => none

def cRI (P : Program) : Op → Option RI
  | .move x => (cOpd x).map .mv
  | .assign x => (cOpd x).map .mv
  | .pick c a b => match cOpd c, cOpd a, cOpd b with
    | some c, some a, some b => some (.pick c a b)
    | _, _, _ => none
  | .binOp op t x y _ => cBin P op t x y
  | .unOp op _ x => (cOpd x).map (.un op)
  | .convert s d x => cConv P s d x
  | .field s x f => match fldT P s f, cOpd x with
    | some (off, n, t), some a => (rowT P t).map fun g => .fld g off n a
    | _, _ => none
  | .fieldAddr s x f => match fldT P s f, cOpd x with
    | some (off, n, _), some a => if n = 0 then none else some (.faddr off a)
    | _, _ => none
  | .indexAddr t x i => match P.underlying t, cOpd x, cOpd i with
    | some (.slice e), some a, some b => (szT P e).map fun n => .iaddr n a b
    | some (.array m e), some a, some b => (szT P e).map fun n => .iaddrA m n a b
    | _, _, _ => none
  | .index t x i => match P.underlying t, cOpd x, cOpd i with
    | some (.array m e), some a, some b => match szT P e, rowT P e with
      | some n, some g => if g || n == 1 then some (.idxA g m n a b) else none
      | _, _ => none
    | some .string, some a, some b => some (.idxS a b)
    | _, _, _ => none
  | .slice t x lo hi mx => match P.underlying t, cOpd x, cOpdO lo, cOpdO hi, cOpdO mx with
    | some (.slice e), some a, some l, some h, some m => (szT P e).map fun n => .slice n a l h m
    | some .string, some a, some l, some h, some none => some (.sliceS a l h)
    | _, _, _, _, _ => none
  | .load t a => match cOpd a, szT P t, rowT P t with
    | some x, some n, some g => if g || n == 1 then some (.load g n x) else none
    | _, _, _ => none
  | .extract x i => (cOpd x).map (.ext i)
  | .build t parts => match zeroT P t, placesT P t with
    | some z, some pl => (cParts pl parts.toList).map (.build z)
    | _, _ => none
  | .nilCheck x => (cOpd x).map .nilchk
  | .makeFunc (.func f) first caps => if f ≠ yno then (if first.size = 0 then (cOpds caps.toList).map (.mkfn f) else match cOpds first.toList, cOpds caps.toList with | some l, some m => some (.mkfnb f l m) | _, _ => none) else none
  | .call { callee := .builtin .len, args := args, argTypes := ts } => match args.toList, ts[0]? with
    | [x], some t => match P.underlying t, cOpd x with
      | some (.slice _), some a => some (.len a)
      | some .string, some a => some (.lenS a)
      | _, _ => none
    | _, _ => none
  | .call { callee := .builtin .cap, args := args, argTypes := ts } => match args.toList, ts[0]? with
    | [x], some t => match P.underlying t, cOpd x with
      | some (.slice _), some a => some (.cap a)
      | _, _ => none
    | _, _ => none
  | .call { callee := .builtin .min, args := args, argTypes := _ } => match cOpds args.toList with
    | some [x, y] => some (.mn x y)
    | _ => none
  | .call { callee := .builtin .max, args := args, argTypes := _ } => match cOpds args.toList with
    | some [x, y] => some (.mx x y)
    | _ => none
  | _ => none

/-! ### Memory -/
omit [Zone] in
theorem flatten_len {α : Type} {l : List (List α)} {sz : Nat} (h : ∀ r, r ∈ l → r.length = sz) : l.flatten.length = l.length * sz := by
  induction l with
  | nil => simp
  | cons r t ih =>
    simp only [List.flatten_cons, List.length_append, List.length_cons]
    rw [ih (fun r hr => h r (by simp [hr])), h r (by simp), Nat.add_mul]; omega

omit [Zone] in
theorem flatten_drop {α : Type} {l : List (List α)} {sz : Nat} (h : ∀ r, r ∈ l → r.length = sz) (n : Nat) : (l.drop n).flatten = l.flatten.drop (n * sz) := by
  induction l generalizing n with
  | nil => simp
  | cons r t ih =>
    cases n with
    | zero => simp
    | succ n =>
      simp only [List.drop_succ_cons, List.flatten_cons]
      rw [ih (fun r hr => h r (by simp [hr])), List.drop_append, List.drop_eq_nil_of_le (as := r) (by rw [h r (by simp), Nat.add_mul]; omega), h r (by simp), List.nil_append, Nat.add_mul]
      congr 1
      omega

omit [Zone] in
theorem flatten_take {α : Type} {l : List (List α)} {sz : Nat} (h : ∀ r, r ∈ l → r.length = sz) (n : Nat) : (l.take n).flatten = l.flatten.take (n * sz) := by
  induction l generalizing n with
  | nil => simp
  | cons r t ih =>
    cases n with
    | zero => simp
    | succ n =>
      simp only [List.take_succ_cons, List.flatten_cons]
      rw [ih (fun r hr => h r (by simp [hr])), List.take_append, List.take_of_length_le (l := r) (by rw [h r (by simp), Nat.add_mul]; omega), h r (by simp)]
      congr 2
      rw [Nat.add_mul]; omega

omit [Zone] in
theorem flatten_row {α : Type} {l : List (List α)} {sz : Nat} (h : ∀ r, r ∈ l → r.length = sz) {i : Nat} {row : List α} (hi : l[i]? = some row) : (l.flatten.drop (i * sz)).take sz = row := by
  have hlt : i < l.length := (List.getElem?_eq_some_iff.1 hi).1
  have e : ((l.drop i).take 1).flatten = row := by
    have hd : (l.drop i).take 1 = [row] := by
      rw [List.drop_eq_getElem_cons hlt, List.take_succ_cons, List.take_zero, (List.getElem?_eq_some_iff.1 hi).2]
    rw [hd]; simp
  rw [← e, flatten_take (sz := sz) (fun r hr => h r (List.mem_of_mem_drop hr)), flatten_drop h]
  simp

/-- What the machine shows from an address on. -/
def Shows (w : World) (a : Addr) (cs : List Value) : Prop := ∀ j u, cs[j]? = some u → w.cell? (a.add j) = some u

omit [Zone] in
theorem Shows.drop {w : World} {a : Addr} {cs : List Value} (h : Shows w a cs) (n : Nat) : Shows w (a.add n) (cs.drop n) := by
  intro j u hj
  rw [List.getElem?_drop] at hj
  have := h _ _ hj
  have e : (a.add n).add j = a.add (n + j) := by
    unfold Addr.add
    by_cases h1 : n = 0 <;> by_cases h2 : j = 0 <;> simp [h1, h2, Nat.add_assoc]
  rw [e]; exact this
omit [Zone] in
theorem Shows.take {w : World} {a : Addr} {cs : List Value} (h : Shows w a cs) (n : Nat) : Shows w a (cs.take n) := by
  intro j u hj
  rw [List.getElem?_take] at hj
  split at hj
  · exact h _ _ hj
  · cases hj

def Old (w w' : World) : Prop := ∀ g, g < w.heap.size → w'.heap[g]? = w.heap[g]?
omit [Zone] in
theorem Old.refl (w : World) : Old w w := fun _ _ => rfl
omit [Zone] in
theorem Old.cell {w w' : World} (h : Old w w') {a : Addr} {v : Value} (hc : w.cell? a = some v) : w'.cell? a = some v := by
  rw [World.cell?_of_block (h _ (block_lt hc))]; exact hc
omit [Zone] in
theorem Shows.old {w w' : World} {a : Addr} {cs : List Value} (h : Shows w a cs) (ho : Old w w') : Shows w' a cs := fun j u hj => ho.cell (h j u hj)

omit [Zone] in
theorem add_add (a : Addr) (m n : Nat) : (a.add m).add n = a.add (m + n) := by
  unfold Addr.add
  by_cases h1 : m = 0 <;> by_cases h2 : n = 0 <;> simp [h1, h2, Nat.add_assoc]
omit [Zone] in
theorem add_lit (b o n : Nat) : (⟨b, o, none⟩ : Addr).add n = ⟨b, o + n, none⟩ := by
  unfold Addr.add; split <;> simp_all

/-- The cells of a variable: by reference or by value. -/
structure CellsAt (w : World) (E : Env) (a : Addr) (row : List AV) (cs : List Value) : Prop where
  shows : Shows w a cs
  one : ∀ v, v ∈ cs → v.oneCell' = true
  rep : RepL w E cs row

theorem CellsAt.drop {w : World} {E : Env} {a : Addr} {row : List AV} {cs : List Value} (h : CellsAt w E a row cs) (n : Nat) : CellsAt w E (a.add n) (row.drop n) (cs.drop n) :=
  ⟨h.shows.drop n, fun v hv => h.one v (List.mem_of_mem_drop hv), h.rep.drop n⟩
theorem CellsAt.take {w : World} {E : Env} {a : Addr} {row : List AV} {cs : List Value} (h : CellsAt w E a row cs) (n : Nat) : CellsAt w E a (row.take n) (cs.take n) :=
  ⟨h.shows.take n, fun v hv => h.one v (List.mem_of_mem_take hv), h.rep.take n⟩

/-- The rows of a block, from one on. -/
theorem blk_rows {w : World} {E : Env} {b : Blk} {m : MI} (h : BlkOk w E b m) {g c : Nat} (hp : m.place = some (g, c)) (off n : Nat) (_hn : off + n ≤ b.els.length) :
    ∃ cs, CellsAt w E ⟨g, off * b.sz, none⟩ ((b.els.drop off).take n).flatten cs ∧ (b.pure = true → RepVL w (EW E) cs ((b.els.drop off).take n).flatten) := by
  obtain ⟨_, _, _, _, hr, h2⟩ := h
  rw [hp] at h2
  obtain ⟨hlc, _, cur, e, lo, hi, hh, hsz, _, h1, h3⟩ := h2
  have hfl := flatten_len hr
  have e1 : ((b.els.drop off).take n).flatten = (b.els.flatten.drop (off * b.sz)).take (n * b.sz) := by
    rw [flatten_take (sz := b.sz) (fun r hr' => hr r (List.mem_of_mem_drop hr')), flatten_drop hr]
  refine ⟨((cur.toList.take b.els.flatten.length).drop (off * b.sz)).take (n * b.sz), ⟨?_, ?_, ?_⟩, ?_⟩
  · intro j u hj
    rw [List.getElem?_take] at hj
    split at hj
    · rw [List.getElem?_drop, List.getElem?_take] at hj
      split at hj
      · rw [add_lit]
        simp only [World.cell?, hh]
        simpa using hj
      · cases hj
    · cases hj
  · intro v hv
    exact h1 v (List.mem_of_mem_take (List.mem_of_mem_drop (List.mem_of_mem_take hv)))
  · rw [e1]
    split at h3
    · exact ((h3.toRepL).drop _).take _
    · exact (h3.drop _).take _
  · intro hpu
    rw [e1]
    rw [if_pos hpu] at h3
    exact (h3.drop _).take _

theorem blk_row {w : World} {E : Env} {b : Blk} {m : MI} (h : BlkOk w E b m) {g c : Nat} (hp : m.place = some (g, c)) {i : Nat} {row : List AV} (hi : b.els[i]? = some row) :
    ∃ cs, CellsAt w E ⟨g, i * b.sz, none⟩ row cs := by
  have hlt : i < b.els.length := (List.getElem?_eq_some_iff.1 hi).1
  obtain ⟨cs, hcs, _⟩ := blk_rows h hp i 1 (by omega)
  have hd : (b.els.drop i).take 1 = [row] := by
    rw [List.drop_eq_getElem_cons hlt, List.take_succ_cons, List.take_zero, (List.getElem?_eq_some_iff.1 hi).2]
  rw [hd] at hcs
  exact ⟨cs, by simpa using hcs⟩

theorem blkAt_elim {σ : AH} {E : Env} {w : World} (hr : Rel σ E w) {id gen : Nat} {K : Blk → Prop} (h : blkAt σ id gen K) : ∃ b m, σ[id]? = some b ∧ E[id]? = some m ∧ BlkOk w E b m ∧ b.gen = gen ∧ m.gen = gen ∧ b.ext = none ∧ K b := by
  replace h := h.ok
  unfold blkD at h
  split at h
  · rename_i b hb
    obtain ⟨m, hm, hok⟩ := hr.blk id b hb
    have hok := hok.cells h.2.1
    exact ⟨b, m, hb, hm, hok, h.1, hok.1.trans h.1, h.2.1, h.2.2⟩
  · exact h.elim

/-! ### What a value is, from what is told of it -/
theorem Rep.int_inv {w : World} {E : Env} {v : Value} {k : IntKind} {n : Int} (h : Rep w E v (.int k n)) : v = .int k n := by
  cases h with | pure h => cases h; rfl
theorem Rep.bool_inv {w : World} {E : Env} {v : Value} {b : Bool} (h : Rep w E v (.bool b)) : v = .bool b := by
  cases h with | pure h => cases h; rfl
theorem Rep.str_inv {w : World} {E : Env} {v : Value} {s : List UInt8} (h : Rep w E v (.str s)) : ∃ b : ByteArray, v = .string b ∧ b.data.toList = s := by
  cases h with | pure h => cases h with | str b _ h => exact ⟨b, rfl, h⟩
theorem Rep.agg_inv {w : World} {E : Env} {v : Value} {l : List AV} (h : Rep w E v (.agg l)) : ∃ cs : Array Value, v = .agg cs ∧ (∀ u, u ∈ cs.toList → u.oneCell' = true) ∧ RepL w E cs.toList l := by
  cases h with
  | pure h => cases h with | agg cs _ h1 h => exact ⟨cs, rfl, h1, h.toRepL⟩
  | agg cs _ h1 h => exact ⟨cs, rfl, h1, h⟩
theorem Rep.tup_inv {w : World} {E : Env} {v : Value} {l : List AV} (h : Rep w E v (.tup l)) : ∃ vs : Array Value, v = .tuple vs ∧ RepL w E vs.toList l := by
  cases h with
  | pure h => cases h
  | tup vs _ h => exact ⟨vs, rfl, h⟩
theorem Rep.fn_inv {w : World} {E : Env} {v : Value} {f : Nat} {l : List AV} (h : Rep w E v (.fn f l)) : ∃ cs : Array Value, v = .func (.func f) #[] cs ∧ RepL w E cs.toList l := by
  cases h with
  | pure h => cases h
  | fn _ cs _ _ h => exact ⟨cs, rfl, h⟩
theorem Rep.fnb_inv {w : World} {E : Env} {v : Value} {f : Nat} {l m : List AV} (h : Rep w E v (.fnb f l m)) : f ≠ yno ∧ ∃ ps cs : Array Value, v = .func (.func f) ps cs ∧ RepL w E ps.toList l ∧ RepL w E cs.toList m := by
  cases h with
  | pure h => cases h
  | fnb _ ps cs _ _ hne h1 h => exact ⟨hne, ps, cs, rfl, h1, h⟩
theorem Rep.fn_ne {w : World} {E : Env} {v : Value} {f : Nat} {l : List AV} (h : Rep w E v (.fn f l)) : f ≠ yno := by
  cases h with
  | pure h => cases h
  | fn _ cs _ hne h => exact hne
theorem Rep.yield_inv {w : World} {E : Env} {v : Value} {id : Nat} (h : Rep w E v (.rsl id 0 1 0 none)) {m : MI} {g c : Nat} (hm : E[id]? = some m) (hg : m.gen = 0) (hs : m.sz = 0) (hp : m.place = some (g, c)) : v = .func (.yield g) #[] #[] := by
  cases h with
  | pure h => cases h
  | rsl m' _ hm' _ q =>
    rw [hm] at hm'; cases hm'
    have q2 := q hg.symm
    unfold RslAny at q2
    rw [if_pos hs] at q2
    obtain ⟨g', c', q3, q4⟩ := q2
    rw [hp] at q3; cases q3
    simpa using q4
theorem Rep.nils_inv {w : World} {E : Env} {v : Value} (h : Rep w E v .nils) : v = .slice none 0 0 := by
  cases h with | pure h => cases h; rfl
theorem Rep.nilp_inv {w : World} {E : Env} {v : Value} (h : Rep w E v .nilp) : v = .pointer none := by
  cases h with | pure h => cases h; rfl
theorem Rep.rsl_inv {w : World} {E : Env} {v : Value} {id gen off len : Nat} {cap : Option Nat} (h : Rep w E v (.rsl id gen off len cap)) {m : MI} (hm : E[id]? = some m) (hg : m.gen = gen) (h0 : 0 < m.sz) : RslOk m off len cap v := by
  cases h with
  | pure h => cases h
  | rsl m' _ hm' _ h => rw [hm] at hm'; cases hm'; exact (h hg.symm).cells h0
theorem Rep.ptr_inv {w : World} {E : Env} {v : Value} {id gen idx off : Nat} (h : Rep w E v (.ptr id gen idx off)) {m : MI} (hm : E[id]? = some m) (hg : m.gen = gen) :
    ∃ g c, m.place = some (g, c) ∧ v = .pointer (some ⟨g, idx * m.sz + off, none⟩) := by
  cases h with
  | pure h => cases h
  | ptr m' _ hm' _ h => rw [hm] at hm'; cases hm'; exact h hg.symm
theorem Rep.vptr_inv {w : World} {E : Env} {v : Value} {row : List AV} {off : Nat} (h : Rep w E v (.vptr row off)) :
    ∃ a cs, v = .pointer (some (a.add off)) ∧ CellsAt w E a row cs ∧ (row ≠ [] → ¬ EW E a.block) ∧ RepVL w (EW E) cs row := by
  cases h with
  | pure h => cases h
  | vptr a _ _ cs hW hc h1 h => exact ⟨a, cs, rfl, ⟨hc, h1, h.toRepL⟩, hW, h⟩
/-- A slice by value. -/
theorem Rep.sl_inv {w : World} {E : Env} {v : Value} {sz : Nat} {l : List (List AV)} {nn : Bool} (h : Rep w E v (.sl sz l nn)) :
    (v = .slice none 0 0 ∧ l = []) ∨ ∃ a cap cs, v = .slice (some a) l.length cap ∧ l.length ≤ cap ∧ cap ≤ 9223372036854775807 ∧ (∀ r, r ∈ l → r.length = sz) ∧ CellsAt w E a l.flatten cs ∧ (l.flatten ≠ [] → ¬ EW E a.block) ∧ RepVL w (EW E) cs l.flatten ∧ (nn = true → l.flatten ≠ [] → Zone.base ≤ a.block) := by
  cases h with
  | pure h => cases h with
    | slnil _ => exact .inl ⟨rfl, rfl⟩
    | sl a cap _ _ _ cs hB hlen hcap hr hW hc h1 h => exact .inr ⟨a, cap, cs, rfl, hlen, hcap, hr, ⟨hc, h1, h.toRepL⟩, hW, h, hB⟩
theorem Rep.slx_inv {w : World} {E : Env} {v : Value} {sz : Nat} {l : List (List AV)} (h : Rep w E v (.slx sz l)) :
    (v = .slice none 0 0 ∧ l = []) ∨ ∃ a cs, v = .slice (some a) l.length l.length ∧ l.length ≤ 9223372036854775807 ∧ (∀ r, r ∈ l → r.length = sz) ∧ CellsAt w E a l.flatten cs ∧ (l.flatten ≠ [] → ¬ EW E a.block) ∧ RepVL w (EW E) cs l.flatten := by
  cases h with
  | pure h => cases h with
    | slxnil _ => exact .inl ⟨rfl, rfl⟩
    | slx a _ _ cs hcap hr hW hc h1 h => exact .inr ⟨a, cs, rfl, hcap, hr, ⟨hc, h1, h.toRepL⟩, hW, h⟩

/-! ### Operands -/
def FrOk (w : World) (E : Env) (fr : Fr) (a : Act) : Prop := ∀ n x, fr.get n = some x → Rep w E (a.tmps.getD n undef) x

theorem absC_rep (w : World) (W : Nat → Prop) {v : Value} {x : AV} (h : absC v = some x) : RepV w W v x ∧ v.oneCell' = true := by
  unfold absC at h
  split at h <;> cases h <;> first | exact ⟨.int _ _, rfl⟩ | exact ⟨.bool _, rfl⟩ | exact ⟨.str _ _ rfl, rfl⟩ | exact ⟨.nilp, rfl⟩ | exact ⟨.nils, rfl⟩ | exact ⟨.any _ rfl, rfl⟩

theorem absCs_rep (w : World) (W : Nat → Prop) : ∀ {vs : List Value} {xs : List AV}, absCs vs = some xs → RepVL w W vs xs ∧ ∀ v, v ∈ vs → v.oneCell' = true
  | [], xs, h => by simp [absCs] at h; subst h; exact ⟨.nil, by simp⟩
  | v :: vs, xs, h => by
    simp only [absCs] at h
    split at h
    · rename_i x xs' h1 h2
      cases h
      obtain ⟨a1, a2⟩ := absC_rep w W h1
      obtain ⟨b1, b2⟩ := absCs_rep w W h2
      exact ⟨.cons a1 b1, by
        intro u hu
        rcases List.mem_cons.1 hu with rfl | hu
        · exact a2
        · exact b2 u hu⟩
    · cases h

theorem absV_rep (w : World) (E : Env) {v : Value} {x : AV} (h : absV v = some x) : Rep w E v x := by
  unfold absV at h
  split at h
  · rename_i cs
    obtain ⟨xs, hxs, rfl⟩ := Option.map_eq_some_iff.1 h
    obtain ⟨a1, a2⟩ := absCs_rep w (EW E) hxs
    exact .pure (.agg _ _ a2 a1)
  · rename_i vs
    split at h
    · rename_i h0
      cases h
      refine .tup vs [] ?_
      have : vs.toList = [] := by
        apply List.eq_nil_of_length_eq_zero
        simpa using h0
      rw [this]; exact .nil
    · cases h
  · exact .pure (absC_rep w _ h).1

theorem ev_ok {w : World} {E : Env} {fr : Fr} {a : Act} (hf : FrOk w E fr a) {x : Operand} {y : Opd} (hc : cOpd x = some y) {z : AV} (h : ev fr y = some z) : Rep w E (a.eval x) z := by
  cases x with
  | tmp t => simp [cOpd] at hc; subst hc; exact hf t z h
  | const v =>
    simp only [cOpd, Option.map_eq_some_iff] at hc
    obtain ⟨x', hx', rfl⟩ := hc
    simp [ev] at h; subst h
    exact absV_rep w E hx'
  | func f =>
    simp only [cOpd] at hc
    split at hc
    · cases hc
    · rename_i hne
      cases hc
      simp [ev] at h; subst h
      exact .fn f #[] [] hne .nil
  | «global» g => simp [cOpd] at hc

theorem evs_ok {w : World} {E : Env} {fr : Fr} {a : Act} (hf : FrOk w E fr a) : ∀ {xs : List Operand} {ys : List Opd}, cOpds xs = some ys → ∀ {zs : List AV}, evs fr ys = some zs → RepL w E (xs.map a.eval) zs
  | [], ys, hc, zs, h => by simp [cOpds] at hc; subst hc; simp [evs] at h; subst h; exact .nil
  | x :: xs, ys, hc, zs, h => by
    simp only [cOpds] at hc
    split at hc
    · rename_i y ys' h1 h2
      cases hc
      simp only [evs] at h
      split at h
      · rename_i z zs' h3 h4
        cases h
        exact .cons (ev_ok hf h1 h3) (evs_ok hf h2 h4)
      · cases h
    · cases hc

theorem evR_ok {w : World} {E : Env} {fr : Fr} {a : Act} (hf : FrOk w E fr a) {x : Operand} {y : Opd} (hc : cOpd x = some y) {K : AV → Prop} (h : evR fr y K) : ∃ z, Rep w E (a.eval x) z ∧ K z := by
  unfold evR at h
  split at h
  · rename_i z hz; exact ⟨z, ev_ok hf hc hz, h⟩
  · exact h.elim

theorem intR_ok {w : World} {E : Env} {fr : Fr} {a : Act} (hf : FrOk w E fr a) {x : Operand} {y : Opd} (hc : cOpd x = some y) {K : Int → Prop} (h : intR fr y K) : ∃ k n, a.eval x = .int k n ∧ K n := by
  unfold intR at h
  split at h
  · rename_i k n hz; exact ⟨k, n, (ev_ok hf hc hz).int_inv, h⟩
  · exact h.elim

end Go.Proofs.Ytppccaacbpkgiaa.V
