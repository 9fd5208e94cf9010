/-
  VB: a small instruction language over abstract values, and what each instruction asks and leaves: the abstract weakest precondition, as a proposition that simp works out. Nothing of the machine is in this text.
-/
import Derived.Test.YtppccaacbpkgiaaVA
namespace Go.Proofs.Ytppccaacbpkgiaa.V
open Go Go.RowKit

inductive Opd where
  | t (n : Nat)
  | c (x : AV)

abbrev Fr := List (Nat × AV)

def Fr.put : Fr → Nat → AV → Fr
  | [], n, x => [(n, x)]
  | (m, y) :: r, n, x => if n < m then (n, x) :: (m, y) :: r else if n = m then (n, x) :: r else (m, y) :: Fr.put r n x

def Fr.get : Fr → Nat → Option AV
  | [], _ => none
  | (m, y) :: r, n => if n = m then some y else Fr.get r n

def Fr.keep (l : List Nat) : Fr → Fr
  | [] => []
  | (m, y) :: r => if l.contains m then (m, y) :: Fr.keep l r else Fr.keep l r

def Fr.putO (fr : Fr) : Option Nat → AV → Fr
  | none, _ => fr
  | some n, x => fr.put n x

/-- The same, handing on a list that is laid out. -/
def Fr.putK : Fr → Nat → AV → (Fr → Prop) → Prop
  | [], n, x, K => K [(n, x)]
  | (m, y) :: r, n, x, K => match Nat.blt n m with
    | true => K ((n, x) :: (m, y) :: r)
    | false => match Nat.beq n m with
      | true => K ((n, x) :: r)
      | false => Fr.putK r n x fun r' => K ((m, y) :: r')
def Fr.putOK (fr : Fr) (d : Option Nat) (x : AV) (K : Fr → Prop) : Prop :=
  match d with
  | none => K fr
  | some n => fr.putK n x K
def memN (n : Nat) : List Nat → Bool
  | [] => false
  | m :: r => match Nat.beq n m with
    | true => true
    | false => memN n r
def Fr.keepK (l : List Nat) : Fr → (Fr → Prop) → Prop
  | [], K => K []
  | (m, y) :: r, K => match memN m l with
    | true => Fr.keepK l r fun r' => K ((m, y) :: r')
    | false => Fr.keepK l r K

theorem Fr.putK_eq : ∀ (fr : Fr) (n : Nat) (x : AV) (K : Fr → Prop), fr.putK n x K = K (fr.put n x)
  | [], n, x, K => rfl
  | (m, y) :: r, n, x, K => by
    unfold Fr.putK Fr.put
    by_cases h1 : n < m
    · have e : Nat.blt n m = true := by simpa [Nat.blt_eq] using h1
      simp only [e, h1, if_true]
    · have e : Nat.blt n m = false := by
        cases q : Nat.blt n m
        · rfl
        · exact absurd (by simpa [Nat.blt_eq] using q) h1
      simp only [e, h1, if_false]
      by_cases h2 : n = m
      · subst h2; simp
      · have e2 : Nat.beq n m = false := by
          cases q : Nat.beq n m
          · rfl
          · exact absurd (Nat.eq_of_beq_eq_true q) h2
        simp only [e2, h2, if_false]
        exact Fr.putK_eq r n x _
theorem Fr.putOK_eq (fr : Fr) (d : Option Nat) (x : AV) (K : Fr → Prop) : fr.putOK d x K = K (fr.putO d x) := by
  cases d
  · rfl
  · exact Fr.putK_eq _ _ _ _
theorem memN_eq (n : Nat) : ∀ l : List Nat, memN n l = l.contains n
  | [] => rfl
  | m :: r => by
    unfold memN
    cases q : Nat.beq n m
    · have : n ≠ m := fun e => by subst e; simp at q
      simp [memN_eq n r, this]
    · have := Nat.eq_of_beq_eq_true q
      simp [this]
theorem Fr.keepK_eq (l : List Nat) : ∀ (fr : Fr) (K : Fr → Prop), Fr.keepK l fr K = K (Fr.keep l fr)
  | [], K => rfl
  | (m, y) :: r, K => by
    unfold Fr.keepK Fr.keep
    rw [memN_eq]
    cases l.contains m
    · simp only [Bool.false_eq_true, if_false]; exact Fr.keepK_eq l r _
    · simp only [if_true]; exact Fr.keepK_eq l r _

def ev (fr : Fr) : Opd → Option AV
  | .t n => fr.get n
  | .c x => some x

def evs (fr : Fr) : List Opd → Option (List AV)
  | [] => some []
  | x :: r => match ev fr x, evs fr r with
    | some v, some vs => some (v :: vs)
    | _, _ => none

/-- A value's cells. -/
def AV.cells : AV → List AV
  | .agg l => l
  | x => [x]

/-- What may stand in memory. -/
def AV.okCells : AV → Bool
  | .tup _ => false
  | _ => true

/-- Read-only instructions. -/
inductive RI where
  | mv (x : Opd)
  | pick (c a b : Opd)
  | bin (op : BinOp) (x y : Opd)
  | binb (op : BinOp) (x y : Opd)
  | bins (op : BinOp) (x y : Opd)
  | eqnil (ne : Bool) (x : Opd)
  | eqnilp (ne : Bool) (x : Opd)
  | eqagg (ne : Bool) (ks : List Nat) (x y : Opd)
  | un (op : UnOp) (x : Opd)
  | conv (k : IntKind) (x : Opd)
  | b2s (x : Opd)
  | fld (agg : Bool) (off n : Nat) (x : Opd)
  | faddr (off : Nat) (x : Opd)
  | iaddr (sz : Nat) (x i : Opd)
  | iaddrA (len sz : Nat) (x i : Opd)
  | idxA (agg : Bool) (len sz : Nat) (x i : Opd)
  | idxS (x i : Opd)
  | slice (sz : Nat) (x : Opd) (lo hi mx : Option Opd)
  | sliceS (x : Opd) (lo hi : Option Opd)
  | load (agg : Bool) (n : Nat) (a : Opd)
  | ext (i : Nat) (x : Opd)
  | len (x : Opd)
  | lenS (x : Opd)
  | cap (x : Opd)
  | mn (x y : Opd)
  | mx (x y : Opd)
  | nilchk (x : Opd)
  | build (zero : List AV) (parts : List (Nat × Nat × Opd))
  | mkfn (f : Nat) (caps : List Opd)
  | mkfnb (f : Nat) (pre caps : List Opd)

/-- Instructions that make or write memory, and calls. -/
inductive EI where
  | alloc (zero : List AV)
  | box (n : Nat) (x : Opd)
  | bslice (sz : Nat) (zero : List AV) (n : Nat) (parts : List (Nat × Opd))
  | store (n : Nat) (a x : Opd)
  | mksl (sz bytes : Nat) (zero : List AV) (len cap : Opd)
  | append (sz bytes : Nat) (x y : Opd)
  | appendz (sz bytes : Nat) (zero : List AV) (x n : Opd)
  | copy (sz : Nat) (x y : Opd)
  | s2b (x : Opd)
  | mark (x : Opd)
  | mkmap
  | look (c : Bool) (z : ML) (x k : Opd)
  | upd (x k v : Opd)
  | del (x k : Opd)
  | clr (x : Opd)
  | rng (x : Opd)
  | next (x : Opd)
  | entry (x : Opd)
  | call (f : Nat) (args : List Opd)
  | callv (f : Opd) (args : List Opd)

structure GI where
  dst : Option Nat
  guard : Option (Nat × Bool)
  i : RI ⊕ EI

structure OI where
  ix : Nat
  g : GI
  chk : List Nat
  keep : Bool

inductive Cmd where
  | skip
  | reg (is : List GI)
  | ord (l : List OI)
  | par (l : List OI)
  | seq (a b : Cmd)
  | cond (c : Opd) (a b : Cmd)
  | block (id : Nat) (b : Cmd)
  | loop (live : List Nat) (b : Cmd)
  | keep (live : List Nat)
  | exit (id : Nat)
  | ret
  | stuck
  | rfun (g : Opd) (ps : List Nat) (assign body : Cmd)

/-! ### Read-only instructions -/
/-- Two ways on. -/
structure Br (p a b : Prop) : Prop where
  of ::
  l : p → a
  r : ¬ p → b

/-- Both ways on. -/
structure Both (a b : Prop) : Prop where
  of ::
  l : a
  r : b

def boolR (p : Prop) (K : AV → Prop) : Prop := Br p (K (.bool true)) (K (.bool false))

def arithR (k : IntKind) (n : Int) (K : AV → Prop) : Prop :=
  match k with
  | .i64 => Br (-9223372036854775808 ≤ n ∧ n ≤ 9223372036854775807) (K (.int .i64 n)) (K (.int .i64 (IntKind.wrap .i64 n)))
  | .u8 => K (.int .u8 (n % 256))
  | .u16 => K (.int .u16 (n % 65536))
  | .u32 => K (.int .u32 (n % 4294967296))
  | .u64 => K (.int .u64 (n % 18446744073709551616))
  | k => K (.int k (k.wrap n))

theorem Br.elim {p a b : Prop} (h : Br p a b) {c : Prop} (ha : p → a → c) (hb : ¬ p → b → c) : c := by
  by_cases q : p
  · exact ha q (h.1 q)
  · exact hb q (h.2 q)
theorem Br_if {p : Prop} [Decidable p] {k : IntKind} {x y : Int} {K : AV → Prop} (h : Br p (K (.int k x)) (K (.int k y))) : K (.int k (if p then x else y)) := by
  split
  · exact h.1 ‹_›
  · exact h.2 ‹_›
theorem boolR_elim {p : Prop} [Decidable p] {K : AV → Prop} (h : boolR p K) : K (.bool (decide p)) := by
  by_cases q : p
  · rw [decide_eq_true q]; exact h.1 q
  · rw [decide_eq_false q]; exact h.2 q
theorem arithR_elim {k : IntKind} {n : Int} {K : AV → Prop} (h : arithR k n K) : K (.int k (k.wrap n)) := by
  cases k
  case i64 =>
    refine Br.elim h (fun q h => ?_) (fun _ h => h)
    have e : IntKind.wrap .i64 n = n := by rw [IntKind.wrap_i64]; omega
    rw [e]; exact h
  all_goals first | exact h | (simpa [IntKind.wrap, IntKind.bits, IntKind.signed] using h)

theorem quo_elim {a b : Int} {k : IntKind} {K : AV → Prop} (h : Br (0 ≤ a ∧ 0 < b) (arithR k (a / b) K) (arithR k (a.tdiv b) K)) : K (.int k (k.wrap (a.tdiv b))) := by
  refine Br.elim h (fun q h => ?_) (fun _ h => arithR_elim h)
  rw [Int.tdiv_eq_ediv_of_nonneg q.1]; exact arithR_elim h
theorem rem_elim {a b : Int} {k : IntKind} {K : AV → Prop} (h : Br (0 ≤ a ∧ 0 < b) (K (.int k (a % b))) (K (.int k (a.tmod b)))) : K (.int k (a.tmod b)) := by
  refine Br.elim h (fun q h => ?_) (fun _ h => h)
  rw [Int.tmod_eq_emod_of_nonneg q.1]; exact h

def binI (op : BinOp) (k : IntKind) (a : Int) (k' : IntKind) (b : Int) (K : AV → Prop) : Prop :=
  match op with
  | .add => k = k' ∧ arithR k (a + b) K
  | .sub => k = k' ∧ arithR k (a - b) K
  | .mul => k = k' ∧ arithR k (a * b) K
  | .quo => k = k' ∧ b ≠ 0 ∧ Br (0 ≤ a ∧ 0 < b) (arithR k (a / b) K) (arithR k (a.tdiv b) K)
  | .rem => k = k' ∧ b ≠ 0 ∧ Br (0 ≤ a ∧ 0 < b) (K (.int k (a % b))) (K (.int k (a.tmod b)))
  | .and => k = k' ∧ K (.int k (k.wrap ((BitVec.ofInt k.bits a &&& BitVec.ofInt k.bits b).toNat : Int)))
  | .or => k = k' ∧ K (.int k (k.wrap ((BitVec.ofInt k.bits a ||| BitVec.ofInt k.bits b).toNat : Int)))
  | .xor => k = k' ∧ K (.int k (k.wrap ((BitVec.ofInt k.bits a ^^^ BitVec.ofInt k.bits b).toNat : Int)))
  | .andNot => k = k' ∧ K (.int k (k.wrap ((BitVec.ofInt k.bits a &&& ~~~ BitVec.ofInt k.bits b).toNat : Int)))
  | .shl => 0 ≤ b ∧ K (.int k (k.wrap (a * 2 ^ (min b.toNat k.bits))))
  | .shr => 0 ≤ b ∧ K (.int k (a.fdiv (2 ^ (min b.toNat k.bits))))
  | .eql => k = k' ∧ boolR (a = b) K
  | .neq => k = k' ∧ boolR (a ≠ b) K
  | .lss => k = k' ∧ boolR (a < b) K
  | .leq => k = k' ∧ boolR (a ≤ b) K
  | .gtr => k = k' ∧ boolR (b < a) K
  | .geq => k = k' ∧ boolR (b ≤ a) K

def binB (op : BinOp) (a b : Bool) (K : AV → Prop) : Prop :=
  match op with
  | .eql => boolR (a = b) K
  | .neq => boolR (a ≠ b) K
  | _ => False

def binS (op : BinOp) (a b : List UInt8) (K : AV → Prop) : Prop :=
  match op with
  | .eql => boolR (a = b) K
  | .neq => boolR (a ≠ b) K
  | _ => False

def unR (op : UnOp) (x : AV) (K : AV → Prop) : Prop :=
  match op, x with
  | .neg, .int k a => arithR k (0 - a) K
  | .xor, .int k a => K (.int k (k.wrap ((BitVec.ofInt k.bits (if k.signed then -1 else k.max) ^^^ BitVec.ofInt k.bits a).toNat : Int)))
  | .not, .bool b => K (.bool (!b))
  | _, _ => False

inductive NoAny : AV → Prop
  | int (k : IntKind) (n : Int) : NoAny (.int k n)
  | bool (b : Bool) : NoAny (.bool b)
  | str (s : List UInt8) : NoAny (.str s)

def scalEq : AV → AV → Option Prop
  | .int k a, .int k' b => if k = k' then some (a = b) else none
  | .bool a, .bool b => some (a = b)
  | .str a, .str b => some (a = b)
  | _, _ => none

def scalEqs : List AV → List AV → Option Prop
  | [], [] => some True
  | x :: xs, y :: ys => match scalEq x y, scalEqs xs ys with
    | some p, some q => some (p ∧ q)
    | _, _ => none
  | _, _ => none

def scalK : Nat → AV → AV → Option Prop
  | 0, .int k a, .int k' b => if k = k' then some (a = b) else none
  | 1, .bool a, .bool b => some (a = b)
  | 2, .str a, .str b => some (a = b)
  | _, _, _ => none
def scalKs : List Nat → List AV → List AV → Option Prop
  | [], [], [] => some True
  | k :: ks, x :: xs, y :: ys => match scalK k x y, scalKs ks xs ys with
    | some p, some q => some (p ∧ q)
    | _, _ => none
  | _, _, _ => none

/-- The bytes of a row of byte rows. -/
def bytesOf : List (List AV) → Option (List UInt8)
  | [] => some []
  | [.int .u8 n] :: r => (bytesOf r).map (UInt8.ofNat n.toNat :: ·)
  | _ => none

def bytesR (l : List (List AV)) (K : List UInt8 → Prop) : Prop :=
  match bytesOf l with
  | some s => K s
  | none => False

def blkD (σ : AH) (id gen : Nat) (K : Blk → Prop) : Prop :=
  match σ[id]? with
  | some b => b.gen = gen ∧ b.ext = none ∧ K b
  | none => False

structure blkAt (σ : AH) (id gen : Nat) (K : Blk → Prop) : Prop where
  of ::
  ok : blkD σ id gen K
structure BytesW (l : List (List AV)) (K : List UInt8 → Prop) : Prop where
  of ::
  ok : bytesR l K

/-- The rows that a slice shows; pure: without a reference inside. -/
def rowsR (σ : AH) (sz : Nat) (x : AV) (K : Bool → List (List AV) → Prop) : Prop :=
  match x with
  | .nils => K true []
  | .sl sz' l _ => sz = sz' ∧ K true l
  | .slx sz' l => sz = sz' ∧ K true l
  | .rsl id gen off len _ => blkAt σ id gen fun b => sz = b.sz ∧ off + len ≤ b.els.length ∧ K b.pure ((b.els.drop off).take len)
  | _ => False

structure RowsW (σ : AH) (sz : Nat) (x : AV) (K : Bool → List (List AV) → Prop) : Prop where
  of ::
  ok : rowsR σ sz x K

def intR (fr : Fr) (x : Opd) (K : Int → Prop) : Prop :=
  match ev fr x with
  | some (.int _ n) => K n
  | _ => False

def intOR (fr : Fr) (x : Option Opd) (d : Int) (K : Int → Prop) : Prop :=
  match x with
  | none => K d
  | some x => intR fr x K

def sliceR0 (σ : AH) (sz : Nat) (x : AV) (lo : Int) (hi : Option Int) (mx : Option Int) (K : AV → Prop) : Prop :=
  match x with
  | .nils => lo = 0 ∧ hi.getD 0 = 0 ∧ (∀ m, mx = some m → m = 0) ∧ K .nils
  | .sl sz' l nn =>
    sz = sz' ∧ 0 ≤ lo ∧ lo ≤ hi.getD l.length ∧ hi.getD l.length ≤ l.length ∧ (∀ m, mx = some m → m = hi.getD l.length) ∧
      K (if mx.isSome then .slx sz' ((l.take (hi.getD l.length).toNat).drop lo.toNat) else .sl sz' ((l.take (hi.getD l.length).toNat).drop lo.toNat) nn)
  | .rsl id gen off len cap => blkAt σ id gen fun b =>
    sz = b.sz ∧ 0 ≤ lo ∧ lo ≤ hi.getD len ∧ (hi.getD len ≤ len ∨ (cap = none ∧ off + (hi.getD len).toNat ≤ b.els.length) ∨ (∃ c, cap = some c ∧ hi.getD len ≤ c)) ∧
      (∀ m, mx = some m → m = hi.getD len) ∧
      K (.rsl id gen (off + lo.toNat) ((hi.getD len).toNat - lo.toNat) (match mx with | some m => some (m.toNat - lo.toNat) | none => cap.map (· - lo.toNat)))
  | _ => False

/-- The same, as it is stepped through. -/
def hiR (hi : Option Int) (d : Int) (K : Int → Prop) : Prop :=
  match hi with
  | some h => K h
  | none => K d
def mxR (mx : Option Int) (h : Int) (y n : Prop) : Prop :=
  match mx with
  | some m => m = h ∧ y
  | none => n

def sliceR (σ : AH) (sz : Nat) (x : AV) (lo : Int) (hi : Option Int) (mx : Option Int) (K : AV → Prop) : Prop :=
  match x with
  | .nils => hiR hi 0 fun h => lo = 0 ∧ h = 0 ∧ mxR mx 0 (K .nils) (K .nils)
  | .sl sz' l nn => hiR hi l.length fun h => sz = sz' ∧ 0 ≤ lo ∧ lo ≤ h ∧ h ≤ l.length ∧
      mxR mx h (K (.slx sz' ((l.take h.toNat).drop lo.toNat))) (K (.sl sz' ((l.take h.toNat).drop lo.toNat) nn))
  | .rsl id gen off len cap => blkAt σ id gen fun b => hiR hi len fun h =>
    sz = b.sz ∧ 0 ≤ lo ∧ lo ≤ h ∧ (h ≤ len ∨ (cap = none ∧ off + h.toNat ≤ b.els.length) ∨ (∃ c, cap = some c ∧ h ≤ c)) ∧
      mxR mx h (K (.rsl id gen (off + lo.toNat) (h.toNat - lo.toNat) (some (h.toNat - lo.toNat)))) (K (.rsl id gen (off + lo.toNat) (h.toNat - lo.toNat) (cap.map (· - lo.toNat))))
  | _ => False

theorem blkAt_mono {σ : AH} {id gen : Nat} {K K' : Blk → Prop} (hK : ∀ b, K b → K' b) (h : blkAt σ id gen K) : blkAt σ id gen K' := by
  refine ⟨?_⟩
  replace h := h.ok
  unfold blkD at h ⊢
  split at h
  · exact ⟨h.1, h.2.1, hK _ h.2.2⟩
  · exact h
theorem sliceR_elim {σ : AH} {sz : Nat} {x : AV} {lo : Int} {hi mx : Option Int} {K : AV → Prop} (h : sliceR σ sz x lo hi mx K) : sliceR0 σ sz x lo hi mx K := by
  unfold sliceR at h
  split at h
  · cases hi <;> cases mx <;> simp_all [hiR, mxR, sliceR0]
  · cases hi <;> cases mx <;> simp_all [hiR, mxR, sliceR0]
  · unfold sliceR0
    refine blkAt_mono (fun b h => ?_) h
    cases hi <;> cases mx <;> simp_all [hiR, mxR]
  · exact h.elim

def loadRow0 (agg : Bool) (n off : Nat) (row : List AV) (K : AV → Prop) : Prop :=
  if agg then off + n ≤ row.length ∧ K (.agg ((row.drop off).take n)) else off < row.length ∧ ∀ x, row[off]? = some x → K x
def nthK : List AV → Nat → (AV → Prop) → Prop
  | [], _, _ => False
  | x :: r, n, K => match n with
    | 0 => K x
    | n + 1 => nthK r n K
/-- Cells of a row, handed on laid out. -/
def takeK : Nat → List AV → (List AV → Prop) → Prop
  | 0, _, K => K []
  | n + 1, l, K => match l with
    | [] => K []
    | x :: r => takeK n r fun l => K (x :: l)
def dropK : Nat → List AV → (List AV → Prop) → Prop
  | 0, l, K => K l
  | n + 1, l, K => match l with
    | [] => K []
    | _ :: r => dropK n r K
theorem takeK_eq : ∀ (n : Nat) (l : List AV) (K : List AV → Prop), takeK n l K = K (l.take n)
  | 0, l, K => by simp [takeK]
  | n + 1, [], K => by simp [takeK]
  | n + 1, x :: r, K => by simp only [takeK, List.take_succ_cons]; exact takeK_eq n r _
theorem dropK_eq : ∀ (n : Nat) (l : List AV) (K : List AV → Prop), dropK n l K = K (l.drop n)
  | 0, l, K => by simp [dropK]
  | n + 1, [], K => by simp [dropK]
  | n + 1, x :: r, K => by simp only [dropK, List.drop_succ_cons]; exact dropK_eq n r _
def loadRow (agg : Bool) (n off : Nat) (row : List AV) (K : AV → Prop) : Prop :=
  match agg with
  | true => off + n ≤ row.length ∧ dropK off row fun r => takeK n r fun l => K (.agg l)
  | false => nthK row off K
/-- The row that stands there. -/
def nthR : List (List AV) → Nat → (List AV → Prop) → Prop
  | [], _, _ => False
  | x :: r, n, K => match n with
    | 0 => K x
    | n + 1 => nthR r n K
theorem nthR_elim : ∀ {l : List (List AV)} {n : Nat} {K : List AV → Prop}, nthR l n K → n < l.length ∧ ∀ x, l[n]? = some x → K x
  | [], n, K, h => h.elim
  | x :: r, 0, K, h => ⟨by simp, fun y hy => by simp at hy; subst hy; exact h⟩
  | x :: r, n + 1, K, h => by
    obtain ⟨h1, h2⟩ := nthR_elim (l := r) h
    exact ⟨by simpa using h1, fun y hy => h2 y (by simpa using hy)⟩
theorem nthR_intro : ∀ {l : List (List AV)} {n : Nat} {K : List AV → Prop} {x : List AV}, l[n]? = some x → K x → nthR l n K
  | [], n, K, x, h, _ => by simp at h
  | y :: r, 0, K, x, h, hk => by simp at h; subst h; exact hk
  | y :: r, n + 1, K, x, h, hk => nthR_intro (l := r) (by simpa using h) hk
theorem nthK_intro : ∀ {l : List AV} {n : Nat} {K : AV → Prop} {x : AV}, l[n]? = some x → K x → nthK l n K
  | [], n, K, x, h, _ => by simp at h
  | y :: r, 0, K, x, h, hk => by simp at h; subst h; exact hk
  | y :: r, n + 1, K, x, h, hk => nthK_intro (l := r) (by simpa using h) hk
theorem nthK_elim : ∀ {row : List AV} {n : Nat} {K : AV → Prop}, nthK row n K → n < row.length ∧ ∀ x, row[n]? = some x → K x
  | [], n, K, h => h.elim
  | x :: r, 0, K, h => ⟨by simp, fun y hy => by simp at hy; subst hy; exact h⟩
  | x :: r, n + 1, K, h => by
    obtain ⟨h1, h2⟩ := nthK_elim (row := r) h
    exact ⟨by simpa using h1, fun y hy => h2 y (by simpa using hy)⟩
theorem loadRow_elim {agg : Bool} {n off : Nat} {row : List AV} {K : AV → Prop} (h : loadRow agg n off row K) : loadRow0 agg n off row K := by
  cases agg
  · exact nthK_elim h
  · refine ⟨h.1, ?_⟩
    have h2 := h.2
    rw [dropK_eq, takeK_eq] at h2
    exact h2

/-- A part's cells laid into a value's. -/
def lay (cells : List AV) (off : Nat) (part : List AV) : List AV := cells.take off ++ part ++ cells.drop (off + part.length)
def overK : List AV → List AV → (List AV → Prop) → Prop
  | row, [], K => K row
  | row, c :: cs, K => match row with
    | [] => overK [] cs fun l => K (c :: l)
    | _ :: r => overK r cs fun l => K (c :: l)
def layK : List AV → Nat → List AV → (List AV → Prop) → Prop
  | row, 0, cells, K => overK row cells K
  | row, n + 1, cells, K => match row with
    | [] => overK [] cells K
    | x :: r => layK r n cells fun l => K (x :: l)
theorem overK_eq : ∀ (cells row : List AV) (K : List AV → Prop), overK row cells K = K (cells ++ row.drop cells.length)
  | [], row, K => by cases row <;> simp [overK]
  | c :: cs, [], K => by simp only [overK]; rw [overK_eq]; simp
  | c :: cs, x :: r, K => by simp only [overK]; rw [overK_eq]; simp
theorem layK_eq : ∀ (n : Nat) (row cells : List AV) (K : List AV → Prop), layK row n cells K = K (lay row n cells)
  | 0, row, cells, K => by
    have : layK row 0 cells K = overK row cells K := by cases row <;> rfl
    rw [this, overK_eq]; simp [lay]
  | n + 1, [], cells, K => by simp only [layK]; rw [overK_eq]; simp [lay]
  | n + 1, x :: r, cells, K => by
    simp only [layK]; rw [layK_eq]
    simp only [lay, List.take_succ_cons, List.cons_append, show n + 1 + cells.length = (n + cells.length) + 1 from by omega, List.drop_succ_cons]

def buildR (fr : Fr) : List AV → List (Nat × Nat × Opd) → (List AV → Prop) → Prop
  | cells, [], K => K cells
  | cells, (off, n, x) :: r, K => match ev fr x with
    | some v => v.okCells = true ∧ v.cells.length = n ∧ off + n ≤ cells.length ∧ buildR fr (lay cells off v.cells) r K
    | none => False

def evR (fr : Fr) (x : Opd) (K : AV → Prop) : Prop :=
  match ev fr x with
  | some v => K v
  | none => False

def lenR (σ : AH) (x : AV) (K : Nat → Prop) : Prop :=
  match x with
  | .nils => K 0
  | .slx _ l => K l.length
  | .sl _ l _ => K l.length
  | .rsl id gen _ len _ => blkAt σ id gen fun _ => K len
  | _ => False

structure LenW (σ : AH) (x : AV) (K : Nat → Prop) : Prop where
  of ::
  ok : lenR σ x K

def capR (σ : AH) (x : AV) (K : Nat → Prop) : Prop :=
  match x with
  | .nils => K 0
  | .rsl id gen _ _ (some c) => blkAt σ id gen fun _ => K c
  | .rsl id gen off _ none => blkAt σ id gen fun b => b.full = true ∧ K (b.els.length - off)
  | _ => False

def iaddrR (σ : AH) (sz : Nat) (x : AV) (n : Int) (K : AV → Prop) : Prop :=
  match x with
  | .sl sz' l _ => sz = sz' ∧ 0 ≤ n ∧ nthR l n.toNat fun row => K (.vptr row 0)
  | .rsl id gen off len _ => blkAt σ id gen fun b => sz = b.sz ∧ 0 ≤ n ∧ n < len ∧ K (.ptr id gen (off + n.toNat) 0)
  | _ => False

def eqnilR (σ : AH) (ne : Bool) (x : AV) (K : AV → Prop) : Prop :=
  match x with
  | .nils => K (.bool (!ne))
  | .sl _ l _ => Br (l = []) (Both (K (.bool ne)) (K (.bool (!ne)))) (K (.bool ne))
  | .rsl id gen _ len _ => blkAt σ id gen fun _ => Br (len = 0) (Both (K (.bool ne)) (K (.bool (!ne)))) (K (.bool ne))
  | _ => False

structure SliceW (σ : AH) (sz : Nat) (x : AV) (lo : Int) (hi mx : Option Int) (K : AV → Prop) : Prop where
  of ::
  ok : sliceR σ sz x lo hi mx K
structure IaW (σ : AH) (sz : Nat) (x : AV) (n : Int) (K : AV → Prop) : Prop where
  of ::
  ok : iaddrR σ sz x n K
structure EqnW (σ : AH) (ne : Bool) (x : AV) (K : AV → Prop) : Prop where
  of ::
  ok : eqnilR σ ne x K

def roI (σ : AH) (fr : Fr) (i : RI) (K : AV → Prop) : Prop :=
  match i with
  | .mv x => evR fr x K
  | .pick c a b => evR fr c fun | .bool t => (match t with | true => evR fr a K | false => evR fr b K) | _ => False
  | .bin op x y => evR fr x fun
    | .int k a => evR fr y fun
      | .int k' b => binI op k a k' b K
      | _ => False
    | _ => False
  | .binb op x y => evR fr x fun
    | .bool a => evR fr y fun
      | .bool b => binB op a b K
      | _ => False
    | _ => False
  | .bins op x y => evR fr x fun
    | .str a => evR fr y fun
      | .str b => binS op a b K
      | _ => False
    | _ => False
  | .eqnil ne x => evR fr x fun a => EqnW σ ne a K
  | .eqnilp ne x => evR fr x fun
    | .nilp => K (.bool (!ne))
    | .ptr id gen _ _ => blkAt σ id gen fun _ => K (.bool ne)
    | .vptr _ _ => K (.bool ne)
    | _ => False
  | .eqagg ne ks x y => evR fr x fun
    | .agg l => evR fr y fun
      | .agg m => match scalKs ks l m with
        | some p => Br p (K (.bool (!ne))) (K (.bool ne))
        | none => False
      | _ => False
    | _ => False
  | .un op x => evR fr x fun a => unR op a K
  | .conv k x => evR fr x fun | .int _ n => arithR k n K | _ => False
  | .b2s x => evR fr x fun a => RowsW σ 1 a fun _ l => BytesW l fun s => K (.str s)
  | .fld agg off n x => evR fr x fun | .agg l => loadRow agg n off l K | _ => False
  | .faddr off x => evR fr x fun
    | .ptr id gen idx o => blkAt σ id gen fun _ => K (.ptr id gen idx (o + off))
    | .vptr row o => K (.vptr row (o + off))
    | _ => False
  | .iaddr sz x i => evR fr x fun a => intR fr i fun n => IaW σ sz a n K
  | .iaddrA len sz x i => evR fr x fun a => intR fr i fun n => 0 ≤ n ∧ n < len ∧ match a with
    | .ptr id gen idx o => blkAt σ id gen fun _ => K (.ptr id gen idx (o + n.toNat * sz))
    | .vptr row o => K (.vptr row (o + n.toNat * sz))
    | _ => False
  | .idxA agg len sz x i => evR fr x fun a => intR fr i fun n => match a with
    | .agg l => 0 ≤ n ∧ n < len ∧ loadRow agg sz (n.toNat * sz) l K
    | _ => False
  | .idxS x i => evR fr x fun a => intR fr i fun n => match a with
    | .str s => 0 ≤ n ∧ n < s.length ∧ ∀ b, s[n.toNat]? = some b → K (.int .u8 b.toNat)
    | _ => False
  | .slice sz x lo hi mx => evR fr x fun a => intOR fr lo 0 fun l =>
    match hi, mx with
    | none, none => SliceW σ sz a l none none K
    | some h, none => intR fr h fun h => SliceW σ sz a l (some h) none K
    | some h, some m => intR fr h fun h => intR fr m fun m => SliceW σ sz a l (some h) (some m) K
    | none, some _ => False
  | .sliceS x lo hi => evR fr x fun
    | .str s => intOR fr lo 0 fun l => intOR fr hi s.length fun h => 0 ≤ l ∧ l ≤ h ∧ h ≤ s.length ∧ K (.str ((s.take h.toNat).drop l.toNat))
    | _ => False
  | .load agg n a => evR fr a fun
    | .ptr id gen idx off => blkAt σ id gen fun b => nthR b.els idx fun row => loadRow agg n off row K
    | .vptr row off => loadRow agg n off row K
    | _ => False
  | .ext i x => evR fr x fun | .tup l => (match l[i]? with | some v => K v | none => False) | _ => False
  | .len x => evR fr x fun a => LenW σ a fun n => K (.int .i64 n)
  | .lenS x => evR fr x fun
    | .str s => K (.int .i64 s.length)
    | _ => False
  | .cap x => evR fr x fun a => capR σ a fun n => K (.int .i64 n)
  | .mn x y => evR fr x fun | .int k a => evR fr y (fun | .int _ b => Br (b < a) (K (.int k b)) (K (.int k a)) | _ => False) | _ => False
  | .mx x y => evR fr x fun | .int k a => evR fr y (fun | .int _ b => Br (a < b) (K (.int k b)) (K (.int k a)) | _ => False) | _ => False
  | .nilchk x => evR fr x fun
    | .ptr id gen idx o => blkAt σ id gen fun _ => K (.ptr id gen idx o)
    | .vptr row o => K (.vptr row o)
    | .fn f l => K (.fn f l)
    | _ => False
  | .build zero parts => buildR fr zero parts fun l => K (.agg l)
  | .mkfn f caps => match evs fr caps with | some l => K (.fn f l) | none => False
  | .mkfnb f pre caps => match evs fr pre, evs fr caps with | some l, some m => K (.fnb f l m) | _, _ => False

/-! ### Instructions with effects -/
def AV.flat : AV → Bool
  | .int _ _ => true
  | .bool _ => true
  | .str _ => true
  | .sl _ _ _ => true
  | .nils => true
  | .nilp => true
  | .any => true
  | _ => false

def allFlat : List AV → Bool
  | [] => true
  | x :: r => x.flat && allFlat r

/-- A reference becomes what it refers to; its block is not written any more. -/
def frzC (σ : AH) (x : AV) : Option (AV × AH) :=
  match x with
  | .rsl id gen off len _ => match σ[id]? with
    | some b => if b.gen = gen ∧ b.pure = true ∧ off + len ≤ b.els.length then some (.sl b.sz ((b.els.drop off).take len) true, σ.set id { b with wr := false }) else none
    | none => none
  | x => if x.flat then some (x, σ) else none

def frzL (σ : AH) : List AV → Option (List AV × AH)
  | [] => some ([], σ)
  | x :: r => match frzC σ x with
    | some (y, σ1) => match frzL σ1 r with
      | some (ys, σ2) => some (y :: ys, σ2)
      | none => none
    | none => none

def frzLL (σ : AH) : List (List AV) → Option (List (List AV) × AH)
  | [] => some ([], σ)
  | x :: r => match frzL σ x with
    | some (y, σ1) => match frzLL σ1 r with
      | some (ys, σ2) => some (y :: ys, σ2)
      | none => none
    | none => none

/-- A value as who only reads it sees it: without references. -/
def derefC (σ : AH) (x : AV) : Option AV :=
  match x with
  | .rsl id gen off len _ => match σ[id]? with
    | some b => if b.gen = gen ∧ b.pure = true ∧ off + len ≤ b.els.length then some (.sl b.sz (untagLL ((b.els.drop off).take len)) false) else none
    | none => none
  | x => if x.flat then some (untag x) else none

def derefCs (σ : AH) : List AV → Option (List AV)
  | [] => some []
  | x :: r => match derefC σ x, derefCs σ r with
    | some y, some ys => some (y :: ys)
    | _, _ => none

def derefV (σ : AH) (x : AV) : Option AV :=
  match x with
  | .agg l => (derefCs σ l).map .agg
  | x => derefC σ x

def derefs (σ : AH) : List AV → Option (List AV)
  | [] => some []
  | x :: r => match derefV σ x, derefs σ r with
    | some y, some ys => some (y :: ys)
    | _, _ => none

/-- The rows that are appended, without references. -/
def frzR0 (σ : AH) (sz : Nat) (x : AV) (K : List (List AV) → AH → Prop) : Prop :=
  rowsR σ sz x fun p l => if p then K l σ else match frzLL σ l with
    | some (l', σ') => K l' σ'
    | none => False

/-- The same, as it is stepped through. -/
def frzCR (σ : AH) (x : AV) (K : AV → AH → Prop) : Prop :=
  match x with
  | .rsl id gen off len _ => blkAt σ id gen fun b => b.pure = true ∧ off + len ≤ b.els.length ∧ K (.sl b.sz ((b.els.drop off).take len) true) (σ.set id { b with wr := false })
  | .int k n => K (.int k n) σ
  | .bool b => K (.bool b) σ
  | .str s => K (.str s) σ
  | .sl sz l fr => K (.sl sz l fr) σ
  | .nils => K .nils σ
  | .nilp => K .nilp σ
  | .any => K .any σ
  | _ => False
def frzLR (σ : AH) : List AV → (List AV → AH → Prop) → Prop
  | [], K => K [] σ
  | x :: r, K => frzCR σ x fun y σ1 => frzLR σ1 r fun ys σ2 => K (y :: ys) σ2
def frzLLR (σ : AH) : List (List AV) → (List (List AV) → AH → Prop) → Prop
  | [], K => K [] σ
  | x :: r, K => frzLR σ x fun y σ1 => frzLLR σ1 r fun ys σ2 => K (y :: ys) σ2
def frzR (σ : AH) (sz : Nat) (x : AV) (K : List (List AV) → AH → Prop) : Prop :=
  RowsW σ sz x fun p l => match p with
    | true => K l σ
    | false => frzLLR σ l K

theorem frzCR_elim {σ : AH} {x : AV} {K : AV → AH → Prop} (h : frzCR σ x K) : ∃ y σ', frzC σ x = some (y, σ') ∧ K y σ' := by
  unfold frzCR at h
  split at h
  · replace h := h.ok
    unfold blkD at h
    split at h
    · rename_i b hb
      obtain ⟨h1, _, h2, h3, h4⟩ := h
      exact ⟨_, _, by simp only [frzC, hb]; rw [if_pos ⟨h1, h2, h3⟩], h4⟩
    · exact h.elim
  all_goals first | exact h.elim | exact ⟨_, _, rfl, h⟩
theorem frzLR_elim : ∀ {l : List AV} {σ : AH} {K : List AV → AH → Prop}, frzLR σ l K → ∃ y σ', frzL σ l = some (y, σ') ∧ K y σ'
  | [], σ, K, h => ⟨_, _, rfl, h⟩
  | x :: r, σ, K, h => by
    obtain ⟨y, σ1, h1, h⟩ := frzCR_elim h
    obtain ⟨ys, σ2, h2, h⟩ := frzLR_elim h
    exact ⟨y :: ys, σ2, by simp [frzL, h1, h2], h⟩
theorem frzLLR_elim : ∀ {l : List (List AV)} {σ : AH} {K : List (List AV) → AH → Prop}, frzLLR σ l K → ∃ y σ', frzLL σ l = some (y, σ') ∧ K y σ'
  | [], σ, K, h => ⟨_, _, rfl, h⟩
  | x :: r, σ, K, h => by
    obtain ⟨y, σ1, h1, h⟩ := frzLR_elim h
    obtain ⟨ys, σ2, h2, h⟩ := frzLLR_elim h
    exact ⟨y :: ys, σ2, by simp [frzLL, h1, h2], h⟩
theorem rowsR_mono {σ : AH} {sz : Nat} {x : AV} {K K' : Bool → List (List AV) → Prop} (hK : ∀ p l, K p l → K' p l) (h : rowsR σ sz x K) : rowsR σ sz x K' := by
  unfold rowsR at h ⊢
  split at h
  · exact hK _ _ h
  · exact ⟨h.1, hK _ _ h.2⟩
  · exact ⟨h.1, hK _ _ h.2⟩
  · exact blkAt_mono (fun b ⟨h1, h2, h3⟩ => ⟨h1, h2, hK _ _ h3⟩) h
  · exact h.elim
theorem frzR_elim {σ : AH} {sz : Nat} {x : AV} {K : List (List AV) → AH → Prop} (h : frzR σ sz x K) : frzR0 σ sz x K := by
  refine rowsR_mono (fun p l h => ?_) h.ok
  cases p
  · obtain ⟨y, σ', h1, h2⟩ := frzLLR_elim h
    simpa [h1] using h2
  · simpa using h

def newB (σ : AH) (sz : Nat) (els : List (List AV)) (p : Bool) : AH := σ ++ [{ sz := sz, els := els, gen := 0, wr := true, pure := p }]

def appendR (σ : AH) (sz bytes : Nat) (x : AV) (ys : List (List AV)) (K : AV → AH → Prop) : Prop :=
  match x with
  | .nils => ys.length * bytes ≤ 140737488355328 ∧ K (.rsl σ.length 0 0 ys.length none) (newB σ sz ys true)
  | .slx sz' l => sz = sz' ∧ 0 < ys.length ∧ (l.length + ys.length) * bytes ≤ 140737488355328 ∧ K (.rsl σ.length 0 0 (l.length + ys.length) none) (newB σ sz (l ++ ys) true)
  | .rsl id gen off len none => blkAt σ id gen fun b => sz = b.sz ∧ b.wr = true ∧ b.pure = true ∧ off = 0 ∧ len ≤ b.els.length ∧ (len + ys.length) * bytes ≤ 140737488355328 ∧
      K (.rsl id (gen + 1) 0 (len + ys.length) none) (σ.set id { sz := b.sz, els := b.els.take len ++ ys, gen := gen + 1, wr := true, pure := true })
  | .rsl id gen off len (some c) => blkAt σ id gen fun b => sz = b.sz ∧ b.pure = true ∧ c = len ∧ 0 < ys.length ∧ off + len ≤ b.els.length ∧ (len + ys.length) * bytes ≤ 140737488355328 ∧
      K (.rsl σ.length 0 0 (len + ys.length) none) (newB σ sz ((b.els.drop off).take len ++ ys) true)
  | _ => False

structure AppW (σ : AH) (sz bytes : Nat) (x : AV) (ys : List (List AV)) (K : AV → AH → Prop) : Prop where
  of ::
  ok : appendR σ sz bytes x ys K

/-- The same of rows that may hold references: they go as they are, and the block is not pure any more. -/
def appendIR (σ : AH) (sz bytes : Nat) (x : AV) (ys : List (List AV)) (K : AV → AH → Prop) : Prop :=
  match x with
  | .nils => 0 < ys.length ∧ ys.length * bytes ≤ 140737488355328 ∧ K (.rsl σ.length 0 0 ys.length none) (newB σ sz ys false)
  | .rsl id gen off len none => blkAt σ id gen fun b => sz = b.sz ∧ b.wr = true ∧ off = 0 ∧ len ≤ b.els.length ∧ (len + ys.length) * bytes ≤ 140737488355328 ∧
      K (.rsl id (gen + 1) 0 (len + ys.length) none) (σ.set id { sz := b.sz, els := b.els.take len ++ ys, gen := gen + 1, wr := true, pure := false })
  | _ => False

structure AppIW (σ : AH) (sz bytes : Nat) (x : AV) (ys : List (List AV)) (K : AV → AH → Prop) : Prop where
  of ::
  ok : appendIR σ sz bytes x ys K

/-- Append in one of two ways: what comes is frozen, or it goes as it is. -/
structure AppC (σ : AH) (sz bytes : Nat) (a b : AV) (K : AV → AH → Prop) : Prop where
  of ::
  ok : frzR σ sz b (fun ys σ' => AppW σ' sz bytes a ys K) ∨ RowsW σ sz b fun _ ys => AppIW σ sz bytes a ys K

def storeR (σ : AH) (a : AV) (cells : List AV) (K : AH → Prop) : Prop :=
  match a with
  | .ptr id gen idx off => blkAt σ id gen fun b => b.wr = true ∧ nthR b.els idx fun row => off + cells.length ≤ row.length ∧
      layK row off cells fun row' => K (σ.set id { b with els := b.els.set idx row', pure := b.pure && allFlat cells })
  | _ => False

def copyR (σ : AH) (sz : Nat) (x : AV) (ys : List (List AV)) (K : AV → AH → Prop) : Prop :=
  match x with
  | .nils => K (.int .i64 0) σ
  | .sl sz' l _ => sz = sz' ∧ (l = [] ∨ ys = []) ∧ K (.int .i64 0) σ
  | .rsl id gen off len _ => blkAt σ id gen fun b => sz = b.sz ∧ b.wr = true ∧ off + len ≤ b.els.length ∧
      K (.int .i64 (min ys.length len : Nat)) (σ.set id { b with els := b.els.take off ++ ys.take (min ys.length len) ++ b.els.drop (off + min ys.length len) })
  | _ => False

structure CopyW (σ : AH) (sz : Nat) (x : AV) (ys : List (List AV)) (K : AV → AH → Prop) : Prop where
  of ::
  ok : copyR σ sz x ys K

/-- The call of a function: what it asks (told by the machine's calls: VD). -/
abbrev CallP := Nat → List AV → AH → (AV → AH → Prop) → Prop

def bsliceR (fr : Fr) (sz : Nat) : List (List AV) → List (Nat × Opd) → (List (List AV) → Prop) → Prop
  | rows, [], K => K rows
  | rows, (i, x) :: r, K => match ev fr x with
    | some v => v.okCells = true ∧ v.cells.length = sz ∧ i < rows.length ∧ bsliceR fr sz (rows.set i v.cells) r K
    | none => False

def allFlatL : List (List AV) → Bool
  | [] => true
  | x :: r => allFlat x && allFlatL r

/-! ### Maps -/
def mblk (es : List ME) (clock : Nat) : Blk := { sz := 0, els := [], gen := 0, wr := true, pure := false, ext := some (.map es clock) }
def iblk (id gen since : Nat) (seen : List Nat) (stepped : Nat) : Blk := { sz := 0, els := [], gen := 0, wr := true, pure := false, ext := some (.iter id gen since seen stepped) }
def mget (es : List ME) (n : Int) : Option ML := (es.find? fun e => e.key == n).map (·.val)
def mputE (es : List ME) (n : Int) (v : ML) (clock : Nat) : List ME :=
  match es.findIdx? fun e => e.key == n with
  | some i => es.modify i fun e => { e with val := v }
  | none => es ++ [⟨n, v, clock⟩]
def mputC (es : List ME) (n : Int) (clock : Nat) : Nat :=
  match es.findIdx? fun e => e.key == n with
  | some _ => clock
  | none => clock + 1
def mdel (es : List ME) (n : Int) : List ME :=
  match es.findIdx? fun e => e.key == n with
  | some i => es.eraseIdx i
  | none => es
def keyR (x : AV) (K : Int → Prop) : Prop :=
  match x with
  | .int .i64 n => K n
  | _ => False
def litK (x : AV) (K : ML → Prop) : Prop :=
  match x with
  | .int .i64 n => K (.int n)
  | .bool b => K (.bool b)
  | _ => False
/-- A map's block. -/
def mapD (σ : AH) (x : AV) (K : Nat → Blk → List ME → Nat → Prop) : Prop :=
  match x with
  | .rsl id gen 0 0 none => match σ[id]? with
    | some b => match b.ext with
      | some (.map es clock) => b.gen = gen ∧ b.wr = true ∧ K id b es clock
      | _ => False
    | none => False
  | _ => False
structure MapW (σ : AH) (x : AV) (K : Nat → Blk → List ME → Nat → Prop) : Prop where
  of ::
  ok : mapD σ x K
structure LookW (o : Option ML) (K : Option ML → Prop) : Prop where
  of ::
  ok : K o
def lookR (c : Bool) (z : ML) (σ : AH) (K : AV → AH → Prop) (o : Option ML) : Prop :=
  match c with
  | true => (match o with | some v => K (.tup [v.a, .bool true]) σ | none => K (.tup [z.a, .bool false]) σ)
  | false => (match o with | some v => K v.a σ | none => K z.a σ)
/-- The next round over a map: one of those that are left. -/
def nextD (σ : AH) (x : AV) (K : AV → AH → Prop) : Prop :=
  match x with
  | .ptr it gen 0 0 => match σ[it]? with
    | some b => match b.ext with
      | some (.iter mid mgen since seen stepped) => match σ[mid]? with
        | some mb => match mb.ext with
          | some (.map es clock) => b.gen = gen ∧ b.wr = true ∧ mb.gen = mgen ∧ (seen = [] ∨ es = [] ∨ ∃ e, e ∈ es ∧ e.born < stepped) ∧
              ((∀ e, e ∈ es → e.born < since → e.born ∈ seen) → K (.tup [.bool false]) σ) ∧
              (∀ e, e ∈ es → e.born ∉ seen → K (.tup [.bool true, .int .i64 e.key, e.val.a]) (σ.set it { b with ext := some (.iter mid mgen since (seen ++ [e.born]) clock) }))
          | _ => False
        | none => False
      | _ => False
    | none => False
  | _ => False
structure NextW (σ : AH) (x : AV) (K : AV → AH → Prop) : Prop where
  of ::
  ok : nextD σ x K

/-- The entry that the last step gave. -/
def entryD (σ : AH) (x : AV) (K : AV → AH → Prop) : Prop :=
  match x with
  | .ptr it gen 0 0 => match σ[it]? with
    | some b => match b.ext with
      | some (.iter mid mgen since seen stepped) => match σ[mid]? with
        | some mb => match mb.ext with
          | some (.map es clock) => b.gen = gen ∧ mb.gen = mgen ∧ clock = stepped ∧ ∃ s e, seen.getLast? = some s ∧ es.find? (fun e => e.born == s) = some e ∧ K (.tup [.int .i64 e.key, e.val.a]) σ
          | _ => False
        | none => False
      | _ => False
    | none => False
  | _ => False
structure EntryW (σ : AH) (x : AV) (K : AV → AH → Prop) : Prop where
  of ::
  ok : entryD σ x K

def efI (C : CallP) (σ : AH) (fr : Fr) (i : EI) (K : AV → AH → Prop) : Prop :=
  match i with
  | .alloc zero => K (.ptr σ.length 0 0 0) (newB σ zero.length [zero] (allFlat zero))
  | .box n x => evR fr x fun v => v.okCells = true ∧ v.cells.length = n ∧ K (.ptr σ.length 0 0 0) (newB σ n [v.cells] (allFlat v.cells))
  | .bslice sz zero n parts => n * sz ≤ 16777216 ∧ bsliceR fr sz (List.replicate n zero) parts fun rows => K (.rsl σ.length 0 0 n none) (newB σ sz rows (allFlatL rows))
  | .store n a x => evR fr a fun p => evR fr x fun v => v.cells.length = n ∧ v.okCells = true ∧ storeR σ p v.cells (K (.tup []))
  | .mksl sz bytes zero len cap => intR fr len fun l => intR fr cap fun c => 0 ≤ l ∧ l ≤ c ∧ c * bytes ≤ 140737488355328 ∧
      K (.rsl σ.length 0 0 l.toNat none) (newB σ sz (List.replicate c.toNat zero) (allFlat zero))
  | .append sz bytes x y => evR fr x fun a => evR fr y fun b => AppC σ sz bytes a b K
  | .appendz sz bytes zero x n => evR fr x fun a => intR fr n fun m => 0 ≤ m ∧ m * bytes ≤ 140737488355328 ∧ AppW σ sz bytes a (List.replicate m.toNat zero) K
  | .copy sz x y => evR fr x fun a => evR fr y fun b => RowsW σ sz b fun p ys => p = true ∧ CopyW σ sz a ys K
  | .s2b x => evR fr x fun | .str s => s.length ≤ 9223372036854775807 ∧ K (.rsl σ.length 0 0 s.length none) (newB σ 1 (s.map fun b => [.int .u8 b.toNat]) true) | _ => False
  | .mark x => evR fr x fun | .rsl id gen off len cap => blkAt σ id gen fun b => b.wr = true ∧ 0 < len ∧ K (.rsl id gen off len cap) σ | _ => False
  | .mkmap => K (.rsl σ.length 0 0 0 none) (σ ++ [mblk [] 0])
  | .look c z x k => evR fr x fun a => evR fr k fun j => keyR j fun n => MapW σ a fun _ _ es _ => LookW (mget es n) (lookR c z σ K)
  | .upd x k v => evR fr x fun a => evR fr k fun j => keyR j fun n => evR fr v fun y => litK y fun m => MapW σ a fun id b es clock => K (.tup []) (σ.set id { b with ext := some (.map (mputE es n m clock) (mputC es n clock)) })
  | .del x k => evR fr x fun a => evR fr k fun j => keyR j fun n => MapW σ a fun id b es clock => K (.tup []) (σ.set id { b with ext := some (.map (mdel es n) clock) })
  | .clr x => evR fr x fun a => MapW σ a fun id b _ clock => K (.tup []) (σ.set id { b with ext := some (.map [] clock) })
  | .rng x => evR fr x fun a => MapW σ a fun id b _ clock => K (.ptr σ.length 0 0 0) (σ ++ [iblk id b.gen clock [] clock])
  | .next x => evR fr x fun a => NextW σ a K
  | .entry x => evR fr x fun a => EntryW σ a K
  | .call f args => match evs fr args with | some l => C f l σ K | none => False
  | .callv f args => evR fr f fun | .fn g caps => (match evs fr args with | some l => C g (l ++ caps) σ K | none => False) | .rsl id gen 1 0 none => (match evs fr args with | some l => C yno (.rsl id gen 1 0 none :: l) σ K | none => False) | .fnb g pre caps => (match evs fr args with | some l => C g (pre ++ l ++ caps) σ K | none => False) | _ => False

/-- Makes the equations here, once. -/
theorem efI_call {C : CallP} {σ : AH} {fr : Fr} {f : Nat} {args : List Opd} {K : AV → AH → Prop} : efI C σ fr (.call f args) K = (match evs fr args with | some l => C f l σ K | none => False) := by simp only [efI]

/-! ### Regions, code -/
def guardR (fr : Fr) (g : Option (Nat × Bool)) (run skip : Prop) : Prop :=
  match g with
  | none => run
  | some (t, b) => match fr.get t with
    | some (.bool c) => (match c == b with | true => run | false => skip)
    | _ => False

/-- The same: what follows stands once. -/
def guardM (fr : Fr) (g : Option (Nat × Bool)) (σ : AH) (run : (AV → AH → Prop) → Prop) (K : AV → AH → Prop) : Prop :=
  match g with
  | none => run K
  | some (t, b) => match fr.get t with
    | some (.bool c) => (match c == b with | true => run K | false => K (.tup []) σ)
    | some (.tup []) => K (.tup []) σ
    | _ => False
def runI (C : CallP) (σ : AH) (fr : Fr) (i : RI ⊕ EI) (K : AV → AH → Prop) : Prop :=
  match i with
  | .inl i => roI σ fr i fun x => K x σ
  | .inr e => efI C σ fr e K

def regI (C : CallP) : List GI → Fr → AH → (Fr → AH → Prop) → Prop
  | [], fr, σ, K => K fr σ
  | g :: r, fr, σ, K => guardM fr g.guard σ (runI C σ fr g.i) fun x σ' => fr.putOK g.dst x fun fr' => regI C r fr' σ' K

/-! ### Regions whose order is drawn: walked in an order of our own -/
inductive Ref where
  | sh (id : Nat)
  | co (id : Nat)
def shOf : AV → List Ref
  | .rsl id _ _ _ _ => [.sh id]
  | .ptr id _ _ _ => [.sh id]
  | _ => []
def coOf : AV → List Ref
  | .rsl id _ _ _ _ => [.co id]
  | .ptr id _ _ _ => [.co id]
  | _ => []
def refOf (f : AV → List Ref) (fr : Fr) (x : Opd) : List Ref :=
  match ev fr x with
  | some v => f v
  | none => []
def RI.refs (fr : Fr) : RI → List Ref
  | .eqnil _ x => refOf shOf fr x
  | .b2s x => refOf coOf fr x
  | .eqnilp _ x => refOf shOf fr x
  | .faddr _ x => refOf shOf fr x
  | .iaddr _ x _ => refOf shOf fr x
  | .iaddrA _ _ x _ => refOf shOf fr x
  | .slice _ x _ _ _ => refOf shOf fr x
  | .load _ _ a => refOf coOf fr a
  | .len x => refOf shOf fr x
  | .cap x => refOf shOf fr x
  | .nilchk x => refOf shOf fr x
  | _ => []
def Ref.ok (σ σ' : AH) : Ref → Prop
  | .sh id => ∀ b, σ[id]? = some b → ∃ b', σ'[id]? = some b' ∧ b'.gen = b.gen ∧ b'.sz = b.sz ∧ b'.els.length = b.els.length ∧ b'.full = b.full ∧ b'.ext = b.ext
  | .co id => ∀ b, σ[id]? = some b → ∃ b', σ'[id]? = some b' ∧ b'.gen = b.gen ∧ b'.sz = b.sz ∧ b'.els = b.els ∧ b'.pure = b.pure ∧ b'.ext = b.ext
def allOk (σ σ' : AH) : List Ref → Prop → Prop
  | [], p => p
  | r :: rs, p => Ref.ok σ σ' r ∧ allOk σ σ' rs p
def okG (σ σ' : AH) (chk : List Nat) : List (Nat × List Ref) → Prop → Prop
  | [], p => p
  | (j, rs) :: r, p => match memN j chk with
    | true => allOk σ σ' rs (okG σ σ' chk r p)
    | false => okG σ σ' chk r p
def okL (σ σ' : AH) (chk : List Nat) (R : List (Nat × List Ref)) (p : Prop) : Prop :=
  match chk with
  | [] => p
  | c :: l => okG σ σ' (c :: l) R p
def refsI (fr : Fr) (i : RI ⊕ EI) : List Ref :=
  match i with
  | .inl i => i.refs fr
  | .inr _ => []
def recK (k : Bool) (p : Nat × List Ref) (R : List (Nat × List Ref)) : List (Nat × List Ref) :=
  match k with
  | true => p :: R
  | false => R

/-- As it is stepped through. -/
def ordI (C : CallP) : List OI → Fr → AH → List (Nat × List Ref) → (Fr → AH → Prop) → Prop
  | [], fr, σ, R, K => K fr σ
  | o :: r, fr, σ, R, K => guardM fr o.g.guard σ (runI C σ fr o.g.i) fun x σ' => okL σ σ' o.chk R (fr.putOK o.g.dst x fun fr' => ordI C r fr' σ' (recK o.keep (o.ix, refsI fr o.g.i) R) K)

abbrev KN := Fr → AH → Prop
abbrev KX := Nat → Fr → AH → Prop

/-- Some number of rounds, told by what stands at each round's begin. -/
def ALoop (F : Fr → AH → KN → Prop) (live : List Nat) (fr : Fr) (σ : AH) : Prop :=
  ∃ I : Nat → Fr → AH → Prop, (∃ n, I n fr σ) ∧ ∀ n fr σ, I n fr σ → Fr.keepK live fr fun fr0 => F fr0 σ fun fr' σ' => ∃ m, m < n ∧ I m fr' σ'

/-- Operations in whatever order, each behind those that it waits for (chk): told by what holds when some are done. -/
structure ParW (C : CallP) (l : List OI) (fr : Fr) (σ : AH) (N : KN) : Prop where
  of ::
  ok : ∃ I : (Nat → Bool) → Fr → AH → Prop, I (fun _ => false) fr σ ∧
    (∀ d fr σ, I d fr σ → ∀ o, o ∈ l → d o.ix = false → (∀ e, e ∈ o.chk → d e = true) → guardM fr o.g.guard σ (runI C σ fr o.g.i) fun x σ' => fr.putOK o.g.dst x fun fr' => I (fun j => if j = o.ix then true else d j) fr' σ') ∧
    (∀ d fr σ, I d fr σ → (∀ o, o ∈ l → d o.ix = true) → N fr σ)
/-- The record of a range over a function, as a block of the call's own. -/
def lblk (l : Loop) : Blk := { sz := 0, els := [], gen := 0, wr := true, pure := false, ext := some (.loop l) }
/-- The frame of a round. -/
def roundFr : Fr → List Nat → List AV → Option Fr
  | fr, [], [] => some fr
  | fr, p :: ps, x :: xs => roundFr (fr.put p x) ps xs
  | _, _, _ => none
/-- An iterator that is run, f with what it has captured: what yield asks (Y), what holds behind it. -/
abbrev IterP := Nat → List AV → AH → Nat → (List AV → AH → (AV → AH → Prop) → Prop) → (AH → Prop) → Prop
/-- The state of such a record. -/
def lst (lr : Loop) (s : LoopState) : Loop := { lr with state := s, pending := none }
/-- The precondition of commands: N: what holds where they come to their end; X: where they leave a block; R: where they return. -/
def awp (C : CallP) (I : IterP) : Cmd → Fr → AH → KN → KX → KN → Prop
  | .skip, fr, σ, N, _, _ => N fr σ
  | .reg is, fr, σ, N, _, _ => regI C is fr σ N
  | .ord l, fr, σ, N, _, _ => ordI C l fr σ [] N
  | .par l, fr, σ, N, _, _ => ParW C l fr σ N
  | .seq a b, fr, σ, N, X, R => awp C I a fr σ (fun fr' σ' => awp C I b fr' σ' N X R) X R
  | .cond c a b, fr, σ, N, X, R => evR fr c fun
    | .bool t => (match t with | true => awp C I a fr σ N X R | false => awp C I b fr σ N X R)
    | _ => False
  | .block id b, fr, σ, N, X, R => awp C I b fr σ N (fun id' fr' σ' => if id' = id then N fr' σ' else X id' fr' σ') R
  | .loop live b, fr, σ, _, X, R => ALoop (fun fr σ N => awp C I b fr σ N X R) live fr σ
  | .keep live, fr, σ, N, _, _ => Fr.keepK live fr fun fr' => N fr' σ
  | .exit id, fr, σ, _, X, _ => X id fr σ
  | .ret, fr, σ, _, _, R => R fr σ
  | .stuck, _, _, _, _, _ => False
  | .rfun g ps a b, fr, σ, N, _, _ => evR fr g fun
    | .fn f caps => ∀ lr : Loop, I f caps (σ ++ [lblk (lst lr .ready)]) σ.length
        (fun l σ1 K => ∃ xs fr1, l = .rsl σ.length 0 1 0 none :: xs ∧ roundFr fr ps xs = some fr1 ∧ σ1[σ.length]? = some (lblk (lst lr .ready)) ∧
          awp C I a fr1 σ1 (fun fr2 σ2 => σ2[σ.length]? = some (lblk (lst lr .ready)) ∧
            awp C I b fr2 (σ2.set σ.length (lblk (lst lr .busy)))
              (fun _ σ3 => σ3[σ.length]? = some (lblk (lst lr .busy)) ∧ K (.bool true) (σ3.set σ.length (lblk (lst lr .ready)))) (fun _ _ _ => False) (fun _ _ => False))
            (fun _ _ _ => False) (fun _ _ => False))
        fun σ4 => σ4[σ.length]? = some (lblk (lst lr .ready)) ∧ N fr (σ4.set σ.length (lblk (lst lr .exhausted)))
    | _ => False

/-- What a function hands back. -/
inductive RV where
  | t (n : Nat)
  | cell (n : Nat) (agg : Bool) (sz : Nat)

def resR (σ : AH) (fr : Fr) : List RV → (List AV → Prop) → Prop
  | [], K => K []
  | .t n :: r, K => evR fr (.t n) fun x => resR σ fr r fun l => K (x :: l)
  | .cell n agg sz :: r, K => roI σ fr (.load agg sz (.t n)) fun x => resR σ fr r fun l => K (x :: l)

def packA : List AV → AV
  | [x] => x
  | l => .tup l

def fr0 : Nat → List AV → Fr
  | _, [] => []
  | n, x :: r => (n, x) :: fr0 (n + 1) r

/-- A whole body. -/
def bodyA (C : CallP) (I : IterP) (c : Cmd) (res : List RV) (args : List AV) (σ : AH) (Q : AV → AH → Prop) : Prop :=
  awp C I c (fr0 0 args) σ (fun fr σ' => resR σ' fr res fun l => Q (packA l) σ') (fun _ _ _ => False) (fun fr σ' => resR σ' fr res fun l => Q (packA l) σ')

end Go.Proofs.Ytppccaacbpkgiaa.V
