import Derived.Test.YthakanioekmhbaaPlaw01
namespace Go.Proofs.Ythakanioekmhbaa
open Go Go.Proofs.Ythakanioekmhbaa.V
set_option maxRecDepth 20000
attribute [local irreducible] CallS AOK AOKn ALoop Side Ref.ok
/-! ### Words, plain -/
def wd (s : List UInt8) (i : Nat) : List UInt8 := (s.drop (i * 8)).take 8
def val : List UInt8 → Nat
  | [] => 0
  | b :: w => b.toNat + 256 * val w
def okW (w : List UInt8) : Bool := decide ((w.getD 7 0).toNat < 64)
def le : Nat → Nat → List UInt8
  | 0, _ => []
  | k + 1, n => UInt8.ofNat n :: le k (n / 256)
theorem le_length : ∀ (k n : Nat), (le k n).length = k
  | 0, _ => rfl
  | k + 1, n => by simp [le, le_length k]
theorem le_get : ∀ (k n j : Nat), j < k → (le k n)[j]? = some (UInt8.ofNat (n / 256 ^ j))
  | 0, n, j, h => by omega
  | k + 1, n, 0, h => by simp [le]
  | k + 1, n, j + 1, h => by
    simp only [le, List.getElem?_cons_succ]
    rw [le_get k (n / 256) j (by omega), Nat.div_div_eq_div_mul, Nat.pow_succ, Nat.mul_comm]
theorem val_lt : ∀ w : List UInt8, val w < 256 ^ w.length
  | [] => by simp [val]
  | b :: w => by
    have h1 := val_lt w
    have h2 := b.toNat_lt
    simp only [val, List.length_cons, Nat.pow_succ]
    omega
theorem val_top : ∀ (w : List UInt8) (m : Nat), w.length = m + 1 → (w.getD m 0).toNat < 64 → val w < 64 * 256 ^ m
  | [b], 0, _, h => by simpa [val] using h
  | b :: c :: w, m + 1, hl, h => by
    have h1 := val_top (c :: w) m (by simpa using hl) (by simpa using h)
    have h2 := b.toNat_lt
    simp only [val, Nat.pow_succ] at h1 ⊢
    omega
theorem val_le : ∀ (k n : Nat), val (le k n) = n % 256 ^ k
  | 0, n => by simp [le, val, Nat.mod_one]
  | k + 1, n => by
    simp only [le, val, val_le k]
    rw [UInt8.toNat_ofNat', show 256 ^ (k + 1) = 256 * 256 ^ k from by rw [Nat.pow_succ, Nat.mul_comm], Nat.mod_mul]
theorem le_val : ∀ (w : List UInt8), le w.length (val w) = w
  | [] => rfl
  | b :: w => by
    have h := b.toNat_lt
    simp only [val, le, List.length_cons, List.cons.injEq]
    refine ⟨?_, ?_⟩
    · apply UInt8.toNat_inj.1
      rw [UInt8.toNat_ofNat']
      omega
    · rw [show (b.toNat + 256 * val w) / 256 = val w from by omega]
      exact le_val w
theorem byte_at (n i : Nat) (hi : i < 8) : ((n : Int).fdiv (2 ^ min (8 * (i : Int)).toNat IntKind.i64.bits) % 256) = ((UInt8.ofNat (n / 256 ^ i)).toNat : Int) := by
  have e1 : min (8 * (i : Int)).toNat IntKind.i64.bits = 8 * i := by
    show min (8 * (i : Int)).toNat 64 = 8 * i
    omega
  have e2 : (2 : Int) ^ (8 * i) = ((256 ^ i : Nat) : Int) := by
    rw [Int.pow_mul]; norm_cast
  rw [e1, e2, fdiv_nat, UInt8.toNat_ofNat']
  norm_cast
theorem set_mid {α : Type} (A B : List α) (k : Nat) (b c : α) (h : k = A.length) : (A ++ c :: B).set k b = A ++ b :: B := by
  subst h
  simp
theorem wr_step (s l : List UInt8) (off i : Nat) (b : UInt8) (hb : l[i]? = some b) (ho : off + i < s.length) : (s.take off ++ l.take i ++ s.drop (off + i)).set (off + i) b = s.take off ++ l.take (i + 1) ++ s.drop (off + (i + 1)) := by
  have hil := (List.getElem?_eq_some_iff.1 hb).1
  rw [List.drop_eq_getElem_cons ho, set_mid _ _ _ _ _ (by simp; omega), List.take_add_one, hb]
  simp [Nat.add_assoc]
theorem wd_length {s : List UInt8} {i : Nat} (h : i < s.length / 8) : (wd s i).length = 8 := by
  simp only [wd, List.length_take, List.length_drop]; omega
theorem val_drop {w : List UInt8} {j : Nat} {b : UInt8} (h : w[j]? = some b) : val (w.drop j) = b.toNat + 256 * val (w.drop (j + 1)) := by
  have hlt := (List.getElem?_eq_some_iff.1 h).1
  have e := (List.getElem?_eq_some_iff.1 h).2
  rw [List.drop_eq_getElem_cons hlt, e]
  rfl
def inR (s : List UInt8) (at' : Int) : Bool := decide (0 ≤ at' ∧ at' < (s.length : Int) / 8)
def getOk (s : List UInt8) (at' : Int) : Bool := inR s at' && okW (wd s at'.toNat)
def getV (s : List UInt8) (at' : Int) : Nat := if getOk s at' then val (wd s at'.toNat) else 0
def mayW (n : Int) : Bool := decide (0 ≤ n ∧ n ≤ 4611686018427387903)
def putE (s : List UInt8) (at' n : Int) : Int := if inR s at' then (if mayW n then 0 else 4) else 1
def put1 (s : List UInt8) (i n : Nat) : List UInt8 := s.take (i * 8) ++ le 8 n ++ s.drop (i * 8 + 8)
def putR (s : List UInt8) (at' n : Int) : List UInt8 := if putE s at' n = 0 then put1 s at'.toNat n.toNat else []
def cat (l : List Int) : List UInt8 := (l.map fun n => le 8 n.toNat).flatten
def ofE (l : List Int) : Int := if l.all mayW then 0 else 4
def ofR (l : List Int) : List UInt8 := if l.all mayW then cat l else []
def vals (s : List UInt8) (k : Nat) : List Int := (List.range k).map fun i => (val (wd s i) : Int)
def allOk (s : List UInt8) : Bool := decide (s.length % 8 = 0) && (List.range (s.length / 8)).all fun i => okW (wd s i)
def allR (s : List UInt8) : List Int := if allOk s then vals s (s.length / 8) else []
theorem put1_length (s : List UInt8) (i n : Nat) (h : i * 8 + 8 ≤ s.length) : (put1 s i n).length = s.length := by
  simp [put1, le_length]; omega
theorem cat_append (l m : List Int) : cat (l ++ m) = cat l ++ cat m := by simp [cat]
theorem cat_one (n : Int) : cat [n] = le 8 n.toNat := by simp [cat]
theorem cat_length : ∀ l : List Int, (cat l).length = l.length * 8
  | [] => rfl
  | n :: l => by
    have : cat (n :: l) = le 8 n.toNat ++ cat l := rfl
    rw [this, List.length_append, le_length, cat_length l, List.length_cons]; omega
/-- What stands after k of the words. -/
def ofK (l : List Int) (k : Nat) : List UInt8 := cat (l.take k) ++ List.replicate ((l.length - k) * 8) 0
theorem ofK_length (l : List Int) (k : Nat) (h : k ≤ l.length) : (ofK l k).length = l.length * 8 := by
  simp [ofK, cat_length]; omega
theorem ofK_succ (l : List Int) (k : Nat) (n : Int) (h : l[k]? = some n) : put1 (ofK l k) k n.toNat = ofK l (k + 1) := by
  have hk := (List.getElem?_eq_some_iff.1 h).1
  have e0 : (cat (l.take k)).length = k * 8 := by rw [cat_length, List.length_take]; omega
  unfold put1 ofK
  rw [List.take_append_of_le_length (by omega), List.take_of_length_le (by omega), List.drop_append, List.drop_of_length_le (by omega), List.take_add_one, h]
  simp only [Option.toList_some, cat_append, cat_one, List.nil_append, List.drop_replicate, e0]
  congr 2
  omega
/-! ### The functions -/
end Go.Proofs.Ythakanioekmhbaa
