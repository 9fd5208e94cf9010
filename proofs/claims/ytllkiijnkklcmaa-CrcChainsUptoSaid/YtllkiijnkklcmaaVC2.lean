/-
  VC2: a read-only instruction's precondition tells what the machine's operation yields, in whatever world keeps the old blocks.
-/
import Derived.Test.YtllkiijnkklcmaaVC
import Derived.Laws.Strings
namespace Go.Proofs.Ytllkiijnkklcmaa.V
open Go Go.RowKit
variable [Zone]

section
variable {P : Program} {w : World} {E : Env} {σ : AH} {fr : Fr} {a : Act} {K : AV → Prop}

/-- What an operation's semantics yields: one value, in every world that keeps the old blocks. -/
def Yields (P : Program) (w : World) (E : Env) (s : Sem Value) (K : AV → Prop) : Prop := ∃ v x, Rep w E v x ∧ K x ∧ ∀ w', Old w w' → s.run P w' = .ok v w'

theorem Yields.pure {v : Value} {x : AV} (hr : Rep w E v x) (hk : K x) : Yields P w E (Pure.pure v) K := ⟨v, x, hr, hk, fun _ _ => rfl⟩
theorem Yields.of {s : Sem Value} {v : Value} {x : AV} (hr : Rep w E v x) (hk : K x) (h : ∀ w', Old w w' → s.run P w' = .ok v w') : Yields P w E s K := ⟨v, x, hr, hk, h⟩

theorem rep_int (k : IntKind) (n : Int) : Rep w E (.int k n) (.int k n) := .pure (.int k n)
theorem rep_bool (b : Bool) : Rep w E (.bool b) (.bool b) := .pure (.bool b)

omit [Zone] in
theorem beq_int (x y : Int) : (x == y) = decide (x = y) := by
  by_cases h : x = y
  · subst h; simp
  · simp [h]

theorem binI_yields {op : BinOp} {k k' : IntKind} {x y : Int} (t : TypeId) (h : binI op k x k' y K) : Yields P w E (binOp op t (.int k x) (.int k' y)) K := by
  cases op <;> simp only [binI] at h
  case add => obtain ⟨rfl, h⟩ := h; exact .of (rep_int _ _) (arithR_elim h) fun w' _ => by simp [binOp, Op.intArith]
  case sub => obtain ⟨rfl, h⟩ := h; exact .of (rep_int _ _) (arithR_elim h) fun w' _ => by simp [binOp, Op.intArith]
  case mul => obtain ⟨rfl, h⟩ := h; exact .of (rep_int _ _) (arithR_elim h) fun w' _ => by simp [binOp, Op.intArith]
  case quo => obtain ⟨rfl, h0, h⟩ := h; exact .of (rep_int _ _) (quo_elim h) fun w' _ => by simp [binOp, Op.intDiv, h0]
  case rem => obtain ⟨rfl, h0, h⟩ := h; exact .of (rep_int _ _) (rem_elim h) fun w' _ => by simp [binOp, Op.intDiv, h0]
  case and => obtain ⟨rfl, h⟩ := h; exact .of (rep_int _ _) h fun w' _ => by simp [binOp, Op.intBits]
  case or => obtain ⟨rfl, h⟩ := h; exact .of (rep_int _ _) h fun w' _ => by simp [binOp, Op.intBits]
  case xor => obtain ⟨rfl, h⟩ := h; exact .of (rep_int _ _) h fun w' _ => by simp [binOp, Op.intBits]
  case andNot => obtain ⟨rfl, h⟩ := h; exact .of (rep_int _ _) h fun w' _ => by simp [binOp, Op.intBits]
  case shl => obtain ⟨h0, h⟩ := h; exact .of (rep_int _ _) h fun w' _ => by simp [binOp, Op.shift, Int.not_lt.2 h0]
  case shr => obtain ⟨h0, h⟩ := h; exact .of (rep_int _ _) h fun w' _ => by simp [binOp, Op.shift, Int.not_lt.2 h0]
  case eql => obtain ⟨rfl, h⟩ := h; exact .of (rep_bool _) (boolR_elim h) fun w' _ => by simp [binOp, Op.intCmp, beq_int]
  case neq => obtain ⟨rfl, h⟩ := h; exact .of (rep_bool _) (boolR_elim h) fun w' _ => by simp [binOp, Op.intCmp, bne, beq_int]
  case lss => obtain ⟨rfl, h⟩ := h; exact .of (rep_bool _) (boolR_elim h) fun w' _ => by simp [binOp, Op.intCmp]
  case leq => obtain ⟨rfl, h⟩ := h; exact .of (rep_bool _) (boolR_elim h) fun w' _ => by simp [binOp, Op.intCmp]
  case gtr => obtain ⟨rfl, h⟩ := h; exact .of (rep_bool _) (boolR_elim h) fun w' _ => by simp [binOp, Op.intCmp]
  case geq => obtain ⟨rfl, h⟩ := h; exact .of (rep_bool _) (boolR_elim h) fun w' _ => by simp [binOp, Op.intCmp]

omit [Zone] in
theorem eqGuard_scalar (op : BinOp) (t : TypeId) (x y : Operand) {va vb : Value} (h : (∃ k n, va = .int k n) ∨ (∃ b, va = .bool b) ∨ (∃ s, va = .string s) ∨ (∃ a n c, va = .slice a n c)) (w' : World) : (eqGuard op t x y va vb).run P w' = .ok () w' := by
  rcases h with ⟨k, n, rfl⟩ | ⟨b, rfl⟩ | ⟨s, rfl⟩ | ⟨a, n, c, rfl⟩ <;> (unfold eqGuard; split <;> simp)


omit [Zone] in
theorem string_beq (a b : ByteArray) : (a.toList == b.toList) = decide (a.data.toList = b.data.toList) := by
  rw [ByteArray.toList_eq, ByteArray.toList_eq]
  by_cases h : a.data.toList = b.data.toList
  · simp [h]
  · rw [decide_eq_false h]; simpa using h


theorem guard_then {op : BinOp} {t : TypeId} {x y : Operand} {va vb : Value} {s : Sem Value} (h : (∃ k n, va = .int k n) ∨ (∃ b, va = .bool b) ∨ (∃ s, va = .string s) ∨ (∃ a n c, va = .slice a n c)) (hy : Yields P w E s K) :
    Yields P w E (do eqGuard op t x y va vb; s) K := by
  obtain ⟨v, z, h1, h2, h3⟩ := hy
  exact ⟨v, z, h1, h2, fun w' ho => by simp only [Sem.run_bind, eqGuard_scalar op t x y h, Result.andThen_ok, h3 w' ho]⟩

omit [Zone] in
theorem bool_equalIn (d : Nat) (t : TypeId) (hu : P.underlying t = some .bool) (x y : Bool) (w' : World) : (Op.equalIn (d + 1) t (.bool x) (.bool y)).run P w' = .ok (decide (x = y)) w' := by
  simp only [Op.equalIn, Sem.run_bind, run_underlying hu, Result.andThen_ok, Sem.run_pure]
  cases x <;> cases y <;> rfl
omit [Zone] in
theorem bool_equal (t : TypeId) (hu : P.underlying t = some .bool) (x y : Bool) (w' : World) : (Op.equal t (.bool x) (.bool y)).run P w' = .ok (decide (x = y)) w' := bool_equalIn 9999 t hu x y w'

omit [Zone] in
theorem nil_equalIn (d : Nat) (t e : TypeId) (hu : P.underlying t = some (.slice e)) (ad : Option Addr) (n c : Nat) (w' : World) : (Op.equalIn (d + 1) t (.slice ad n c) (.slice none 0 0)).run P w' = .ok ad.isNone w' := by
  cases ad <;> simp [Op.equalIn, Sem.run_bind, run_underlying hu]
omit [Zone] in
theorem nil_equal (t e : TypeId) (hu : P.underlying t = some (.slice e)) (ad : Option Addr) (n c : Nat) (w' : World) : (Op.equal t (.slice ad n c) (.slice none 0 0)).run P w' = .ok ad.isNone w' := nil_equalIn 9999 t e hu ad n c w'

theorem bin_yields {op : BinOp} {t : TypeId} {x y : Operand} {i : RI} (hc : cBin P op t x y = some i) (hf : FrOk w E fr a) (hr : Rel σ E w) (h : roI σ fr i K) :
    Yields P w E (do eqGuard op t x y (a.eval x) (a.eval y); binOp op t (a.eval x) (a.eval y)) K := by
  unfold cBin at hc
  split at hc
  · rename_i k hu
    split at hc
    · rename_i a' b' ha hb
      cases hc
      simp only [roI] at h
      obtain ⟨p, hp, h⟩ := evR_ok hf ha h
      split at h
      · obtain ⟨q, hq, h⟩ := evR_ok hf hb h
        split at h
        · have e1 := hp.int_inv; have e2 := hq.int_inv
          refine guard_then (.inl ⟨_, _, e1⟩) ?_
          rw [e1, e2]; exact binI_yields t h
        · exact h.elim
      · exact h.elim
    · cases hc
  · rename_i hu
    split at hc
    · rename_i a' b' ha hb
      cases hc
      simp only [roI] at h
      obtain ⟨p, hp, h⟩ := evR_ok hf ha h
      split at h
      · obtain ⟨q, hq, h⟩ := evR_ok hf hb h
        split at h
        · have e1 := hp.bool_inv; have e2 := hq.bool_inv
          refine guard_then (.inr (.inl ⟨_, e1⟩)) ?_
          rw [e1, e2]
          unfold binB at h
          split at h
          · exact .of (rep_bool _) (boolR_elim h) fun w' _ => by simp [binOp, bool_equal t hu]
          · exact .of (rep_bool _) (boolR_elim h) fun w' _ => by simp [binOp, bool_equal t hu]
          · exact h.elim
        · exact h.elim
      · exact h.elim
    · cases hc
  · rename_i hu
    split at hc
    · rename_i a' b' ha hb
      cases hc
      simp only [roI] at h
      obtain ⟨p, hp, h⟩ := evR_ok hf ha h
      split at h
      · obtain ⟨q, hq, h⟩ := evR_ok hf hb h
        split at h
        · obtain ⟨s1, e1, rfl⟩ := hp.str_inv
          obtain ⟨s2, e2, rfl⟩ := hq.str_inv
          refine guard_then (.inr (.inr (.inl ⟨_, e1⟩))) ?_
          rw [e1, e2]
          unfold binS at h
          split at h
          · exact .of (rep_bool _) (boolR_elim h) fun w' _ => by simp only [binOp, Op.stringOp, Sem.run_pure, string_beq]
          · exact .of (rep_bool _) (boolR_elim h) fun w' _ => by simp only [binOp, Op.stringOp, Sem.run_pure, string_beq, decide_not]
          · exact h.elim
        · exact h.elim
      · exact h.elim
    · cases hc
  · rename_i e hu
    split at hc
    · rename_i hn
      have hy : a.eval y = .slice none 0 0 := by
        unfold isNilC at hn
        split at hn
        · rfl
        · cases hn
      split at hc
      · rename_i a' ha
        have fin : ∀ ne, (op = .eql ∧ ne = false ∨ op = .neq ∧ ne = true) → roI σ fr (.eqnil ne a') K → Yields P w E (do eqGuard op t x y (a.eval x) (a.eval y); binOp op t (a.eval x) (a.eval y)) K := by
          intro ne hop h
          simp only [roI] at h
          obtain ⟨p, hp, h⟩ := evR_ok hf ha h
          have run : ∀ ad n c, a.eval x = .slice ad n c → K (.bool (ad.isNone != ne)) → Yields P w E (do eqGuard op t x y (a.eval x) (a.eval y); binOp op t (a.eval x) (a.eval y)) K := by
            intro ad n c e1 hk
            refine guard_then (.inr (.inr (.inr ⟨_, _, _, e1⟩))) ?_
            rw [e1, hy]
            rcases hop with ⟨rfl, rfl⟩ | ⟨rfl, rfl⟩
            · exact .of (rep_bool _) hk fun w' _ => by simp [binOp, nil_equal t e hu]
            · exact .of (rep_bool _) hk fun w' _ => by simp [binOp, nil_equal t e hu]
          replace h := h.ok
          unfold eqnilR at h
          split at h
          · exact run _ _ _ hp.nils_inv (by cases ne <;> simpa using h)
          · rename_i sz l nn
            rcases hp.sl_inv with ⟨e1, e2⟩ | ⟨ad, cap, cs, e1, _⟩
            · exact run _ _ _ e1 (by have := (h.1 e2).2; cases ne <;> simpa using this)
            · refine run _ _ _ e1 ?_
              by_cases hl : l = []
              · have := (h.1 hl).1; cases ne <;> simpa using this
              · have := h.2 hl; cases ne <;> simpa using this
          · rename_i id gen off len cap
            obtain ⟨b, m, hb, hm, hok, hg1, hg2, h⟩ := blkAt_elim hr h
            have hs := hp.rsl_inv hm hg2
            unfold RslOk at hs
            split at hs
            · obtain ⟨h1, h2, _⟩ := hs
              obtain ⟨k1, k2⟩ := h.1 h2
              rcases h1 with h1 | ⟨ad, h1⟩
              · exact run _ _ _ h1 (by cases ne <;> simpa using k2)
              · exact run _ _ _ h1 (by cases ne <;> simpa using k1)
            · obtain ⟨ad, k, h1, _⟩ := hs
              refine run _ _ _ h1 ?_
              by_cases hl : len = 0
              · have := (h.1 hl).1; cases ne <;> simpa using this
              · have := h.2 hl; cases ne <;> simpa using this
          · exact h.elim
        split at hc
        · rename_i he; cases hc; exact fin false (.inl ⟨he, rfl⟩) h
        · split at hc
          · rename_i he; cases hc; exact fin true (.inr ⟨he, rfl⟩) h
          · cases hc
      · cases hc
    · cases hc
  · cases hc

end
end Go.Proofs.Ytllkiijnkklcmaa.V
