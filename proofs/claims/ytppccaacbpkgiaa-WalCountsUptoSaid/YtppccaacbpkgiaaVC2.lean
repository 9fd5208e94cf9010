/-
  VC2: a read-only instruction's precondition tells what the machine's operation yields, in whatever world keeps the old blocks.
-/
import Derived.Test.YtppccaacbpkgiaaVC
import Derived.Laws.StructEq
import Derived.Laws.Strings
namespace Go.Proofs.Ytppccaacbpkgiaa.V
open Go Go.RowKit
variable [Zone]

section
variable {P : Program} {w : World} {E : Env} {σ : AH} {fr : Fr} {a : Act} {K : AV → Prop}

/-- What an operation's semantics yields: one value, in every world that keeps the old blocks. -/
def Yields (P : Program) (w : World) (E : Env) (s : Sem Value) (K : AV → Prop) : Prop := ∃ v x, Rep w E v x ∧ K x ∧ ∀ w', Old w w' → s.run P w' = .ok v w'

theorem Yields.pure {v : Value} {x : AV} (hr : Rep w E v x) (hk : K x) : Yields P w E (Pure.pure v) K := ⟨v, x, hr, hk, fun _ _ => rfl⟩
theorem Yields.of {s : Sem Value} {v : Value} {x : AV} (hr : Rep w E v x) (hk : K x) (h : ∀ w', Old w w' → s.run P w' = .ok v w') : Yields P w E s K := ⟨v, x, hr, hk, h⟩

theorem rep_int (k : IntKind) (n : Int) : Rep w E (.int k n) (.int k n) := .pure (.int k n)
theorem rep_bool (b : Bool) : Rep w E (.bool b) (.bool b) := .pure (.bool b)

omit [Zone] in
theorem beq_int (x y : Int) : (x == y) = decide (x = y) := by
  by_cases h : x = y
  · subst h; simp
  · simp [h]

theorem binI_yields {op : BinOp} {k k' : IntKind} {x y : Int} (t : TypeId) (h : binI op k x k' y K) : Yields P w E (binOp op t (.int k x) (.int k' y)) K := by
  cases op <;> simp only [binI] at h
  case add => obtain ⟨rfl, h⟩ := h; exact .of (rep_int _ _) (arithR_elim h) fun w' _ => by simp [binOp, Op.intArith]
  case sub => obtain ⟨rfl, h⟩ := h; exact .of (rep_int _ _) (arithR_elim h) fun w' _ => by simp [binOp, Op.intArith]
  case mul => obtain ⟨rfl, h⟩ := h; exact .of (rep_int _ _) (arithR_elim h) fun w' _ => by simp [binOp, Op.intArith]
  case quo => obtain ⟨rfl, h0, h⟩ := h; exact .of (rep_int _ _) (quo_elim h) fun w' _ => by simp [binOp, Op.intDiv, h0]
  case rem => obtain ⟨rfl, h0, h⟩ := h; exact .of (rep_int _ _) (rem_elim h) fun w' _ => by simp [binOp, Op.intDiv, h0]
  case and => obtain ⟨rfl, h⟩ := h; exact .of (rep_int _ _) h fun w' _ => by simp [binOp, Op.intBits]
  case or => obtain ⟨rfl, h⟩ := h; exact .of (rep_int _ _) h fun w' _ => by simp [binOp, Op.intBits]
  case xor => obtain ⟨rfl, h⟩ := h; exact .of (rep_int _ _) h fun w' _ => by simp [binOp, Op.intBits]
  case andNot => obtain ⟨rfl, h⟩ := h; exact .of (rep_int _ _) h fun w' _ => by simp [binOp, Op.intBits]
  case shl => obtain ⟨h0, h⟩ := h; exact .of (rep_int _ _) h fun w' _ => by simp [binOp, Op.shift, Int.not_lt.2 h0]
  case shr => obtain ⟨h0, h⟩ := h; exact .of (rep_int _ _) h fun w' _ => by simp [binOp, Op.shift, Int.not_lt.2 h0]
  case eql => obtain ⟨rfl, h⟩ := h; exact .of (rep_bool _) (boolR_elim h) fun w' _ => by simp [binOp, Op.intCmp, beq_int]
  case neq => obtain ⟨rfl, h⟩ := h; exact .of (rep_bool _) (boolR_elim h) fun w' _ => by simp [binOp, Op.intCmp, bne, beq_int]
  case lss => obtain ⟨rfl, h⟩ := h; exact .of (rep_bool _) (boolR_elim h) fun w' _ => by simp [binOp, Op.intCmp]
  case leq => obtain ⟨rfl, h⟩ := h; exact .of (rep_bool _) (boolR_elim h) fun w' _ => by simp [binOp, Op.intCmp]
  case gtr => obtain ⟨rfl, h⟩ := h; exact .of (rep_bool _) (boolR_elim h) fun w' _ => by simp [binOp, Op.intCmp]
  case geq => obtain ⟨rfl, h⟩ := h; exact .of (rep_bool _) (boolR_elim h) fun w' _ => by simp [binOp, Op.intCmp]

omit [Zone] in
theorem eqGuard_ptr (op : BinOp) (t : TypeId) (x y : Operand) (p q : Option Addr) (w' : World) : (eqGuard op t x y (.pointer p) (.pointer q)).run P w' = .ok () w' := by
  unfold eqGuard; split <;> simp
omit [Zone] in
theorem ptr_equalIn (d : Nat) (t e : TypeId) (hu : P.underlying t = some (.pointer e)) (ad : Option Addr) (w' : World) : (Op.equalIn (d + 1) t (.pointer ad) (.pointer none)).run P w' = .ok ad.isNone w' := by
  cases ad <;> simp [Op.equalIn, Sem.run_bind, run_underlying hu]
omit [Zone] in
theorem ptr_equal (t e : TypeId) (hu : P.underlying t = some (.pointer e)) (ad : Option Addr) (w' : World) : (Op.equal t (.pointer ad) (.pointer none)).run P w' = .ok ad.isNone w' := ptr_equalIn 9999 t e hu ad w'
omit [Zone] in
theorem eqGuard_scalar (op : BinOp) (t : TypeId) (x y : Operand) {va vb : Value} (h : (∃ k n, va = .int k n) ∨ (∃ b, va = .bool b) ∨ (∃ s, va = .string s) ∨ (∃ a n c, va = .slice a n c)) (w' : World) : (eqGuard op t x y va vb).run P w' = .ok () w' := by
  rcases h with ⟨k, n, rfl⟩ | ⟨b, rfl⟩ | ⟨s, rfl⟩ | ⟨a, n, c, rfl⟩ <;> (unfold eqGuard; split <;> simp)


omit [Zone] in
theorem string_beq (a b : ByteArray) : (a.toList == b.toList) = decide (a.data.toList = b.data.toList) := by
  rw [ByteArray.toList_eq, ByteArray.toList_eq]
  by_cases h : a.data.toList = b.data.toList
  · simp [h]
  · rw [decide_eq_false h]; simpa using h


theorem guard_then {op : BinOp} {t : TypeId} {x y : Operand} {va vb : Value} {s : Sem Value} (h : (∃ k n, va = .int k n) ∨ (∃ b, va = .bool b) ∨ (∃ s, va = .string s) ∨ (∃ a n c, va = .slice a n c)) (hy : Yields P w E s K) :
    Yields P w E (do eqGuard op t x y va vb; s) K := by
  obtain ⟨v, z, h1, h2, h3⟩ := hy
  exact ⟨v, z, h1, h2, fun w' ho => by simp only [Sem.run_bind, eqGuard_scalar op t x y h, Result.andThen_ok, h3 w' ho]⟩

omit [Zone] in
theorem bool_equalIn (d : Nat) (t : TypeId) (hu : P.underlying t = some .bool) (x y : Bool) (w' : World) : (Op.equalIn (d + 1) t (.bool x) (.bool y)).run P w' = .ok (decide (x = y)) w' := by
  simp only [Op.equalIn, Sem.run_bind, run_underlying hu, Result.andThen_ok, Sem.run_pure]
  cases x <;> cases y <;> rfl
omit [Zone] in
theorem bool_equal (t : TypeId) (hu : P.underlying t = some .bool) (x y : Bool) (w' : World) : (Op.equal t (.bool x) (.bool y)).run P w' = .ok (decide (x = y)) w' := bool_equalIn 9999 t hu x y w'

omit [Zone] in
theorem nil_equalIn (d : Nat) (t e : TypeId) (hu : P.underlying t = some (.slice e)) (ad : Option Addr) (n c : Nat) (w' : World) : (Op.equalIn (d + 1) t (.slice ad n c) (.slice none 0 0)).run P w' = .ok ad.isNone w' := by
  cases ad <;> simp [Op.equalIn, Sem.run_bind, run_underlying hu]
omit [Zone] in
theorem nil_equal (t e : TypeId) (hu : P.underlying t = some (.slice e)) (ad : Option Addr) (n c : Nat) (w' : World) : (Op.equal t (.slice ad n c) (.slice none 0 0)).run P w' = .ok ad.isNone w' := nil_equalIn 9999 t e hu ad n c w'

omit [Zone] in
theorem rowT_run {t : TypeId} {g : Bool} (h : rowT P t = some g) (w' : World) : (isAgg t).run P w' = .ok g w' := by
  unfold rowT at h
  obtain ⟨d, hd, rfl⟩ := Option.map_eq_some_iff.1 h
  unfold isAgg
  rw [Sem.run_bind, run_underlying hd w']
  cases d <;> simp

omit [Zone] in
theorem szT_run {t : TypeId} {n : Nat} (h : szT P t = some n) (w' : World) : (sizeOf t).run P w' = .ok n w' := by
  unfold szT at h
  obtain ⟨i, hi, rfl⟩ := Option.map_eq_some_iff.1 h
  simp [sizeOf, typeInfo, hi]

omit [Zone] in
theorem part_at {t : TypeId} (hg : rowT P t = some false) {cs : Array Value} {i : Nat} {v : Value} (h : cs[i]? = some v) (w' : World) : (part t cs i).run P w' = .ok v w' := by
  simp [part, Sem.run_bind, rowT_run hg, h]
theorem scal_run (d : Nat) {k : Nat} {t : TypeId} (hk : fieldK P t = some k) {x y : AV} {p : Prop} (hp : scalK k x y = some p) {v u : Value} (hx : Rep w E v x) (hy : Rep w E u y) :
    ∃ b : Bool, (b = true ↔ p) ∧ ∀ w', (Op.equalIn (d + 1) t v u).run P w' = .ok b w' := by
  unfold fieldK at hk
  split at hk
  · rename_i k0 hu
    cases hk
    unfold scalK at hp
    split at hp
    · rename_i k1 a k2 b heq
      split at hp
      · rename_i hkk
        subst hkk
        cases hp
        rw [hx.int_inv, hy.int_inv]
        exact ⟨a == b, by simp, fun w' => run_equalIn_int w' d t _ _ a b hu⟩
      · cases hp
    · rename_i h1; cases h1
    · rename_i h1; cases h1
    · cases hp
  · rename_i hu
    cases hk
    unfold scalK at hp
    split at hp
    · rename_i h1; cases h1
    · rename_i a b heq
      cases hp
      rw [hx.bool_inv, hy.bool_inv]
      exact ⟨decide (a = b), by simp, fun w' => bool_equalIn d t hu a b w'⟩
    · rename_i h1; cases h1
    · cases hp
  · rename_i hu
    cases hk
    unfold scalK at hp
    split at hp
    · rename_i h1; cases h1
    · rename_i h1; cases h1
    · rename_i a b heq
      cases hp
      obtain ⟨s1, rfl, rfl⟩ := hx.str_inv
      obtain ⟨s2, rfl, rfl⟩ := hy.str_inv
      exact ⟨decide (s1.data.toList = s2.data.toList), by simp, fun w' => by rw [run_equalIn_string w' d t s1 s2 hu, string_beq]⟩
    · cases hp
  · cases hk
theorem eqFields_run (d : Nat) : ∀ (fs : List Field) (i : Nat) (xs ys : Array Value) (ks : List Nat) (l m : List AV) (p : Prop), scalF P i fs = some ks → scalKs ks l m = some p → RepL w E (xs.toList.drop i) l → RepL w E (ys.toList.drop i) m →
    ∃ b : Bool, (b = true ↔ p) ∧ ∀ w', (Op.eqFields (d + 1) xs ys fs).run P w' = .ok b w'
  | [], i, xs, ys, ks, l, m, p, hf, hs, hl, hm => by
    cases hf
    unfold scalKs at hs
    split at hs
    · cases hs
      exact ⟨true, by simp, fun w' => by simp [Op.eqFields]⟩
    · rename_i heq; cases heq
    · cases hs
  | f :: fs, i, xs, ys, ks, l, m, p, hf, hs, hl, hm => by
    unfold scalF at hf
    split at hf
    · rename_i k ks' hd hk hg hr
      cases hf
      unfold scalKs at hs
      split at hs
      · rename_i heq; cases heq
      · rename_i k1 ks1 x l1 y m1 h1
        cases h1
        split at hs
        · rename_i p1 p2 e1 e2
          cases hs
          obtain ⟨ho, hname⟩ := of_decide_eq_true hd
          generalize hlx : xs.toList.drop i = lx at hl
          generalize hmy : ys.toList.drop i = my at hm
          cases hl with
          | cons hv hvs =>
            cases hm with
            | cons hu hus =>
              rename_i v vs u us
              have ev : xs[i]? = some v := by
                have := congrArg (fun q => q[0]?) hlx
                simpa using this
              have eu : ys[i]? = some u := by
                have := congrArg (fun q => q[0]?) hmy
                simpa using this
              have dv : xs.toList.drop (i + 1) = vs := by
                have := congrArg (fun q => q.drop 1) hlx
                simpa using this
              have du : ys.toList.drop (i + 1) = us := by
                have := congrArg (fun q => q.drop 1) hmy
                simpa using this
              obtain ⟨b1, hb1, r1⟩ := scal_run d hk e1 hv hu
              obtain ⟨b2, hb2, r2⟩ := eqFields_run d fs (i + 1) xs ys ks' l1 m1 p2 hr e2 (by rw [dv]; exact hvs) (by rw [du]; exact hus)
              refine ⟨b1 && b2, by rw [Bool.and_eq_true, hb1, hb2], fun w' => ?_⟩
              rw [← ho] at ev eu
              unfold Op.eqFields
              rw [if_pos hname]
              simp only [Sem.run_bind, part_at hg ev, part_at hg eu, Result.andThen_ok, r1]
              cases b1
              · simp
              · simpa using r2 w'
        · cases hs
      · cases hs
    · cases hf
omit [Zone] in
theorem scalKs_split : ∀ (k1 k2 : List Nat) (l m : List AV) (p : Prop), scalKs (k1 ++ k2) l m = some p →
    ∃ p1 p2, scalKs k1 (l.take k1.length) (m.take k1.length) = some p1 ∧ scalKs k2 (l.drop k1.length) (m.drop k1.length) = some p2 ∧ (p ↔ p1 ∧ p2)
  | [], k2, l, m, p, h => ⟨True, p, by simp [scalKs], by simpa using h, by simp⟩
  | k :: k1, k2, l, m, p, h => by
    simp only [List.cons_append] at h
    unfold scalKs at h
    split at h
    · rename_i heq; cases heq
    · rename_i k0 ks0 x l1 y m1 heq
      cases heq
      split at h
      · rename_i q1 q2 e1 e2
        cases h
        obtain ⟨p1, p2, h1, h2, h3⟩ := scalKs_split k1 k2 l1 m1 q2 e2
        refine ⟨q1 ∧ p1, p2, ?_, by simpa using h2, by rw [h3, and_assoc]⟩
        simp only [List.length_cons, List.take_succ_cons, scalKs, e1, h1]
      · cases h
    · cases h
theorem RepL.takeD {cs : List Value} {l : List AV} (h : RepL w E cs l) (n : Nat) : RepL w E (cs.take n) (l.take n) ∧ RepL w E (cs.drop n) (l.drop n) := by
  induction n generalizing cs l with
  | zero => exact ⟨by simpa using .nil, by simpa using h⟩
  | succ n ih =>
    cases h with
    | nil => exact ⟨by simpa using .nil, by simpa using .nil⟩
    | cons hv t =>
      obtain ⟨a, b⟩ := ih t
      exact ⟨by simpa using .cons hv a, by simpa using b⟩
theorem field_run {t : TypeId} {ks : List Nat} (hk : fieldKs P t = some ks) {i : Nat} {xs ys : Array Value} {l m : List AV} {p : Prop} (hp : scalKs ks l m = some p)
    (hx : RepL w E ((xs.toList.drop i).take ks.length) l) (hy : RepL w E ((ys.toList.drop i).take ks.length) m) :
    ∃ b : Bool, (b = true ↔ p) ∧ ∀ w', (do let a ← part t xs i; let c ← part t ys i; Op.equalIn 9999 t a c : Sem Bool).run P w' = .ok b w' := by
  unfold fieldKs at hk
  split at hk
  · rename_i fs hu
    split at hk
    · rename_i ks' n h1 h2 h3
      split at hk
      · rename_i hn
        cases hk
        have hrow : rowT P t = some true := by unfold rowT; rw [hu]; rfl
        have ep : ∀ (zs : Array Value) (w' : World), (part t zs i).run P w' = .ok (.agg (zs.extract i (i + ks.length))) w' := fun zs w' => by
          simp [part, Sem.run_bind, rowT_run hrow, szT_run h3, hn]
        obtain ⟨b, hb, hrun⟩ := eqFields_run 9997 fs.toList 0 (xs.extract i (i + ks.length)) (ys.extract i (i + ks.length)) ks l m p h1 hp (by simpa using hx) (by simpa using hy)
        have hfo : P.fieldsOf t = fs := by unfold Program.fieldsOf; rw [hu]
        refine ⟨b, hb, fun w' => ?_⟩
        simp only [Sem.run_bind, ep, Result.andThen_ok]
        rw [run_equalIn_struct w' 9998 t _ _ (by rw [hfo]; exact hu) h2, hfo]
        exact hrun w'
      · cases hk
    · cases hk
  · split at hk
    · rename_i k hk0 hg
      cases hk
      unfold scalKs at hp
      split at hp
      · rename_i heq; cases heq
      · rename_i k0 ks0 x l1 y m1 heq
        cases heq
        split at hp
        · rename_i q1 q2 e1 e2
          cases hp
          generalize hlx : (xs.toList.drop i).take [k].length = lx at hx
          generalize hmy : (ys.toList.drop i).take [k].length = my at hy
          cases hx with
          | cons hv hvs =>
            cases hy with
            | cons hu hus =>
              rename_i v vs u us
              have ev : xs[i]? = some v := by
                have := congrArg (fun q => q[0]?) hlx
                simpa using this
              have eu : ys[i]? = some u := by
                have := congrArg (fun q => q[0]?) hmy
                simpa using this
              obtain ⟨b1, hb1, r1⟩ := scal_run 9998 hk0 e1 hv hu
              unfold scalKs at e2
              split at e2
              · cases e2
                refine ⟨b1, by rw [hb1]; simp, fun w' => ?_⟩
                simp only [Sem.run_bind, part_at hg ev, part_at hg eu, Result.andThen_ok, r1]
              · rename_i heq; cases heq
              · cases e2
        · cases hp
      · cases hp
    · cases hk
theorem eqFields2_run : ∀ (fs : List Field) (i : Nat) (xs ys : Array Value) (ks : List Nat) (l m : List AV) (p : Prop), scalF2 P i fs = some ks → scalKs ks l m = some p → RepL w E (xs.toList.drop i) l → RepL w E (ys.toList.drop i) m →
    ∃ b : Bool, (b = true ↔ p) ∧ ∀ w', (Op.eqFields 9999 xs ys fs).run P w' = .ok b w'
  | [], i, xs, ys, ks, l, m, p, hf, hs, hl, hm => by
    cases hf
    unfold scalKs at hs
    split at hs
    · cases hs
      exact ⟨true, by simp, fun w' => by simp [Op.eqFields]⟩
    · rename_i heq; cases heq
    · cases hs
  | f :: fs, i, xs, ys, ks, l, m, p, hf, hs, hl, hm => by
    unfold scalF2 at hf
    split at hf
    · rename_i k1 hd hk
      split at hf
      · rename_i k2 hr
        cases hf
        obtain ⟨ho, hname⟩ := of_decide_eq_true hd
        obtain ⟨p1, p2, h1, h2, h3⟩ := scalKs_split k1 k2 l m p hs
        obtain ⟨a1, a2⟩ := RepL.takeD hl k1.length
        obtain ⟨c1, c2⟩ := RepL.takeD hm k1.length
        obtain ⟨b1, hb1, r1⟩ := field_run hk h1 a1 c1
        obtain ⟨b2, hb2, r2⟩ := eqFields2_run fs (i + k1.length) xs ys k2 _ _ p2 hr h2 (by simpa [List.drop_drop] using a2) (by simpa [List.drop_drop] using c2)
        refine ⟨b1 && b2, by rw [Bool.and_eq_true, hb1, hb2, h3], fun w' => ?_⟩
        have r1' := r1 w'
        rw [← ho] at r1'
        unfold Op.eqFields
        rw [if_pos hname]
        simp only [Sem.run_bind] at r1' ⊢
        generalize (part f.type xs f.offset).run P w' = q1 at *
        cases q1 with
        | halt x w1 => simp [Result.andThen] at r1'
        | ok a w1 =>
          simp only [Result.andThen_ok] at r1' ⊢
          generalize (part f.type ys f.offset).run P w1 = q2 at *
          cases q2 with
          | halt x w2 => simp [Result.andThen] at r1'
          | ok c w2 =>
            simp only [Result.andThen_ok] at r1' ⊢
            rw [r1']
            cases b1
            · simp
            · simpa using r2 w'
      · cases hf
    · cases hf
theorem rep_nilp {w : World} {E : Env} {v : Value} (h : Rep w E v .nilp) : v = .pointer none := by
  cases h with | pure h => cases h; rfl
theorem rep_ptr {w : World} {E : Env} {v : Value} {id gen idx off : Nat} {m : MI} (h : Rep w E v (.ptr id gen idx off)) (hm : E[id]? = some m) (hg : m.gen = gen) : ∃ ad, v = .pointer (some ad) := by
  cases h with
  | pure h => cases h
  | ptr m' h1 hm' hg' hh =>
    rw [hm] at hm'; cases hm'
    obtain ⟨g', c', _, e1⟩ := hh hg.symm
    exact ⟨_, e1⟩
theorem bin_yields {op : BinOp} {t : TypeId} {x y : Operand} {i : RI} (hc : cBin P op t x y = some i) (hf : FrOk w E fr a) (hr : Rel σ E w) (h : roI σ fr i K) :
    Yields P w E (do eqGuard op t x y (a.eval x) (a.eval y); binOp op t (a.eval x) (a.eval y)) K := by
  unfold cBin at hc
  split at hc
  · rename_i k hu
    split at hc
    · rename_i a' b' ha hb
      cases hc
      simp only [roI] at h
      obtain ⟨p, hp, h⟩ := evR_ok hf ha h
      split at h
      · obtain ⟨q, hq, h⟩ := evR_ok hf hb h
        split at h
        · have e1 := hp.int_inv; have e2 := hq.int_inv
          refine guard_then (.inl ⟨_, _, e1⟩) ?_
          rw [e1, e2]; exact binI_yields t h
        · exact h.elim
      · exact h.elim
    · cases hc
  · rename_i hu
    split at hc
    · rename_i a' b' ha hb
      cases hc
      simp only [roI] at h
      obtain ⟨p, hp, h⟩ := evR_ok hf ha h
      split at h
      · obtain ⟨q, hq, h⟩ := evR_ok hf hb h
        split at h
        · have e1 := hp.bool_inv; have e2 := hq.bool_inv
          refine guard_then (.inr (.inl ⟨_, e1⟩)) ?_
          rw [e1, e2]
          unfold binB at h
          split at h
          · exact .of (rep_bool _) (boolR_elim h) fun w' _ => by simp [binOp, bool_equal t hu]
          · exact .of (rep_bool _) (boolR_elim h) fun w' _ => by simp [binOp, bool_equal t hu]
          · exact h.elim
        · exact h.elim
      · exact h.elim
    · cases hc
  · rename_i hu
    split at hc
    · rename_i a' b' ha hb
      cases hc
      simp only [roI] at h
      obtain ⟨p, hp, h⟩ := evR_ok hf ha h
      split at h
      · obtain ⟨q, hq, h⟩ := evR_ok hf hb h
        split at h
        · obtain ⟨s1, e1, rfl⟩ := hp.str_inv
          obtain ⟨s2, e2, rfl⟩ := hq.str_inv
          refine guard_then (.inr (.inr (.inl ⟨_, e1⟩))) ?_
          rw [e1, e2]
          unfold binS at h
          split at h
          · exact .of (rep_bool _) (boolR_elim h) fun w' _ => by simp only [binOp, Op.stringOp, Sem.run_pure, string_beq]
          · exact .of (rep_bool _) (boolR_elim h) fun w' _ => by simp only [binOp, Op.stringOp, Sem.run_pure, string_beq, decide_not]
          · exact h.elim
        · exact h.elim
      · exact h.elim
    · cases hc
  · rename_i e hu
    split at hc
    · rename_i hn
      have hy : a.eval y = .slice none 0 0 := by
        unfold isNilC at hn
        split at hn
        · rfl
        · cases hn
      split at hc
      · rename_i a' ha
        have fin : ∀ ne, (op = .eql ∧ ne = false ∨ op = .neq ∧ ne = true) → roI σ fr (.eqnil ne a') K → Yields P w E (do eqGuard op t x y (a.eval x) (a.eval y); binOp op t (a.eval x) (a.eval y)) K := by
          intro ne hop h
          simp only [roI] at h
          obtain ⟨p, hp, h⟩ := evR_ok hf ha h
          have run : ∀ ad n c, a.eval x = .slice ad n c → K (.bool (ad.isNone != ne)) → Yields P w E (do eqGuard op t x y (a.eval x) (a.eval y); binOp op t (a.eval x) (a.eval y)) K := by
            intro ad n c e1 hk
            refine guard_then (.inr (.inr (.inr ⟨_, _, _, e1⟩))) ?_
            rw [e1, hy]
            rcases hop with ⟨rfl, rfl⟩ | ⟨rfl, rfl⟩
            · exact .of (rep_bool _) hk fun w' _ => by simp [binOp, nil_equal t e hu]
            · exact .of (rep_bool _) hk fun w' _ => by simp [binOp, nil_equal t e hu]
          replace h := h.ok
          unfold eqnilR at h
          split at h
          · exact run _ _ _ hp.nils_inv (by cases ne <;> simpa using h)
          · rename_i sz l nn
            rcases hp.sl_inv with ⟨e1, e2⟩ | ⟨ad, cap, cs, e1, _⟩
            · exact run _ _ _ e1 (by have := (h.1 e2).2; cases ne <;> simpa using this)
            · refine run _ _ _ e1 ?_
              by_cases hl : l = []
              · have := (h.1 hl).1; cases ne <;> simpa using this
              · have := h.2 hl; cases ne <;> simpa using this
          · rename_i id gen off len cap
            obtain ⟨b, m, hb, hm, hok, hg1, hg2, hbe, h⟩ := blkAt_elim hr h
            have hs := hp.rsl_inv hm hg2 hok.pos
            unfold RslOk at hs
            split at hs
            · obtain ⟨h1, h2, _⟩ := hs
              obtain ⟨k1, k2⟩ := h.1 h2
              rcases h1 with h1 | ⟨ad, h1⟩
              · exact run _ _ _ h1 (by cases ne <;> simpa using k2)
              · exact run _ _ _ h1 (by cases ne <;> simpa using k1)
            · obtain ⟨ad, k, h1, _⟩ := hs
              refine run _ _ _ h1 ?_
              by_cases hl : len = 0
              · have := (h.1 hl).1; cases ne <;> simpa using this
              · have := h.2 hl; cases ne <;> simpa using this
          · exact h.elim
        split at hc
        · rename_i he; cases hc; exact fin false (.inl ⟨he, rfl⟩) h
        · split at hc
          · rename_i he; cases hc; exact fin true (.inr ⟨he, rfl⟩) h
          · cases hc
      · cases hc
    · cases hc
  · rename_i e hu
    split at hc
    · rename_i hn
      have hy : a.eval y = .pointer none := by
        unfold isNilP at hn
        split at hn
        · rfl
        · cases hn
      split at hc
      · rename_i a' ha
        have fin : ∀ ne, (op = .eql ∧ ne = false ∨ op = .neq ∧ ne = true) → roI σ fr (.eqnilp ne a') K → Yields P w E (do eqGuard op t x y (a.eval x) (a.eval y); binOp op t (a.eval x) (a.eval y)) K := by
          intro ne hop h
          simp only [roI] at h
          obtain ⟨p, hp, h⟩ := evR_ok hf ha h
          have run : ∀ ad, a.eval x = .pointer ad → K (.bool (ad.isNone != ne)) → Yields P w E (do eqGuard op t x y (a.eval x) (a.eval y); binOp op t (a.eval x) (a.eval y)) K := by
            intro ad e1 hk
            rw [e1, hy]
            rcases hop with ⟨rfl, rfl⟩ | ⟨rfl, rfl⟩
            · exact .of (rep_bool _) hk fun w' _ => by simp [eqGuard_ptr, binOp, ptr_equal t e hu]
            · exact .of (rep_bool _) hk fun w' _ => by simp [eqGuard_ptr, binOp, ptr_equal t e hu]
          split at h
          · refine run none ?_ (by cases ne <;> simpa using h)
            exact rep_nilp hp
          · obtain ⟨b, m, hb, hm, hok, hg1, hg2, hbe, h⟩ := blkAt_elim hr h
            obtain ⟨ad, e1⟩ := rep_ptr hp hm hg2
            exact run _ e1 (by cases ne <;> simpa using h)
          · obtain ⟨q, cs, e1, _⟩ := hp.vptr_inv
            exact run _ e1 (by cases ne <;> simpa using h)
          · exact h.elim
        split at hc
        · rename_i he; cases hc; exact fin false (.inl ⟨he, rfl⟩) h
        · split at hc
          · rename_i he; cases hc; exact fin true (.inr ⟨he, rfl⟩) h
          · cases hc
      · cases hc
    · cases hc
  · rename_i fs hu
    split at hc
    · rename_i a' b' ks ha hb hk
      have fin : ∀ ne, (op = .eql ∧ ne = false ∨ op = .neq ∧ ne = true) → roI σ fr (.eqagg ne ks a' b') K → Yields P w E (do eqGuard op t x y (a.eval x) (a.eval y); binOp op t (a.eval x) (a.eval y)) K := by
        intro ne hop h
        simp only [roI] at h
        obtain ⟨p, hp, h⟩ := evR_ok hf ha h
        split at h
        · rename_i l
          obtain ⟨q, hq, h⟩ := evR_ok hf hb h
          split at h
          · rename_i m
            split at h
            · rename_i pr hpr
              obtain ⟨xs, e1, _, hx⟩ := hp.agg_inv
              obtain ⟨ys, e2, _, hy⟩ := hq.agg_inv
              unfold eqT at hk
              split at hk
              · rename_i ks' h1 h2 h3
                cases hk
                obtain ⟨b, hb2, hrun⟩ := eqFields2_run fs.toList 0 xs ys ks l m pr h1 hpr (by simpa using hx) (by simpa using hy)
                have hfo : P.fieldsOf t = fs := by unfold Program.fieldsOf; rw [hu]
                have heq : ∀ w', (Op.equalIn 10000 t (.agg xs) (.agg ys)).run P w' = .ok b w' := fun w' => by
                  rw [run_equalIn_struct w' 9999 t xs ys (by rw [hfo]; exact hu) h2, hfo]
                  exact hrun w'
                rw [e1, e2]
                have hK : K (.bool (b != ne)) := by
                  refine h.elim (fun hpr hk => ?_) (fun hpr hk => ?_)
                  · rw [hb2.2 hpr]; cases ne <;> exact hk
                  · have : b = false := by
                      cases b
                      · rfl
                      · exact absurd (hb2.1 rfl) hpr
                    rw [this]; cases ne <;> exact hk
                rcases hop with ⟨rfl, rfl⟩ | ⟨rfl, rfl⟩
                · refine .of (v := .bool (b != false)) (rep_bool _) hK fun w' _ => ?_
                  simp only [Sem.run_bind, run_eqGuard_agg w' _ t x y xs ys h3, Result.andThen_ok, run_eql_struct, heq]
                  cases b <;> rfl
                · refine .of (v := .bool (b != true)) (rep_bool _) hK fun w' _ => ?_
                  simp only [Sem.run_bind, run_eqGuard_agg w' _ t x y xs ys h3, Result.andThen_ok, run_neq_struct, heq]
                  cases b <;> rfl
              · cases hk
            · exact h.elim
          · exact h.elim
        · exact h.elim
      split at hc
      · rename_i he; cases hc; exact fin false (.inl ⟨he, rfl⟩) h
      · split at hc
        · rename_i he; cases hc; exact fin true (.inr ⟨he, rfl⟩) h
        · cases hc
    · cases hc
  · cases hc

end
end Go.Proofs.Ytppccaacbpkgiaa.V
