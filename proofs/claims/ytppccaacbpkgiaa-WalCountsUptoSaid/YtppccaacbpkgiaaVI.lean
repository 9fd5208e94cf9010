/-
  VI: values of the call's own that grow (Own): what is asked of them, what they leave; contracts used with them and giving them.
-/
import Derived.Test.YtppccaacbpkgiaaVH
namespace Go.Proofs.Ytppccaacbpkgiaa.V
open Go Go.RowKit
set_option linter.unusedVariables false

theorem get_set' {σ : AH} {i : Nat} {b b0 : Blk} (h : σ[i]? = some b0) : (σ.set i b)[i]? = some b := by
  simp [(List.getElem?_eq_some_iff.1 h).1]

/-- A slice of our own, with these rows; others do not see it. -/
def Own (σ : AH) (sz : Nat) (x : AV) (rows : List (List AV)) : Prop :=
  (x = .nils ∧ rows = []) ∨ ∃ id gen spare, x = .rsl id gen 0 rows.length none ∧ σ[id]? = some { sz := sz, els := rows ++ spare, gen := gen, wr := true, pure := true }

/-- The block of a value. -/
def AV.bid : AV → Option Nat
  | .rsl id _ _ _ _ => some id
  | _ => none

/-- Nothing but these blocks has turned. -/
def Gr (σ σ' : AH) (o : Option Nat) : Prop := σ.length ≤ σ'.length ∧ ∀ id b, σ[id]? = some b → o ≠ some id → σ'[id]? = some b

theorem Gr.refl (σ : AH) (o : Option Nat) : Gr σ σ o := ⟨Nat.le_refl _, fun _ _ h _ => h⟩
theorem Gr.trans {σ σ1 σ2 : AH} {o : Option Nat} (h : Gr σ σ1 o) (k : Gr σ1 σ2 o) : Gr σ σ2 o := ⟨Nat.le_trans h.1 k.1, fun id b hb hn => k.2 id b (h.2 id b hb hn) hn⟩
theorem Gr.anyO {σ σ' : AH} (h : Gr σ σ' none) (o : Option Nat) : Gr σ σ' o := ⟨h.1, fun id b hb _ => h.2 id b hb (by simp)⟩
theorem Gr.append (σ τ : AH) : Gr σ (σ ++ τ) none := by
  refine ⟨by simp, fun id b hb _ => ?_⟩
  rw [List.getElem?_append_left (List.getElem?_eq_some_iff.1 hb).1]; exact hb
theorem Gr.set (σ : AH) (id : Nat) (b : Blk) : Gr σ (σ.set id b) (some id) := by
  refine ⟨by simp, fun i b' hb hn => ?_⟩
  rw [List.getElem?_set_ne (by simpa using hn)]; exact hb

theorem Own.lt {σ : AH} {sz : Nat} {x : AV} {rows : List (List AV)} (h : Own σ sz x rows) {id : Nat} (hb : x.bid = some id) : id < σ.length := by
  rcases h with ⟨rfl, _⟩ | ⟨i, g, sp, rfl, h⟩
  · cases hb
  · cases hb; exact (List.getElem?_eq_some_iff.1 h).1
theorem Own.keep {σ σ' : AH} {o : Option Nat} (k : Gr σ σ' o) {sz : Nat} {x : AV} {rows : List (List AV)} (h : Own σ sz x rows) (hb : x.bid = none ∨ o ≠ x.bid) : Own σ' sz x rows := by
  rcases h with ⟨rfl, h⟩ | ⟨i, g, sp, rfl, h⟩
  · exact .inl ⟨rfl, h⟩
  · exact .inr ⟨i, g, sp, rfl, k.2 _ _ h (by rcases hb with hb | hb; (cases hb); exact hb)⟩
theorem Own.keepN {σ σ' : AH} (k : Gr σ σ' none) {sz : Nat} {x : AV} {rows : List (List AV)} (h : Own σ sz x rows) : Own σ' sz x rows := by
  rcases h with ⟨rfl, h⟩ | ⟨i, g, sp, rfl, h⟩
  · exact .inl ⟨rfl, h⟩
  · exact .inr ⟨i, g, sp, rfl, k.2 _ _ h (by simp)⟩
/-- A new block that is then written: nothing old has turned. -/
theorem Gr.box (σ : AH) (b b' : Blk) : Gr σ ((σ ++ [b]).set σ.length b') none := by
  refine ⟨by simp, fun id c hc _ => ?_⟩
  have hlt := (List.getElem?_eq_some_iff.1 hc).1
  rw [List.getElem?_set_ne (by omega), List.getElem?_append_left hlt]
  exact hc
theorem Gr.setNew {σ τ : AH} (h : Gr σ τ none) {id : Nat} (hi : σ.length ≤ id) (b : Blk) : Gr σ (τ.set id b) none := by
  refine ⟨by simpa using h.1, fun i c hc hn => ?_⟩
  have hlt := (List.getElem?_eq_some_iff.1 hc).1
  rw [List.getElem?_set_ne (by omega)]
  exact h.2 i c hc hn
theorem Gr.addN {σ τ : AH} (h : Gr σ τ none) (r : AH) : Gr σ (τ ++ r) none := h.trans (Gr.append _ _)
theorem Gr.newN {σ τ : AH} (h : Gr σ τ none) (sz : Nat) (els : List (List AV)) (p : Bool) : Gr σ (newB τ sz els p) none := h.trans (Gr.append _ _)
theorem newB_length (σ : AH) (sz : Nat) (els : List (List AV)) (p : Bool) : (newB σ sz els p).length = σ.length + 1 := by simp [newB]
theorem Own.mk' {σ : AH} {id gen len sz : Nat} {rows sp : List (List AV)} {b : Blk} (h : σ[id]? = some b) (hl : len = rows.length) (he : b = { sz := sz, els := rows ++ sp, gen := gen, wr := true, pure := true }) : Own σ sz (.rsl id gen 0 len none) rows :=
  .inr ⟨id, gen, sp, by rw [hl], by rw [h, he]⟩
theorem Own.one {σ : AH} {sz : Nat} {x : AV} {rows : List (List AV)} (h : Own σ sz x rows) : x.cells = [x] ∧ x.okCells = true ∧ x.cells.length = 1 := by
  rcases h with ⟨rfl, _⟩ | ⟨i, g, sp, rfl, _⟩ <;> exact ⟨rfl, rfl, rfl⟩
theorem Own.nil (σ : AH) (sz : Nat) : Own σ sz .nils [] := .inl ⟨rfl, rfl⟩
theorem Own.new (σ : AH) (sz : Nat) (rows spare : List (List AV)) : Own (newB σ sz (rows ++ spare) true) sz (.rsl σ.length 0 0 rows.length none) rows :=
  .inr ⟨_, _, spare, rfl, by simp [newB]⟩

theorem lenR_own {σ : AH} {sz : Nat} {x : AV} {rows : List (List AV)} {K : Nat → Prop} (h : Own σ sz x rows) (hk : K rows.length) : LenW σ x K := by
  refine ⟨?_⟩
  rcases h with ⟨rfl, rfl⟩ | ⟨i, g, sp, rfl, h⟩
  · exact hk
  · exact blkAt_intro h rfl hk
theorem rowsR_own {σ : AH} {sz : Nat} {x : AV} {rows : List (List AV)} {K : Bool → List (List AV) → Prop} (h : Own σ sz x rows) (hk : K true rows) : RowsW σ sz x K := by
  refine ⟨?_⟩
  rcases h with ⟨rfl, rfl⟩ | ⟨i, g, sp, rfl, h⟩
  · exact hk
  · exact blkAt_intro h rfl ⟨rfl, by simp, by simpa using hk⟩

/-- What an append leaves: the slice longer; other blocks as they were. -/
theorem appendR_own {σ : AH} {sz bytes : Nat} {x : AV} {rows ys : List (List AV)} {K : AV → AH → Prop} (h : Own σ sz x rows) (hb : (rows.length + ys.length) * bytes ≤ 140737488355328)
    (hk : ∀ x' σ', Own σ' sz x' (rows ++ ys) → Gr σ σ' x.bid → (x'.bid = x.bid ∨ x'.bid = some σ.length) → K x' σ') : AppW σ sz bytes x ys K := by
  refine ⟨?_⟩
  rcases h with ⟨rfl, rfl⟩ | ⟨i, g, sp, rfl, h⟩
  · refine ⟨by simpa using hb, hk _ _ ?_ ((Gr.append _ _).anyO _) (.inr rfl)⟩
    simpa using Own.new σ sz ys []
  · refine blkAt_intro h rfl ⟨rfl, rfl, rfl, rfl, by simp, hb, hk _ _ ?_ (Gr.set _ _ _) (.inl rfl)⟩
    refine .inr ⟨i, g + 1, [], by simp, ?_⟩
    have hl := (List.getElem?_eq_some_iff.1 h).1
    simp [hl]

theorem out_own {σ : AH} {sz : Nat} {x : AV} {rows : List (List AV)} {K : AV → List (Nat × Nat) → List Nat → Prop} (h : Own σ sz x rows) (hn : rows = [] → K .nils [] []) (hk : ∀ id, x.bid = some id → K (.sl sz rows true) [(id, rows.length)] []) : OutW σ x K := by
  refine ⟨?_⟩
  rcases h with ⟨rfl, rfl⟩ | ⟨i, g, sp, rfl, h⟩
  · exact hn rfl
  · exact blkAt_intro h rfl ⟨rfl, rfl, rfl, by simp, by simpa using hk i rfl⟩

/-! ### The spare room is shown -/
theorem repVL_any [Zone] {w : World} {W : Nat → Prop} : ∀ {cs : List Value}, (∀ v, v ∈ cs → v.oneCell' = true) → RepVL w W cs (List.replicate cs.length .any)
  | [], _ => .nil
  | v :: cs, h => by
    rw [List.length_cons, List.replicate_succ]
    exact .cons (.any v (h v (by simp))) (repVL_any (fun u hu => h u (by simp [hu])))

theorem rel_reveal [Zone] {σ : AH} {E : Env} {w : World} (hr : Rel σ E w) {id : Nat} {b : Blk} (hb : σ[id]? = some b) (he : b.ext = none) :
    ∃ n, b.els.length + n ≤ 9223372036854775807 ∧ (∀ r, r ∈ b.els → r.length = b.sz) ∧ Rel (σ.set id { b with els := b.els ++ List.replicate n (List.replicate b.sz .any), full := true }) E w := by
  obtain ⟨m, hm, hok0⟩ := hr.blk id b hb
  have hok := hok0.cells he
  have key : ∀ n, BlkOk w E { b with els := b.els ++ List.replicate n (List.replicate b.sz .any), full := true } m → Rel (σ.set id { b with els := b.els ++ List.replicate n (List.replicate b.sz .any), full := true }) E w := by
    intro n h
    refine ⟨by simp [hr.len], hr.base, hr.fresh, ?_, hr.inj⟩
    intro id' b' hb'
    by_cases e : id' = id
    · subst e
      rw [get_set' hb] at hb'; cases hb'
      exact ⟨m, hm, .of h he⟩
    · rw [List.getElem?_set_ne (fun q => e q.symm)] at hb'
      exact hr.blk id' b' hb'
  obtain ⟨k1, k2, k3, k4, k5, k6⟩ := hok
  cases hp : m.place with
  | none =>
    have k6' : b.els = [] := by rw [hp] at k6; exact k6
    refine ⟨0, by rw [k6']; simp, k5, key 0 ⟨k1, k2, k3, k4, by simpa using k5, ?_⟩⟩
    rw [hp] at k6 ⊢
    simpa using k6
  | some q =>
    obtain ⟨g, c⟩ := q
    rw [hp] at k6
    obtain ⟨⟨k7, k7'⟩, k8, cur, e, lo, hi, k9, k10, k11, k12, k13⟩ := k6
    refine ⟨c - b.els.length, by omega, k5, key _ ⟨k1, k2, k3, k4, ?_, ?_⟩⟩
    · intro r hr'
      rcases List.mem_append.1 hr' with h | h
      · exact k5 r h
      · rw [(List.mem_replicate.1 h).2]; simp
    · rw [hp]
      have hfl := flatten_len k5
      have hN : (b.els ++ List.replicate (c - b.els.length) (List.replicate b.sz AV.any)).flatten = b.els.flatten ++ List.replicate (cur.toList.drop b.els.flatten.length).length .any := by
        rw [List.flatten_append]
        congr 1
        rw [List.flatten_replicate_replicate]
        congr 1
        rw [List.length_drop, Array.length_toList, k10, hfl, Nat.sub_mul]
      have hcl : cur.toList.length = c * b.sz := by rw [Array.length_toList, k10]
      have hle : b.els.flatten.length ≤ cur.toList.length := by rw [hfl, hcl]; exact Nat.mul_le_mul_right _ k7
      have htk : cur.toList.take (b.els ++ List.replicate (c - b.els.length) (List.replicate b.sz AV.any)).flatten.length = cur.toList.take b.els.flatten.length ++ cur.toList.drop b.els.flatten.length := by
        rw [hN, List.length_append, List.length_replicate, List.length_drop, List.take_append_drop]
        exact List.take_of_length_le (by omega)
      refine ⟨⟨by simp; omega, fun _ => by simp; omega⟩, k8, cur, e, lo, hi, k9, k10, k11, k12, ?_⟩
      show if b.pure then RepVL w (EW E) (cur.toList.take (b.els ++ List.replicate (c - b.els.length) (List.replicate b.sz AV.any)).flatten.length) _ else RepL w E (cur.toList.take (b.els ++ List.replicate (c - b.els.length) (List.replicate b.sz AV.any)).flatten.length) _
      rw [htk, hN]
      have hany : RepVL w (EW E) (cur.toList.drop b.els.flatten.length) (List.replicate (cur.toList.drop b.els.flatten.length).length .any) := repVL_any (fun v hv => k12 v (List.mem_of_mem_drop hv))
      split at k13
      · rename_i hpu; rw [if_pos hpu]; exact k13.append hany
      · rename_i hpu; rw [if_neg hpu]; exact k13.append hany.toRepL

theorem bodied_of {P : Program} {f : Nat} {hs : Hs} {F : FC} (hc : compF P f hs = some F) : Bodied P f := by
  unfold compF at hc
  split at hc
  · rename_i fn hfn
    split at hc
    · rename_i c hb
      split at hc
      · split at hc
        · rename_i hname
          exact ⟨hname.2, fn, hfn, by rw [hb]; rfl, hname.1⟩
        · cases hc
      · cases hc
    · cases hc
  · cases hc
theorem CallS.reveal {P : Program} {f : Nat} (hB : Bodied P f) {args : List AV} {σ : AH} {Q : AV → AH → Prop} {id : Nat} {b : Blk} (hb : σ[id]? = some b)
    (h : ∀ n, b.els.length + n ≤ 9223372036854775807 → (∀ r, r ∈ b.els → r.length = b.sz) → CallS P f args (σ.set id { b with els := b.els ++ List.replicate n (List.replicate b.sz .any), full := true }) Q) (he : b.ext = none := by rfl) : CallS P f args σ Q := by
  refine ⟨hB, fun z w E cs hr hrep => ?_⟩
  obtain ⟨n, hn, hrow, hr'⟩ := rel_reveal hr hb he
  exact (h n hn hrow).2 z w E cs hr' hrep

/-! ### New values -/
theorem fresh_nil : ∀ x, x ∈ ([] : List AV) → FreshE x := by simp
theorem fresh_cons {x : AV} {r : List AV} (h : FreshE x) (t : ∀ y, y ∈ r → FreshE y) : ∀ y, y ∈ x :: r → FreshE y := by
  intro y hy
  rcases List.mem_cons.1 hy with rfl | hy
  · exact h
  · exact t y hy
theorem fresh_tup {l : List AV} (h : ∀ y, y ∈ l → FreshE y) : FreshR (.tup l) := h
theorem Own.upTo {σ σ' : AH} {sz : Nat} {x : AV} {rows : List (List AV)} (h : Own σ sz x rows) (k : Gr σ σ' none) : Own σ' sz x rows := h.keepN k
theorem Gr.side {σ σ' : AH} (h : Gr σ σ' none) (r : Ref) : Side (Ref.ok σ σ' r) := by
  refine Side.intro ?_
  cases r with
  | sh id => intro b hb; exact ⟨b, h.2 _ _ hb (by simp), rfl, rfl, rfl, rfl, rfl⟩
  | co id => intro b hb; exact ⟨b, h.2 _ _ hb (by simp), rfl, rfl, rfl, rfl, rfl⟩
theorem fresh_aggR {l : List AV} (h : ∀ y, y ∈ l → FreshA y) : FreshR (.agg l) := h
theorem fresh_agg {l : List AV} (h : ∀ y, y ∈ l → FreshA y) : FreshE (.agg l) := h
theorem fresh_nilA : ∀ x, x ∈ ([] : List AV) → FreshA x := by simp
theorem fresh_consA {x : AV} {r : List AV} (h : FreshA x) (t : ∀ y, y ∈ r → FreshA y) : ∀ y, y ∈ x :: r → FreshA y := by
  intro y hy
  rcases List.mem_cons.1 hy with rfl | hy
  · exact h
  · exact t y hy
theorem fresh_rows {l : List (List AV)} {sz : Nat} (h : ∀ x, x ∈ l.flatten → FreshA x) : FreshA (.sl sz l true) := .sl _ _ h

/-! ### Rows of bytes -/
theorem nthR_bs {s : List UInt8} {n : Nat} {K : List AV → Prop} (hn : n < s.length) (hk : ∀ b, s[n]? = some b → b.toNat < 256 → K [.int .u8 b.toNat]) : nthR (bs s) n K := by
  have h := List.getElem?_eq_getElem hn
  exact nthR_intro (x := [.int .u8 s[n].toNat]) (by simp [bs, h]) (hk _ h s[n].toNat_lt)

theorem nthR_bs1 {s : List UInt8} {n : Nat} {K : List AV → Prop} {b : UInt8} (h : s[n]? = some b) (hk : K [.int .u8 b.toNat]) : nthR (bs s) n K :=
  nthR_intro (x := [.int .u8 b.toNat]) (by simp [bs, h]) hk
theorem nthR_is1 {l : List Int} {n : Nat} {K : List AV → Prop} {v : Int} (h : l[n]? = some v) (hk : K [.int .i64 v]) : nthR (is l) n K :=
  nthR_intro (x := [.int .i64 v]) (by simp [is, h]) hk
theorem fdiv_nat (a b : Nat) : Int.fdiv (a : Int) (b : Int) = ((a / b : Nat) : Int) := by
  rw [Int.fdiv_eq_ediv_of_nonneg _ (by omega)]; rfl
theorem wrap_nat {m : Nat} (hm : m < 9223372036854775808) : IntKind.wrap .i64 (m : Int) = m := by
  rw [IntKind.wrap_i64]; omega
theorem bv_nat {m : Nat} (hm : m < 9223372036854775808) : (BitVec.ofInt 64 (m : Int)).toNat = m := by
  rw [BitVec.ofInt_natCast, BitVec.toNat_ofNat]; omega
/-- Shifted and joined with a byte. -/
theorem shl_or {a b : Int} {n c : Nat} (ha : a = n) (hb : b = c) (hc : c < 256) (hn : n * 256 + c < 9223372036854775808) :
    IntKind.wrap .i64 (((BitVec.ofInt IntKind.i64.bits (IntKind.wrap .i64 (a * 2 ^ min (Int.toNat 8) IntKind.i64.bits)) ||| BitVec.ofInt IntKind.i64.bits b).toNat : Nat) : Int) = ((n * 256 + c : Nat) : Int) := by
  subst ha; subst hb
  have h1 : n * 256 < 9223372036854775808 := Nat.lt_of_le_of_lt (Nat.le_add_right _ _) hn
  have h2 : c < 9223372036854775808 := Nat.lt_trans hc (by decide)
  have e0 : min (Int.toNat 8) IntKind.i64.bits = 8 := by decide
  have e1 : ((n : Int) * 2 ^ 8) = ((n * 256 : Nat) : Int) := by omega
  rw [e0, e1, wrap_nat (m := n * 256) h1]
  show IntKind.wrap .i64 (((BitVec.ofInt 64 ((n * 256 : Nat) : Int) ||| BitVec.ofInt 64 (c : Int)).toNat : Nat) : Int) = ((n * 256 + c : Nat) : Int)
  have e3 : (BitVec.ofInt 64 ((n * 256 : Nat) : Int) ||| BitVec.ofInt 64 (c : Int)).toNat = n * 256 + c := by
    rw [BitVec.toNat_or, bv_nat h1, bv_nat h2]
    have := Nat.shiftLeft_add_eq_or_of_lt (i := 8) (b := c) (by omega) n
    rw [Nat.shiftLeft_eq] at this
    exact this.symm
  rw [e3, wrap_nat hn]

/-! ### Where a block is found -/
theorem get_new {σ : AH} {b : Blk} : (σ ++ [b])[σ.length]? = some b := by simp
theorem get_old {σ τ : AH} {i : Nat} {b : Blk} (h : σ[i]? = some b) : (σ ++ τ)[i]? = some b := by
  rw [List.getElem?_append_left (List.getElem?_eq_some_iff.1 h).1]; exact h
theorem get_set {σ : AH} {i : Nat} {b b0 : Blk} (h : σ[i]? = some b0) : (σ.set i b)[i]? = some b := by
  simp [(List.getElem?_eq_some_iff.1 h).1]
theorem get_set_ne {σ : AH} {i j : Nat} {b b0 : Blk} (hn : j ≠ i) (h : σ[i]? = some b) : (σ.set j b0)[i]? = some b := by
  rw [List.getElem?_set_ne hn]; exact h

/-! ### Contracts -/
/-- nil is an empty slice. -/
inductive NilW : AV → AV → Prop
  | refl (x : AV) : NilW x x
  | nil (sz : Nat) (fr : Bool) : NilW .nils (.sl sz [] fr)
inductive NilL : List AV → List AV → Prop
  | nil : NilL [] []
  | cons {x y xs ys} (h : NilW x y) (t : NilL xs ys) : NilL (x :: xs) (y :: ys)
inductive NilR : AV → AV → Prop
  | one {x y} (h : NilW x y) : NilR x y
  | tup {l m} (h : NilL l m) : NilR (.tup l) (.tup m)

/-- A contract whose results' empty slices may be nil. -/
def AOKn (P : Program) (f : Nat) (args : List AV) (post : AV → Prop) : Prop := AOK P f args fun y => ∃ y0, NilR y y0 ∧ post y0

theorem NilL.rep [Zone] {w : World} {E : Env} : ∀ {l m : List AV}, NilL l m → ∀ {cs : List Value}, RepL w E cs l → RepL w E cs m
  | _, _, .nil, _, .nil => .nil
  | _, _, .cons h t, _, .cons a b => by
    refine .cons ?_ (t.rep b)
    cases h with
    | refl => exact a
    | nil sz fr => rw [a.nils_inv]; exact .pure (.slnil sz fr)

theorem AOK.args {P : Program} {f : Nat} {l m : List AV} {post : AV → Prop} (hn : NilL l m) (h : AOK P f m post) : AOK P f l post :=
  ⟨h.1, fun z w E cs hr hrep => h.2 z w E cs hr (hn.rep hrep)⟩

/-- What a value shows to who reads it. -/
def Looks (σ : AH) (x v : AV) : Prop := ∀ (z' z : Zone) (E : Env) (w : World) (u : Value), @Rel z σ E w → @Rep z w E u x → @Rep z' w [] u v
theorem NilW.rep [Zone] {w : World} {E : Env} {u : Value} {x y : AV} (h : NilW x y) (hr : Rep w E u x) : Rep w E u y := by
  cases h with
  | refl => exact hr
  | nil sz fr => rw [hr.nils_inv]; exact .pure (.slnil sz fr)
theorem Looks.mk {σ : AH} {x u v : AV} (h : derefV σ x = some u) (hn : NilW u v) : Looks σ x v := fun z' z E w c hr hrep => @NilW.rep z' _ _ _ _ _ hn (derefV_ok (z' := z') hr h hrep)
inductive LooksL (σ : AH) : List AV → List AV → Prop
  | nil : LooksL σ [] []
  | cons {x v xs vs} (h : Looks σ x v) (t : LooksL σ xs vs) : LooksL σ (x :: xs) (v :: vs)

theorem Looks.own {σ : AH} {sz : Nat} {x : AV} {rows : List (List AV)} (h : Own σ sz x rows) : Looks σ x (.sl sz (untagLL rows) false) := by
  rcases h with ⟨rfl, rfl⟩ | ⟨i, g, sp, rfl, h⟩
  · exact .mk (u := .nils) rfl (.nil _ _)
  · refine .mk ?_ (.refl _)
    simp [derefV, derefC, h]
theorem Looks.same {σ : AH} {x v : AV} (h : derefV σ x = some v) : Looks σ x v := .mk h (.refl _)

theorem untagLL_bs (s : List UInt8) : untagLL (bs s) = bs s := by
  induction s with
  | nil => rfl
  | cons b s ih => rw [bs_cons, untagLL, ih]; rfl
theorem Looks.bs (σ : AH) (s : List UInt8) (fr : Bool) : Looks σ (.sl 1 (V.bs s) fr) (.sl 1 (V.bs s) false) := by
  refine .same ?_
  simp [derefV, derefC, AV.flat, untag, untagLL_bs]
theorem Looks.int (σ : AH) (k : IntKind) (n : Int) : Looks σ (.int k n) (.int k n) := .same rfl
theorem Looks.bool (σ : AH) (b : Bool) : Looks σ (.bool b) (.bool b) := .same rfl
theorem Looks.ownbs {σ : AH} {x : AV} {s : List UInt8} (h : Own σ 1 x (V.bs s)) : Looks σ x (.sl 1 (V.bs s) false) := by
  have := Looks.own h
  rwa [untagLL_bs] at this

theorem LooksL.rep {σ : AH} (z' z : Zone) {E : Env} {w : World} (hr : @Rel z σ E w) : ∀ {xs vs : List AV} {cs : List Value}, LooksL σ xs vs → @RepL z w E cs xs → @RepL z' w [] cs vs
  | _, _, _, .nil, .nil => @RepL.nil z' w []
  | _, _, _, .cons h t, .cons a b => @RepL.cons z' w [] _ _ _ _ (h z' z E w _ hr a) (LooksL.rep z' z hr t b)

/-! ### Slices of slices -/
/-- The same of what stands in a cell. -/
def LooksV (σ : AH) (x v : AV) : Prop := ∀ (z' z : Zone) (E : Env) (w : World) (u : Value), @Rel z σ E w → @Rep z w E u x → @RepV z' w (EW []) u v
inductive LooksVL (σ : AH) : List AV → List AV → Prop
  | nil : LooksVL σ [] []
  | cons {x v xs vs} (h : LooksV σ x v) (t : LooksVL σ xs vs) : LooksVL σ (x :: xs) (v :: vs)
theorem LooksV.sl {σ : AH} {x : AV} {sz : Nat} {l : List (List AV)} {fr : Bool} (h : Looks σ x (.sl sz l fr)) : LooksV σ x (.sl sz l fr) := fun z' z E w u hr hrep => by
  have := h z' z E w u hr hrep
  cases this with
  | pure h => exact h
theorem LooksV.flat {σ : AH} {x v : AV} (h : Looks σ x v) (hv : v.flat = true) : LooksV σ x v := fun z' z E w u hr hrep => @flat_rep z' w [] u v (h z' z E w u hr hrep) hv
theorem LooksVL.rep {σ : AH} (z' z : Zone) {E : Env} {w : World} (hr : @Rel z σ E w) : ∀ {xs vs : List AV} {cs : List Value}, LooksVL σ xs vs → @RepL z w E cs xs → @RepVL z' w (EW []) cs vs
  | _, _, _, .nil, .nil => @RepVL.nil z' w (EW [])
  | _, _, _, .cons h t, .cons a b => @RepVL.cons z' w (EW []) _ _ _ _ (h z' z E w _ hr a) (LooksVL.rep z' z hr t b)
theorem LooksVL.append {σ : AH} : ∀ {xs vs ys us : List AV}, LooksVL σ xs vs → LooksVL σ ys us → LooksVL σ (xs ++ ys) (vs ++ us)
  | _, _, _, _, .nil, k => k
  | _, _, _, _, .cons h t, k => .cons h (t.append k)

theorem Looks.nest {σ : AH} {id gen off len : Nat} {cap : Option Nat} {b : Blk} {rows : List (List AV)} (hb : σ[id]? = some b) (hg : b.gen = gen) (hle : off + len ≤ b.els.length) (hrow : ∀ r, r ∈ rows → r.length = b.sz) (hlen : rows.length = len)
    (h : LooksVL σ ((b.els.drop off).take len).flatten rows.flatten) (he : b.ext = none := by rfl) : Looks σ (.rsl id gen off len cap) (.sl b.sz rows false) := by
  intro z' z E w v hr hv
  obtain ⟨m, hm, hok⟩ := hr.blk id b hb
  replace hok := hok.cells he
  have hs' := hv.rsl_inv hm (hok.1.trans hg) hok.pos
  have hfl : rows.flatten.length = len * b.sz := by rw [flatten_len hrow, hlen]
  refine @Rep.pure z' w [] _ _ ?_
  unfold RslOk at hs'
  split at hs'
  · obtain ⟨h1, rfl, rfl, _⟩ := hs'
    have hn : rows = [] := List.length_eq_zero_iff.1 hlen
    subst hn
    rcases h1 with rfl | ⟨q, rfl⟩
    · exact @RepV.slnil z' w (EW []) _ _
    · exact @RepV.sl z' w (EW []) q 0 b.sz [] false [] (by simp) (by simp) (by omega) (by simp) (by simp) (by simp) (by simp) (@RepVL.nil z' w (EW []))
  · rename_i g c hpl
    obtain ⟨ad, k, e1, h1, h2, h3, _⟩ := hs'
    obtain ⟨cs, hcs, _⟩ := blk_rows hok hpl off len hle
    have hpv := h.rep z' z hr hcs.rep
    have hcl : cs.length = len * b.sz := by rw [@RepVL.length z' _ _ _ _ hpv, hfl]
    have hk6 := hok.2.2.2.2.2
    rw [hpl] at hk6
    have hkc : c ≤ 9223372036854775807 := hk6.2.1
    have hsh : Shows w ad cs := by
      by_cases hk0 : k = 0
      · have hl0 : len = 0 := by omega
        subst hl0
        have hcn : cs = [] := List.length_eq_zero_iff.1 (by rw [hcl]; simp)
        subst hcn
        exact fun j u hj => by simp at hj
      · rw [h3 hk0, hok.2.1]; exact hcs.shows
    have hres := @RepV.sl z' w (EW []) ad k b.sz rows false cs (fun q => by cases q) (by rw [hlen]; exact h1) (by omega) hrow (fun _ => ew_nil _) hsh hcs.one hpv
    rw [hlen, ← e1] at hres
    exact hres

def AV.plain : AV → Bool
  | .sl _ _ _ => false
  | .rsl _ _ _ _ _ => false
  | .tup _ => false
  | _ => true

/-- What a caller gets. -/
inductive Gives1 (σ : AH) : AV → AV → Prop
  | own {sz rows x fr} (h : Own σ sz x rows) : Gives1 σ (.sl sz rows fr) x
  | same {x} (h : x.plain = true) : Gives1 σ x x
inductive GivesL (σ : AH) : Nat → List AV → List AV → Prop
  | nil {n} : GivesL σ n [] []
  | cons {n m y x ys xs} (h : Gives1 σ y x) (hb : ∀ id, x.bid = some id → n ≤ id ∧ id < m) (hm : n ≤ m) (t : GivesL σ m ys xs) : GivesL σ n (y :: ys) (x :: xs)
inductive Gives (σ : AH) (n : Nat) : AV → AV → Prop
  | one {y x} (h : Gives1 σ y x) (hb : ∀ id, x.bid = some id → n ≤ id) : Gives σ n y x
  | tup {l m} (h : GivesL σ n l m) : Gives σ n (.tup l) (.tup m)

theorem impC_gives {H : AH} {n : Nat} {y y0 : AV} (hf : FreshE y) (hw : NilW y y0) (hH : ∀ i b, (impC n y).2[i]? = some b → H[n + i]? = some b) : Gives1 H y0 (impC n y).1 ∧ ∀ id, (impC n y).1.bid = some id → n ≤ id ∧ id < n + (impC n y).2.length := by
  cases hw with
  | nil sz fr => exact ⟨.own (Own.nil _ _), by intro id h; cases h⟩
  | refl =>
    cases y with
    | sl sz l fr =>
      cases fr
      · have hf' : FreshA _ := hf
        cases hf'
      · refine ⟨.own (.inr ⟨n, 0, [], rfl, ?_⟩), ?_⟩
        · simpa using hH 0 _ rfl
        · intro id h; cases h; simp [impC]
    | rsl => have hf' : FreshA _ := hf; cases hf'
    | tup => have hf' : FreshA _ := hf; cases hf'
    | _ => exact ⟨.same rfl, by intro id h; cases h⟩

theorem impL_gives {H : AH} : ∀ {l l0 : List AV} {n : Nat}, (∀ x, x ∈ l → FreshE x) → NilL l l0 → (∀ i b, (impL n l).2[i]? = some b → H[n + i]? = some b) → GivesL H n l0 (impL n l).1
  | _, _, n, _, .nil, _ => .nil
  | x :: r, _, n, hf, .cons h t, hH => by
    obtain ⟨h1, h2⟩ := impC_gives (H := H) (n := n) (hf _ (by simp)) h (fun i b hb => hH i b (by
      simp only [impL]; rw [List.getElem?_append_left (List.getElem?_eq_some_iff.1 hb).1]; exact hb))
    refine .cons (m := n + (impC n x).2.length) h1 h2 (by omega) (impL_gives (fun y hy => hf y (by simp [hy])) t ?_)
    intro i b hb
    have := hH ((impC n x).2.length + i) b (by
      simp only [impL]; rw [List.getElem?_append_right (by omega)]; simpa using hb)
    rw [← this]; congr 1; omega

theorem imp_gives {σ : AH} {y y0 : AV} (hf : FreshR y) (hw : NilR y y0) : Gives (σ ++ (imp σ.length y).2) σ.length y0 (imp σ.length y).1 := by
  have hH : ∀ (i : Nat) (b : Blk), (imp σ.length y).2[i]? = some b → (σ ++ (imp σ.length y).2)[σ.length + i]? = some b := by
    intro i b hb
    rw [List.getElem?_append_right (by omega)]; simpa using hb
  cases hw with
  | tup h => exact .tup (impL_gives hf h hH)
  | one h =>
    by_cases ht : ∃ l, y = .tup l
    · obtain ⟨l, rfl⟩ := ht
      cases h with
      | refl =>
        refine .tup (impL_gives hf ?_ hH)
        clear hH hf
        induction l with
        | nil => exact .nil
        | cons x r ih => exact .cons (.refl _) ih
    · have e : imp σ.length y = impC σ.length y := by
        unfold imp; split
        · exact absurd ⟨_, rfl⟩ ht
        · rfl
      have hf' : FreshE y := by
        unfold FreshR at hf; split at hf
        · exact absurd ⟨_, rfl⟩ ht
        · exact hf
      rw [e] at hH ⊢
      obtain ⟨h1, h2⟩ := impC_gives (n := σ.length) hf' h hH
      exact .one h1 (fun id hi => (h2 id hi).1)

/-- A contract used. -/
theorem AOKn.call {P : Program} {f : Nat} {xs vs : List AV} {σ : AH} {Q : AV → AH → Prop} {post : AV → Prop} (h : AOKn P f vs post) (hs : LooksL σ xs vs)
    (hQ : ∀ y x σ', post y → Gr σ σ' none → Gives σ' σ.length y x → Q x σ') : CallS P f xs σ Q := by
  have h' : AOK P f vs fun y => FreshR y ∧ ∃ y0, NilR y y0 ∧ post y0 := AOK.mono' h fun y hf hp => ⟨hf, hp⟩
  refine h'.callS (fun z' z E w cs hr hrep => hs.rep z' z hr hrep) ?_
  rintro y ⟨hf, y0, hn, hp⟩
  exact hQ y0 _ _ hp (Gr.append _ _) (imp_gives hf hn)

theorem Gives.tup_inv {σ : AH} {n : Nat} {l : List AV} {x : AV} (h : Gives σ n (.tup l) x) : ∃ m, x = .tup m ∧ GivesL σ n l m := by
  cases h with
  | tup h => exact ⟨_, rfl, h⟩
  | one h hb => cases h with | same h => cases h
theorem Gives.sl_inv {σ : AH} {n sz : Nat} {rows : List (List AV)} {fr : Bool} {x : AV} (h : Gives σ n (.sl sz rows fr) x) : Own σ sz x rows ∧ ∀ id, x.bid = some id → n ≤ id := by
  cases h with
  | one h hb => cases h with
    | own h => exact ⟨h, hb⟩
    | same h => cases h
theorem Gives.flat_inv {σ : AH} {n : Nat} {y x : AV} (h : Gives σ n y x) (hy : y.flat = true) (hs : ∀ sz l fr, y ≠ .sl sz l fr) : x = y := by
  cases h with
  | one h hb => cases h with
    | own h => exact absurd rfl (hs _ _ _)
    | same h => rfl
  | tup h => cases hy
theorem GivesL.cons_inv {σ : AH} {n : Nat} {y : AV} {l m : List AV} (h : GivesL σ n (y :: l) m) : ∃ x r k, m = x :: r ∧ Gives1 σ y x ∧ (∀ id, x.bid = some id → n ≤ id ∧ id < k) ∧ n ≤ k ∧ GivesL σ k l r := by
  cases h with
  | cons h hb hm t => exact ⟨_, _, _, rfl, h, hb, hm, t⟩
theorem GivesL.nil_inv {σ : AH} {n : Nat} {m : List AV} (h : GivesL σ n [] m) : m = [] := by
  cases h; rfl

/-! ### Two, three, four results -/
theorem Gives1.own_inv {σ : AH} {sz : Nat} {rows : List (List AV)} {fr : Bool} {x : AV} (h : Gives1 σ (.sl sz rows fr) x) : Own σ sz x rows := by
  cases h with
  | own h => exact h
  | same h => cases h
theorem Gives1.same_inv {σ : AH} {y x : AV} (h : Gives1 σ y x) (hy : y.plain = true) : x = y := by
  cases h with
  | own h => cases hy
  | same h => rfl
theorem Gives.two {σ : AH} {n : Nat} {y1 y2 x : AV} (h : Gives σ n (.tup [y1, y2]) x) : ∃ x1 x2, x = .tup [x1, x2] ∧ Gives1 σ y1 x1 ∧ Gives1 σ y2 x2 ∧ (∀ id, x1.bid = some id → n ≤ id) ∧ (∀ id, x2.bid = some id → n ≤ id) ∧ (∀ id, x1.bid = some id → x2.bid ≠ some id) := by
  obtain ⟨m, rfl, ha⟩ := h.tup_inv
  obtain ⟨x1, r, k, rfl, h1, h2, h3, hb⟩ := ha.cons_inv
  obtain ⟨x2, r2, k2, rfl, h4, h5, h6, hc⟩ := hb.cons_inv
  rw [hc.nil_inv]
  exact ⟨x1, x2, rfl, h1, h4, fun id hi => (h2 id hi).1, fun id hi => Nat.le_trans h3 (h5 id hi).1, fun id hi hj => by have := (h2 id hi).2; have := (h5 id hj).1; omega⟩
theorem Gives.three {σ : AH} {n : Nat} {y1 y2 y3 x : AV} (h : Gives σ n (.tup [y1, y2, y3]) x) : ∃ x1 x2 x3, x = .tup [x1, x2, x3] ∧ Gives1 σ y1 x1 ∧ Gives1 σ y2 x2 ∧ Gives1 σ y3 x3 ∧ (∀ id, x1.bid = some id → n ≤ id) ∧ (∀ id, x2.bid = some id → n ≤ id) ∧ (∀ id, x3.bid = some id → n ≤ id) ∧
    (∀ id, x1.bid = some id → x2.bid ≠ some id) ∧ (∀ id, x1.bid = some id → x3.bid ≠ some id) ∧ (∀ id, x2.bid = some id → x3.bid ≠ some id) := by
  obtain ⟨m, rfl, ha⟩ := h.tup_inv
  obtain ⟨x1, r, k, rfl, h1, h2, h3, hb⟩ := ha.cons_inv
  obtain ⟨x2, r2, k2, rfl, h4, h5, h6, hc⟩ := hb.cons_inv
  obtain ⟨x3, r3, k3, rfl, h7, h8, h9, hd⟩ := hc.cons_inv
  rw [hd.nil_inv]
  exact ⟨x1, x2, x3, rfl, h1, h4, h7, fun id hi => (h2 id hi).1, fun id hi => Nat.le_trans h3 (h5 id hi).1, fun id hi => Nat.le_trans h3 (Nat.le_trans h6 (h8 id hi).1), fun id hi hj => by have := (h2 id hi).2; have := (h5 id hj).1; omega,
    fun id hi hj => by have := (h2 id hi).2; have := (h8 id hj).1; omega, fun id hi hj => by have := (h5 id hi).2; have := (h8 id hj).1; omega⟩
theorem Own.ne {σ : AH} {sz : Nat} {x : AV} {rows : List (List AV)} (h : Own σ sz x rows) (hn : rows ≠ []) : ∃ id gen sp, x = .rsl id gen 0 rows.length none ∧ σ[id]? = some { sz := sz, els := rows ++ sp, gen := gen, wr := true, pure := true } := by
  rcases h with ⟨_, h⟩ | h
  · exact absurd h hn
  · exact h
theorem lenR_sl {σ : AH} {sz : Nat} {l : List (List AV)} {fr : Bool} {K : Nat → Prop} (h : K l.length) : LenW σ (.sl sz l fr) K := ⟨h⟩
theorem lenR_nils {σ : AH} {K : Nat → Prop} (h : K 0) : LenW σ .nils K := ⟨h⟩
theorem lenR_slx {σ : AH} {sz : Nat} {l : List (List AV)} {K : Nat → Prop} (h : K l.length) : LenW σ (.slx sz l) K := ⟨h⟩
theorem lenR_rsl {σ : AH} {id gen off len : Nat} {c : Option Nat} {K : Nat → Prop} (h : blkAt σ id gen fun _ => K len) : LenW σ (.rsl id gen off len c) K := ⟨h⟩
theorem rowsR_sl {σ : AH} {sz : Nat} {l : List (List AV)} {fr : Bool} {K : Bool → List (List AV) → Prop} (h : K true l) : RowsW σ sz (.sl sz l fr) K := ⟨⟨rfl, h⟩⟩
theorem rowsR_nils {σ : AH} {sz : Nat} {K : Bool → List (List AV) → Prop} (h : K true []) : RowsW σ sz .nils K := ⟨h⟩
theorem rowsR_slx {σ : AH} {sz : Nat} {l : List (List AV)} {K : Bool → List (List AV) → Prop} (h : K true l) : RowsW σ sz (.slx sz l) K := ⟨⟨rfl, h⟩⟩
theorem rowsR_rsl {σ : AH} {sz id gen off len : Nat} {c : Option Nat} {K : Bool → List (List AV) → Prop} (h : blkAt σ id gen fun b => sz = b.sz ∧ off + len ≤ b.els.length ∧ K b.pure ((b.els.drop off).take len)) : RowsW σ sz (.rsl id gen off len c) K := ⟨h⟩
theorem ia_sl {σ : AH} {sz : Nat} {l : List (List AV)} {fr : Bool} {n : Int} {K : AV → Prop} (h0 : Side (0 ≤ n)) (h : nthR l n.toNat fun row => K (.vptr row 0)) : IaW σ sz (.sl sz l fr) n K := ⟨⟨rfl, h0, h⟩⟩
theorem ia_own {σ : AH} {sz : Nat} {x : AV} {rows : List (List AV)} {n : Int} {K : AV → Prop} (h : Own σ sz x rows) (h0 : Side (0 ≤ n)) (h1 : Side (n < rows.length))
    (hk : ∀ id gen sp, x = .rsl id gen 0 rows.length none → σ[id]? = some { sz := sz, els := rows ++ sp, gen := gen, wr := true, pure := true } → K (.ptr id gen (0 + n.toNat) 0)) : IaW σ sz x n K := by
  obtain ⟨id, gen, sp, rfl, hb⟩ := h.ne (by
    intro e; rw [e] at h1; have h2 : 0 ≤ n := h0; have h3 : n < ((([] : List (List AV)).length : Nat) : Int) := h1; simp at h3; omega)
  exact ⟨blkAt_intro hb rfl ⟨rfl, h0, h1, hk id gen sp rfl hb⟩⟩
theorem nthR_z {l : List (List AV)} {n : Nat} {K : List AV → Prop} (h : nthR l n K) : nthR l (0 + n) K := by rw [Nat.zero_add]; exact h
theorem iaddrR_own {σ : AH} {sz : Nat} {x : AV} {rows : List (List AV)} {n : Int} {K : AV → Prop} (h : Own σ sz x rows) (h0 : 0 ≤ n) (h1 : n < rows.length)
    (hk : ∀ id gen sp, x = .rsl id gen 0 rows.length none → σ[id]? = some { sz := sz, els := rows ++ sp, gen := gen, wr := true, pure := true } → K (.ptr id gen (0 + n.toNat) 0)) : iaddrR σ sz x n K := by
  obtain ⟨id, gen, sp, rfl, hb⟩ := h.ne (by intro e; rw [e] at h1; simp at h1; omega)
  exact blkAt_intro hb rfl ⟨rfl, h0, h1, hk id gen sp rfl hb⟩
theorem nthR_left {l sp : List (List AV)} {n : Nat} {K : List AV → Prop} (hn : n < l.length) (h : nthR l n K) : nthR (l ++ sp) n K := by
  obtain ⟨_, h2⟩ := nthR_elim h
  have e := List.getElem?_eq_getElem hn
  exact nthR_intro (x := l[n]) (by rw [List.getElem?_append_left hn, e]) (h2 _ e)

/-! ### What is handed back, nil being empty -/
structure NOut (σ : AH) (x : AV) (K : AV → List Nat → Prop) : Prop where
  of ::
  ok : ∃ y z ts nest ids, expC σ x = some (y, ts, nest) ∧ NilW y z ∧ (∀ a : Nat, (ts.map (·.1) ++ nest).count a ≤ ids.count a) ∧ K z ids
def outNL (σ : AH) : List AV → (List AV → List Nat → Prop) → Prop
  | [], K => K [] []
  | x :: r, K => NOut σ x fun y a => outNL σ r fun ys b => K (y :: ys) (a ++ b)
def outNR (σ : AH) (x : AV) (post : AV → Prop) : Prop :=
  match x with
  | .tup l => outNL σ l fun m ids => ids.Nodup ∧ FreshR (.tup m) ∧ post (.tup m)
  | x => NOut σ x fun y ids => ids.Nodup ∧ FreshR y ∧ post y
theorem NOut.lit {σ : AH} {x : AV} {K : AV → List Nat → Prop} (h : outC σ x fun y ts nest => K y (ts.map (·.1) ++ nest)) : NOut σ x K := by
  obtain ⟨y, ts, nest, h1, h2⟩ := outC_elim h
  exact ⟨y, y, ts, nest, _, h1, .refl _, fun a => Nat.le_refl _, h2⟩
theorem NOut.own {σ : AH} {sz : Nat} {x : AV} {rows : List (List AV)} {K : AV → List Nat → Prop} (h : Own σ sz x rows) (hk : K (.sl sz rows true) x.bid.toList) : NOut σ x K := by
  rcases h with ⟨rfl, rfl⟩ | ⟨i, g, sp, rfl, h⟩
  · exact ⟨.nils, .sl sz [] true, [], [], _, rfl, .nil _ _, fun a => Nat.zero_le _, hk⟩
  · refine ⟨.sl sz rows true, _, [(i, rows.length)], [], _, ?_, .refl _, fun a => Nat.le_refl _, hk⟩
    simp [expC, h]
theorem outNL_elim {σ : AH} : ∀ {l : List AV} {K : List AV → List Nat → Prop}, outNL σ l K → ∃ m m' ts nest ids, expL σ l = some (m, ts, nest) ∧ NilL m m' ∧ (∀ a : Nat, (ts.map (·.1) ++ nest).count a ≤ ids.count a) ∧ K m' ids
  | [], K, h => ⟨[], [], [], [], [], rfl, .nil, fun a => Nat.le_refl _, h⟩
  | x :: r, K, h => by
    obtain ⟨y, z, ts, nest, ids, h1, h2, h3, h4⟩ := h.ok
    obtain ⟨m, m', ts2, nest2, ids2, k1, k2, k3, k4⟩ := outNL_elim h4
    refine ⟨y :: m, z :: m', ts ++ ts2, nest ++ nest2, ids ++ ids2, by simp [expL, h1, k1], .cons h2 k2, fun a => ?_, k4⟩
    have a1 := h3 a
    have a2 := k3 a
    simp only [List.map_append, List.count_append] at a1 a2 ⊢
    omega
theorem nodup_of_count {l ids : List Nat} (h : ∀ a : Nat, l.count a ≤ ids.count a) (hn : ids.Nodup) : l.Nodup := by
  rw [List.nodup_iff_count] at hn ⊢
  exact fun a => Nat.le_trans (h a) (hn a)
theorem NilW.fresh {y z : AV} (h : NilW y z) (hz : FreshE z) : FreshE y := by
  cases h with
  | refl => exact hz
  | nil => exact FreshA.nils
theorem NilL.fresh : ∀ {m m' : List AV}, NilL m m' → (∀ x, x ∈ m' → FreshE x) → ∀ x, x ∈ m → FreshE x
  | _, _, .nil, _ => by simp
  | _, _, .cons h t, hf => by
    intro x hx
    rcases List.mem_cons.1 hx with rfl | hx
    · exact h.fresh (hf _ (by simp))
    · exact t.fresh (fun x hx => hf x (by simp [hx])) x hx
theorem NilW.trans {x y z : AV} (h : NilW x y) (k : NilW y z) : NilW x z := by
  cases h with
  | refl => exact k
  | nil => cases k with | refl => exact .nil _ _
theorem NilL.trans : ∀ {l m n : List AV}, NilL l m → NilL m n → NilL l n
  | _, _, _, .nil, .nil => .nil
  | _, _, _, .cons h t, .cons k u => .cons (h.trans k) (t.trans u)
theorem NilR.transL {m m' : List AV} {post : AV → Prop} (h : NilL m m') (k : ∃ y0, NilR (.tup m') y0 ∧ post y0) : ∃ y0, NilR (.tup m) y0 ∧ post y0 := by
  obtain ⟨y0, k, hp⟩ := k
  cases k with
  | one k => cases k with | refl => exact ⟨_, .tup h, hp⟩
  | tup k => exact ⟨_, .tup (h.trans k), hp⟩
theorem NilR.trans1 {y z : AV} {post : AV → Prop} (h : NilW y z) (k : ∃ y0, NilR z y0 ∧ post y0) : ∃ y0, NilR y y0 ∧ post y0 := by
  obtain ⟨y0, k, hp⟩ := k
  cases h with
  | refl => exact ⟨_, k, hp⟩
  | nil sz fr =>
    cases k with
    | one k => exact ⟨_, .one ((NilW.nil sz fr).trans k), hp⟩
theorem AOKn.by_steps {P : Program} (hm : P.follows .mixedOrders = true) {f : Nat} {hs : Hs} {F : FC} (hc : compF P f hs = some F) {args : List AV} (ha : args.length ≤ F.n) {post : AV → Prop}
    (h : bodyA (CallS P) (IterS P) F.cmd F.res args [] fun x σ => outNR σ x fun z => ∃ y0, NilR z y0 ∧ post y0) : AOKn P f args post := by
  refine AOK.of_call ((call_of_body hm hc ha h).mono fun x σ hx => ?_)
  unfold outNR at hx
  split at hx
  · obtain ⟨m, m', ts, nest, ids, k1, k2, k3, k4, k5, k6⟩ := outNL_elim hx
    exact ⟨.tup m, ts, nest, by simp [expR, k1], nodup_of_count k3 k4, k2.fresh k5, NilR.transL k2 k6⟩
  · rename_i hnt
    obtain ⟨y, z, ts, nest, ids, h1, h2, h3, h4, h5, h6⟩ := hx.ok
    have hz : FreshE z := by
      unfold FreshR at h5
      split at h5
      · rename_i l
        cases h2 with
        | refl =>
          exfalso
          unfold expC at h1
          split at h1
          · split at h1
            · split at h1 <;> cases h1
            · cases h1
          · obtain ⟨p, _, he⟩ := Option.map_eq_some_iff.1 h1; cases he
          · cases h1
          · split at h1
            · rename_i hz; cases h1; cases hz
            · cases h1
      · exact h5
    have hy := h2.fresh hz
    refine ⟨y, ts, nest, ?_, nodup_of_count h3 h4, ?_, NilR.trans1 h2 h6⟩
    · unfold expR
      split
      · exact absurd rfl (hnt _)
      · exact h1
    · unfold FreshR
      split
      · rename_i l
        have : FreshA (.tup l) := hy
        cases this
      · exact hy
theorem AOKn.monoN {P : Program} {f : Nat} {args : List AV} {post post' : AV → Prop} (h : AOKn P f args post) (hp : ∀ y, post y → ∃ y', NilR y y' ∧ post' y') : AOKn P f args post' := by
  refine AOK.mono h fun y ⟨y0, hn, h0⟩ => ?_
  obtain ⟨y1, h1, h2⟩ := hp y0 h0
  cases hn with
  | one hn => exact NilR.trans1 hn ⟨y1, h1, h2⟩
  | tup hn => exact NilR.transL hn ⟨y1, h1, h2⟩
theorem nodup_bid1 (x : AV) : (x.bid.toList).Nodup := by cases x.bid <;> simp
theorem nodup_bid2 {x y : AV} (h : ∀ id, x.bid = some id → y.bid ≠ some id) : (x.bid.toList ++ y.bid.toList).Nodup := by
  cases hx : x.bid with
  | none => simpa [hx] using nodup_bid1 y
  | some a =>
    cases hy : y.bid with
    | none => simp
    | some b =>
      have := h a hx
      rw [hy] at this
      simp
      exact fun e => this (by rw [e])
theorem ret_same {x y : AV} (h : x = y) : ∃ y0, NilR x y0 ∧ y0 = y := ⟨_, .one (.refl _), h⟩
theorem ret_bool {x b : Bool} (h : x = b) : ∃ y0, NilR (.bool x) y0 ∧ y0 = .bool b := ⟨_, .one (.refl _), by rw [h]⟩
theorem ret_nil {sz : Nat} {fr : Bool} {rows : List (List AV)} (h : rows = []) : ∃ y0, NilR .nils y0 ∧ y0 = .sl sz rows fr := ⟨_, .one (.nil sz fr), by rw [h]⟩
theorem ret_nilt {sz : Nat} {fr : Bool} {rows : List (List AV)} {l : List AV} (h : rows = []) : ∃ y0, NilR (.tup (.nils :: l)) y0 ∧ y0 = .tup (.sl sz rows fr :: l) := by
  have key : NilL l l := by
    induction l with
    | nil => exact .nil
    | cons x r ih => exact .cons (.refl _) ih
  exact ⟨_, .tup (.cons (.nil sz fr) key), by rw [h]⟩
theorem getN {α : Type} {l : List α} {k : Nat} (h : k < l.length) : ∃ p, l[((k : Nat) : Int).toNat]? = some p ∧ l[k]? = some p := ⟨l[k], by simp [h], by simp [h]⟩

/-! ### Append in two ways -/
/-- What is appended goes as it is, references too (a mark for the stepping). -/
structure UseRaw : Prop where
theorem AppC.frz {σ : AH} {sz bytes : Nat} {a b : AV} {K : AV → AH → Prop} (h : frzR σ sz b fun ys σ' => AppW σ' sz bytes a ys K) : AppC σ sz bytes a b K := ⟨.inl h⟩
theorem AppC.raw {σ : AH} {sz bytes : Nat} {a b : AV} {K : AV → AH → Prop} (_ : UseRaw) (h : RowsW σ sz b fun _ ys => AppIW σ sz bytes a ys K) : AppC σ sz bytes a b K := ⟨.inr h⟩
theorem appI_nil {σ : AH} {sz bytes : Nat} {ys : List (List AV)} {K : AV → AH → Prop} (h0 : 0 < ys.length) (hb : ys.length * bytes ≤ 140737488355328) (hk : K (.rsl σ.length 0 0 ys.length none) (newB σ sz ys false)) : AppIW σ sz bytes .nils ys K := ⟨⟨h0, hb, hk⟩⟩
theorem appI_rsl {σ : AH} {sz bytes id gen len : Nat} {b : Blk} {ys : List (List AV)} {K : AV → AH → Prop} (hb : σ[id]? = some b) (hg : b.gen = gen) (hsz : sz = b.sz) (hw : b.wr = true) (hle : len ≤ b.els.length) (hbd : (len + ys.length) * bytes ≤ 140737488355328)
    (hk : K (.rsl id (gen + 1) 0 (len + ys.length) none) (σ.set id { sz := b.sz, els := b.els.take len ++ ys, gen := gen + 1, wr := true, pure := false })) (he : b.ext = none := by rfl) : AppIW σ sz bytes (.rsl id gen 0 len none) ys K :=
  ⟨blkAt_intro hb hg ⟨hsz, hw, rfl, hle, hbd, hk⟩ he⟩

/-! ### Maps -/
theorem mapW_step {σ : AH} {id clock : Nat} {es : List ME} {K : Nat → Blk → List ME → Nat → Prop} (h : σ[id]? = some (mblk es clock)) (hk : K id (mblk es clock) es clock) : MapW σ (.rsl id 0 0 0 none) K := by
  refine ⟨?_⟩
  simp only [mapD, h, mblk]
  exact ⟨trivial, trivial, hk⟩
theorem lookW_some {o : Option ML} {v : ML} {K : Option ML → Prop} (h : o = some v) (hk : K (some v)) : LookW o K := ⟨by rw [h]; exact hk⟩
theorem lookW_none {o : Option ML} {K : Option ML → Prop} (h : o = none) (hk : K none) : LookW o K := ⟨by rw [h]; exact hk⟩
theorem nextW_step {σ : AH} {it mid since stepped clock : Nat} {seen : List Nat} {es : List ME} {K : AV → AH → Prop} (hi : σ[it]? = some (iblk mid 0 since seen stepped)) (hm : σ[mid]? = some (mblk es clock)) (hs : seen = [] ∨ es = [] ∨ ∃ e, e ∈ es ∧ e.born < stepped)
    (hstop : (∀ e, e ∈ es → e.born < since → e.born ∈ seen) → K (.tup [.bool false]) σ)
    (hgo : ∀ e, e ∈ es → e.born ∉ seen → K (.tup [.bool true, .int .i64 e.key, e.val.a]) (σ.set it (iblk mid 0 since (seen ++ [e.born]) clock))) : NextW σ (.ptr it 0 0 0) K := by
  refine ⟨?_⟩
  simp only [nextD, hi, iblk, hm, mblk]
  exact ⟨trivial, trivial, trivial, hs, hstop, hgo⟩
theorem entryW_step {σ : AH} {it mid since clock : Nat} {seen : List Nat} {s : Nat} {e : ME} {es : List ME} {K : AV → AH → Prop} (hi : σ[it]? = some (iblk mid 0 since seen clock)) (hm : σ[mid]? = some (mblk es clock)) (hl : seen.getLast? = some s) (hf : es.find? (fun e => e.born == s) = some e)
    (hk : K (.tup [.int .i64 e.key, e.val.a]) σ) : EntryW σ (.ptr it 0 0 0) K := by
  refine ⟨?_⟩
  simp only [entryD, hi, iblk, hm, mblk]
  exact ⟨trivial, trivial, trivial, s, e, hl, hf, hk⟩
end Go.Proofs.Ytppccaacbpkgiaa.V
