import Derived.Test.YthakanioekmhbaaI
import Derived.Test.YthakanioekmhbaaVI
namespace Go.Proofs.Ythakanioekmhbaa
open Go Go.Proofs.Ythakanioekmhbaa.V
set_option maxRecDepth 20000
attribute [local irreducible] CallS AOK AOKn ALoop Side Ref.ok
theorem Gives.plain_inv {σ : AH} {n : Nat} {y x : AV} (h : Gives σ n y x) (hy : y.plain = true) : x = y := by
  cases h with
  | one h hb => exact h.same_inv hy
  | tup h => cases hy
theorem call_one {f : Nat} {xs vs : List AV} {σ : AH} {Q : AV → AH → Prop} {y0 : AV} (h : AOKn Try.prog f vs fun y => y = y0) (hs : LooksL σ xs vs) (hf : y0.plain = true) (hQ : ∀ σ', Gr σ σ' none → Q y0 σ') : CallS Try.prog f xs σ Q := by
  refine h.call hs ?_
  rintro _ x σ1 rfl hg hG
  obtain rfl := Gives.plain_inv hG hf
  exact hQ σ1 hg
theorem call_two {f : Nat} {xs vs : List AV} {σ : AH} {Q : AV → AH → Prop} {y1 y2 : AV} (h : AOKn Try.prog f vs fun y => y = .tup [y1, y2]) (hs : LooksL σ xs vs) (h1 : y1.plain = true) (h2 : y2.plain = true) (hQ : ∀ σ', Gr σ σ' none → Q (.tup [y1, y2]) σ') : CallS Try.prog f xs σ Q := by
  refine h.call hs ?_
  rintro _ x σ1 rfl hg hG
  obtain ⟨_, _, rfl, a1, a2, _⟩ := hG.two
  obtain rfl := a1.same_inv h1
  obtain rfl := a2.same_inv h2
  exact hQ σ1 hg
def New (σ : AH) (y : AV) : Prop := ∀ id, y.bid = some id → σ.length ≤ id
/-- One slice of one's own comes back. -/
theorem call_sl {f : Nat} {xs vs : List AV} {σ : AH} {Q : AV → AH → Prop} {sz : Nat} {rows : List (List AV)} (h : AOKn Try.prog f vs fun y => y = .sl sz rows true) (hs : LooksL σ xs vs) (hQ : ∀ σ' y, Gr σ σ' none → Own σ' sz y rows → New σ y → Q y σ') : CallS Try.prog f xs σ Q := by
  refine h.call hs ?_
  rintro _ x σ1 rfl hg hG
  obtain ⟨h1, h2⟩ := hG.sl_inv
  exact hQ σ1 x hg h1 h2
/-- A slice and a plain value. -/
theorem call_sl1 {f : Nat} {xs vs : List AV} {σ : AH} {Q : AV → AH → Prop} {sz : Nat} {rows : List (List AV)} {y2 : AV} (h : AOKn Try.prog f vs fun y => y = .tup [.sl sz rows true, y2]) (hs : LooksL σ xs vs) (h2 : y2.plain = true) (hQ : ∀ σ' y, Gr σ σ' none → Own σ' sz y rows → New σ y → Q (.tup [y, y2]) σ') : CallS Try.prog f xs σ Q := by
  refine h.call hs ?_
  rintro _ x σ1 rfl hg hG
  obtain ⟨_, _, rfl, a1, a2, hn, _⟩ := hG.two
  obtain rfl := a2.same_inv h2
  exact hQ σ1 _ hg a1.own_inv hn
/-- A slice and two plain values. -/
theorem call_sl2 {f : Nat} {xs vs : List AV} {σ : AH} {Q : AV → AH → Prop} {sz : Nat} {rows : List (List AV)} {y2 y3 : AV} (h : AOKn Try.prog f vs fun y => y = .tup [.sl sz rows true, y2, y3]) (hs : LooksL σ xs vs) (h2 : y2.plain = true) (h3 : y3.plain = true) (hQ : ∀ σ' y, Gr σ σ' none → Own σ' sz y rows → New σ y → Q (.tup [y, y2, y3]) σ') : CallS Try.prog f xs σ Q := by
  refine h.call hs ?_
  rintro _ x σ1 rfl hg hG
  obtain ⟨_, _, _, rfl, a1, a2, a3, hn, _⟩ := hG.three
  obtain rfl := a2.same_inv h2
  obtain rfl := a3.same_inv h3
  exact hQ σ1 _ hg a1.own_inv hn
theorem disj_new {σ : AH} {sz : Nat} {x y : AV} {rows : List (List AV)} (hx : Own σ sz x rows) (hy : New σ y) : x.bid = none ∨ x.bid ≠ y.bid := by
  cases hb : x.bid with
  | none => exact .inl rfl
  | some id =>
    refine .inr fun e => ?_
    have h1 := hx.lt hb
    have h2 := hy id e.symm
    omega
theorem disj_symm {x y : AV} (h : x.bid = none ∨ x.bid ≠ y.bid) : y.bid = none ∨ y.bid ≠ x.bid := by
  rcases h with h | h
  · cases hy : y.bid with
    | none => exact .inl rfl
    | some a => right; rw [h]; simp
  · exact .inr fun e => h e.symm
theorem not_new {σ : AH} {sz : Nat} {x : AV} {rows : List (List AV)} (hx : Own σ sz x rows) : x.bid ≠ some σ.length := fun e => by
  have := hx.lt e
  omega
end Go.Proofs.Ythakanioekmhbaa
