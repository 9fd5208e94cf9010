import Derived.Test.YtjbfdhnfdehdeaaPlaw01
import Derived.Test.YtjbfdhnfdehdeaaVL
namespace Go.Proofs.Ytjbfdhnfdehdeaa
open Go Go.Proofs.Ytjbfdhnfdehdeaa.V
set_option maxRecDepth 20000
attribute [local irreducible] CallS AOK AOKn ALoop Side Ref.ok
/-- Slices that were lent: each block with the mark behind. -/
def Lents (σ : AH) (xs : List AV) (D : List (List UInt8)) : Prop := ∀ (j : Nat) (x : AV) (d : List UInt8), xs[j]? = some x → D[j]? = some d → ∃ id, x = .rsl id 0 0 d.length none ∧ σ[id]? = some { sz := 1, els := bs (d ++ [77]), gen := 0, wr := true, pure := true }
theorem Lents.nil (σ : AH) : Lents σ [] [] := fun j x d h => by simp at h
theorem Lents.keep {σ σ' : AH} {o : Option Nat} {xs : List AV} {D : List (List UInt8)} (h : Lents σ xs D) (hg : Gr σ σ' o) (hd : ∀ x, x ∈ xs → x.bid = none ∨ o ≠ x.bid) : Lents σ' xs D := fun j x d h1 h2 => by
  obtain ⟨id, rfl, hb⟩ := h j x d h1 h2
  refine ⟨id, rfl, hg.2 id _ hb ?_⟩
  rcases hd _ (List.mem_of_getElem? h1) with q | q
  · cases q
  · exact fun e => q e
theorem Lents.keepN {σ σ' : AH} {xs : List AV} {D : List (List UInt8)} (h : Lents σ xs D) (hg : Gr σ σ' none) : Lents σ' xs D := h.keep hg fun x _ => by cases x.bid <;> simp
theorem Lents.snoc {σ : AH} {xs : List AV} {D : List (List UInt8)} (hl : xs.length = D.length) (h : Lents σ xs D) {id : Nat} {d : List UInt8} (hb : σ[id]? = some { sz := 1, els := bs (d ++ [77]), gen := 0, wr := true, pure := true }) : Lents σ (xs ++ [.rsl id 0 0 d.length none]) (D ++ [d]) := fun j x e h1 h2 => by
  rw [List.getElem?_append] at h1 h2
  rw [hl] at h1
  split at h1
  · rename_i hj
    rw [if_pos hj] at h2
    exact h j x e h1 h2
  · rename_i hj
    rw [if_neg hj] at h2
    have : j - D.length = 0 := by
      cases q : j - D.length with
      | zero => rfl
      | succ n => rw [q] at h1; simp at h1
    rw [this] at h1 h2
    simp at h1 h2
    subst h1; subst h2
    exact ⟨id, rfl, hb⟩
theorem Lents.own {σ : AH} {xs : List AV} {D : List (List UInt8)} (h : Lents σ xs D) {j : Nat} {x : AV} {d : List UInt8} (h1 : xs[j]? = some x) (h2 : D[j]? = some d) : Own σ 1 x (bs d) := by
  obtain ⟨id, rfl, hb⟩ := h j x d h1 h2
  exact .mk' (sp := bs [77]) hb (by rw [bs_length]) (by rw [bs_append])
theorem Owned_sep {σ0 : AH} {xs : List AV} {D : List (List UInt8)} (S : Sep σ0 xs D) {σ : AH} (hg : Gr σ0 σ none) {idr : Nat} (gr : Nat) (pu wr fu : Bool) (hi : σ0.length ≤ idr) (hr : σ[idr]? = some { sz := 1, els := xs.map fun x => [x], gen := gr, wr := wr, pure := pu, full := fu })
    (hl : xs.length ≤ 4611686018427) (Q : AV → AH → Prop) (h : ∀ σ', Els σ σ' xs → Q (.bool true) σ') : CallS Try.prog F.joistlaw01_Owned [.rsl idr gr 0 xs.length none] σ Q := by
  refine Owned_own σ xs idr gr pu wr fu hr (fun j x hj => ?_) S.dis (fun j x hj e => ?_) hl Q h
  · obtain ⟨d, _, ho⟩ := S.row hj
    exact ⟨_, ho.keepN hg⟩
  · have := S.lt (List.mem_of_getElem? hj) e
    omega
end Go.Proofs.Ytjbfdhnfdehdeaa
