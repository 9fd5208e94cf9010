import Derived.Test.YtjbfdhnfdehdeaaPtags2
namespace Go.Proofs.Ytjbfdhnfdehdeaa
open Go Go.Proofs.Ytjbfdhnfdehdeaa.V
/-! ### Neighbors in lists -/
def nxL (c : Nat) (l : List (Int × Int)) : Int :=
  match l.find? (fun g => lw g.2 == c) with
  | some g => g.1 + 1
  | none => 0
def nxt (G : List (Int × Int)) (j : Nat) : Int :=
  match G[j]? with
  | some g => nxL (lw g.2) (G.drop (j + 1))
  | none => 0
def prv (G : List (Int × Int)) (j : Nat) : Int :=
  match G[j]? with
  | some g => nxL (lw g.2) (G.take j).reverse
  | none => 0
def hdsL (G : List (Int × Int)) : List Int := (List.range 7).map fun c => nxL c G
def chn (G : List (Int × Int)) : List (Int × Int) := (List.range G.length).map fun j => (nxt G j, prv G j)
theorem nxL_none {c : Nat} {l : List (Int × Int)} (h : ∀ g, g ∈ l → lw g.2 ≠ c) : nxL c l = 0 := by
  unfold nxL
  rw [List.find?_eq_none.2 (fun g hg => by simpa using h g hg)]
theorem nxL_append (c : Nat) (l : List (Int × Int)) (g : Int × Int) : nxL c (l ++ [g]) = if ∃ x, x ∈ l ∧ lw x.2 = c then nxL c l else if lw g.2 = c then g.1 + 1 else 0 := by
  unfold nxL
  rw [List.find?_append]
  cases hf : l.find? (fun g => lw g.2 == c) with
  | none =>
    have hn := List.find?_eq_none.1 hf
    rw [if_neg (by rintro ⟨x, hx, he⟩; exact hn x hx (by simpa using he))]
    by_cases hg : lw g.2 = c
    · simp [List.find?, hg]
    · have e : (lw g.2 == c) = false := by simpa using hg
      simp [List.find?, hg, e]
  | some x =>
    have h1 := List.find?_some hf
    have h2 := List.mem_of_find?_eq_some hf
    rw [if_pos ⟨x, h2, by simpa using h1⟩]; rfl
theorem nxL_first {c : Nat} : ∀ {l : List (Int × Int)} {m : Nat} {g : Int × Int}, (∀ j x, j < m → l[j]? = some x → lw x.2 ≠ c) → l[m]? = some g → lw g.2 = c → nxL c l = g.1 + 1
  | [], m, g, _, h, _ => by simp at h
  | x :: r, 0, g, _, h, hc => by
    simp at h; subst h
    simp [nxL, List.find?, hc]
  | x :: r, m + 1, g, hn, h, hc => by
    have hx : lw x.2 ≠ c := hn 0 x (by omega) rfl
    have ih := nxL_first (l := r) (m := m) (g := g) (fun j y hj hy => hn (j + 1) y (by omega) (by simpa using hy)) (by simpa using h) hc
    have e : (lw x.2 == c) = false := by simpa using hx
    unfold nxL at ih ⊢
    rw [List.find?_cons, e]
    exact ih
/-- 1 more than the last place so far with that list. -/
def lastI (G : List (Int × Int)) : Nat → Nat → Nat
  | 0, _ => 0
  | i + 1, c => match G[i]? with
    | some g => if lw g.2 = c then i + 1 else lastI G i c
    | none => lastI G i c
theorem lastI_spec (G : List (Int × Int)) (c : Nat) : ∀ i, lastI G i c ≤ i ∧ (∀ j g, lastI G i c ≤ j → j < i → G[j]? = some g → lw g.2 ≠ c) ∧ (0 < lastI G i c → ∃ g, G[lastI G i c - 1]? = some g ∧ lw g.2 = c)
  | 0 => ⟨Nat.le_refl _, fun j g h1 h2 => by omega, fun h => by simp [lastI] at h⟩
  | i + 1 => by
    obtain ⟨h1, h2, h3⟩ := lastI_spec G c i
    cases hg : G[i]? with
    | none =>
      have e : lastI G (i + 1) c = lastI G i c := by simp only [lastI, hg]
      rw [e]
      refine ⟨by omega, fun j g hj hji hG => ?_, h3⟩
      by_cases hjj : j = i
      · subst hjj; rw [hg] at hG; cases hG
      · exact h2 j g hj (by omega) hG
    | some x =>
      by_cases hx : lw x.2 = c
      · have e : lastI G (i + 1) c = i + 1 := by simp only [lastI, hg]; rw [if_pos hx]
        rw [e]
        exact ⟨Nat.le_refl _, fun j g hj hji => by omega, fun _ => ⟨x, by simpa using hg, hx⟩⟩
      · have e : lastI G (i + 1) c = lastI G i c := by simp only [lastI, hg]; rw [if_neg hx]
        rw [e]
        refine ⟨by omega, fun j g hj hji hG => ?_, h3⟩
        by_cases hjj : j = i
        · subst hjj; rw [hg] at hG; cases hG; exact hx
        · exact h2 j g hj (by omega) hG
def nxP (G : List (Int × Int)) (i j : Nat) : Int :=
  match G[j]? with
  | some g => nxL (lw g.2) ((G.take i).drop (j + 1))
  | none => 0
def outS (G : List (Int × Int)) (i : Nat) : List (Int × Int) := (List.range G.length).map fun j => if j < i then (nxP G i j, prv G j) else (0, 0)
def hdS (G : List (Int × Int)) (i : Nat) : List Int := (List.range 7).map fun c => nxL c (G.take i)
def lsS (G : List (Int × Int)) (i : Nat) : List Int := (List.range 7).map fun c => ((lastI G i c : Nat) : Int)
theorem outS_length (G : List (Int × Int)) (i : Nat) : (outS G i).length = G.length := by simp [outS]
theorem outS_get {G : List (Int × Int)} {i j : Nat} (h : j < G.length) : (outS G i)[j]? = some (if j < i then (nxP G i j, prv G j) else (0, 0)) := by
  simp [outS, List.getElem?_range h]
theorem outS_zero (G : List (Int × Int)) : outS G 0 = List.replicate G.length (0, 0) := by
  apply List.ext_getElem?
  intro j
  by_cases h : j < G.length
  · rw [outS_get h, if_neg (by omega), List.getElem?_replicate, if_pos h]
  · rw [List.getElem?_eq_none (by rw [outS_length]; omega), List.getElem?_eq_none (by rw [List.length_replicate]; omega)]
theorem outS_full (G : List (Int × Int)) : outS G G.length = chn G := by
  apply List.ext_getElem?
  intro j
  by_cases h : j < G.length
  · rw [outS_get h, if_pos h]
    simp [chn, List.getElem?_range h, nxP, nxt, List.take_length]
  · rw [List.getElem?_eq_none (by rw [outS_length]; omega), List.getElem?_eq_none (by simp [chn]; omega)]
theorem take_snoc {α : Type} {G : List α} {i : Nat} {g : α} (h : G[i]? = some g) : G.take (i + 1) = G.take i ++ [g] := by rw [List.take_add_one, h]; rfl
theorem mem_take_drop {α : Type} {G : List α} {a i : Nat} {x : α} : x ∈ (G.take i).drop a ↔ ∃ j, a ≤ j ∧ j < i ∧ G[j]? = some x := by
  constructor
  · intro h
    obtain ⟨k, hk⟩ := List.mem_iff_getElem?.1 h
    rw [List.getElem?_drop] at hk
    have hl := (List.getElem?_eq_some_iff.1 hk).1
    rw [List.length_take] at hl
    rw [List.getElem?_take_of_lt (by omega)] at hk
    exact ⟨a + k, by omega, by omega, hk⟩
  · rintro ⟨j, h1, h2, h3⟩
    refine List.mem_of_getElem? (i := j - a) ?_
    rw [List.getElem?_drop, show a + (j - a) = j from by omega, List.getElem?_take_of_lt h2]; exact h3
/-- A free block that has one ahead of it in its list. -/
theorem outS_yes {G : List (Int × Int)} {i : Nat} {g p : Int × Int} (hg : G[i]? = some g) {k : Nat} (hk : lastI G i (lw g.2) = k + 1) (hp : G[k]? = some p) :
    outS G (i + 1) = ((outS G i).set k (g.1 + 1, prv G k)).set i (0, p.1 + 1) := by
  obtain ⟨s1, s2, s3⟩ := lastI_spec G (lw g.2) i
  rw [hk] at s1 s2 s3
  obtain ⟨q, hq, hqc⟩ := s3 (by omega)
  rw [Nat.add_sub_cancel, hp] at hq
  cases hq
  have hil : i < G.length := (List.getElem?_eq_some_iff.1 hg).1
  apply List.ext_getElem?
  intro j
  by_cases hj : j < G.length
  · rw [outS_get hj]
    by_cases hji : j = i
    · subst hji
      rw [List.getElem?_set_self (by rw [List.length_set, outS_length]; exact hil), if_pos (by omega)]
      congr 1
      have e1 : nxP G (j + 1) j = 0 := by
        unfold nxP; rw [hg]
        refine nxL_none fun x hx => ?_
        obtain ⟨m, h1, h2, _⟩ := mem_take_drop.1 hx
        omega
      have e2 : prv G j = p.1 + 1 := by
        unfold prv; rw [hg]
        refine nxL_first (m := j - 1 - k) (fun m x hm hx => ?_) ?_ hqc
        · rw [List.getElem?_reverse (by rw [List.length_take]; omega), List.length_take, Nat.min_eq_left (by omega), List.getElem?_take_of_lt (by omega)] at hx
          exact s2 _ x (by omega) (by omega) hx
        · rw [List.getElem?_reverse (by rw [List.length_take]; omega), List.length_take, Nat.min_eq_left (by omega), show j - 1 - (j - 1 - k) = k from by omega, List.getElem?_take_of_lt (by omega)]
          exact hp
      rw [e1, e2]
    · rw [List.getElem?_set_ne (fun e => hji e.symm)]
      by_cases hjk : j = k
      · subst hjk
        rw [List.getElem?_set_self (by rw [outS_length]; exact hj), if_pos (by omega)]
        congr 1
        have e1 : nxP G (i + 1) j = g.1 + 1 := by
          unfold nxP; rw [hp]
          dsimp only
          rw [take_snoc hg, List.drop_append_of_le_length (by rw [List.length_take]; omega), nxL_append, if_neg, if_pos hqc.symm]
          rintro ⟨x, hx, hxc⟩
          obtain ⟨m, h1, h2, h3⟩ := mem_take_drop.1 hx
          exact s2 m x h1 h2 h3 (by rw [hxc, hqc])
        rw [e1]
      · rw [List.getElem?_set_ne (fun e => hjk e.symm), outS_get hj]
        congr 1
        by_cases hlt : j < i
        · rw [if_pos (by omega), if_pos hlt]
          congr 1
          have hx := List.getElem?_eq_getElem hj
          generalize G[j] = x at hx
          unfold nxP; rw [hx]
          dsimp only
          rw [take_snoc hg, List.drop_append_of_le_length (by rw [List.length_take]; omega), nxL_append]
          split
          · rfl
          · rename_i hno
            have hne : lw g.2 ≠ lw x.2 := by
              intro e
              apply hno
              have hjlt : j < k := by
                by_cases q : j < k
                · exact q
                · exact absurd e.symm (s2 j x (by omega) hlt hx)
              exact ⟨p, mem_take_drop.2 ⟨k, by omega, by omega, hp⟩, by rw [hqc, e]⟩
            rw [if_neg hne]
            refine (nxL_none fun y hy he => hno ⟨y, hy, he⟩).symm
        · rw [if_neg (by omega), if_neg (by omega)]
  · rw [List.getElem?_eq_none (by rw [outS_length]; omega), List.getElem?_eq_none (by rw [List.length_set, List.length_set, outS_length]; omega)]
/-- A free block that is the first in its list. -/
theorem outS_no {G : List (Int × Int)} {i : Nat} {g : Int × Int} (hg : G[i]? = some g) (hk : lastI G i (lw g.2) = 0) : outS G (i + 1) = outS G i := by
  obtain ⟨s1, s2, s3⟩ := lastI_spec G (lw g.2) i
  rw [hk] at s2
  have hil : i < G.length := (List.getElem?_eq_some_iff.1 hg).1
  apply List.ext_getElem?
  intro j
  by_cases hj : j < G.length
  · rw [outS_get hj, outS_get hj]
    congr 1
    by_cases hji : j = i
    · subst hji
      rw [if_pos (by omega), if_neg (by omega)]
      have e1 : nxP G (j + 1) j = 0 := by
        unfold nxP; rw [hg]
        refine nxL_none fun x hx => ?_
        obtain ⟨m, h1, h2, _⟩ := mem_take_drop.1 hx
        omega
      have e2 : prv G j = 0 := by
        unfold prv; rw [hg]
        refine nxL_none fun x hx => ?_
        rw [List.mem_reverse] at hx
        have hx' : x ∈ (G.take j).drop 0 := by simpa using hx
        obtain ⟨m, h1, h2, h3⟩ := mem_take_drop.1 hx'
        exact s2 m x (by omega) h2 h3
      rw [e1, e2]
    · by_cases hlt : j < i
      · rw [if_pos (by omega), if_pos hlt]
        congr 1
        have hx := List.getElem?_eq_getElem hj
        generalize G[j] = x at hx
        unfold nxP; rw [hx]
        dsimp only
        rw [take_snoc hg, List.drop_append_of_le_length (by rw [List.length_take]; omega), nxL_append]
        split
        · rfl
        · rename_i hno
          have hne : lw g.2 ≠ lw x.2 := fun e => s2 j x (by omega) hlt hx e.symm
          rw [if_neg hne]
          exact (nxL_none fun y hy he => hno ⟨y, hy, he⟩).symm
      · rw [if_neg (by omega), if_neg (by omega)]
  · rw [List.getElem?_eq_none (by rw [outS_length]; omega), List.getElem?_eq_none (by rw [outS_length]; omega)]
theorem hdS_get {G : List (Int × Int)} {i c : Nat} (h : c < 7) : (hdS G i)[c]? = some (nxL c (G.take i)) := by simp [hdS, List.getElem?_range h]
theorem hdS_yes {G : List (Int × Int)} {i : Nat} {g : Int × Int} (hg : G[i]? = some g) (hk : 0 < lastI G i (lw g.2)) : hdS G (i + 1) = hdS G i := by
  obtain ⟨s1, s2, s3⟩ := lastI_spec G (lw g.2) i
  obtain ⟨q, hq, hqc⟩ := s3 hk
  unfold hdS
  refine List.map_congr_left fun c _ => ?_
  rw [take_snoc hg, nxL_append]
  split
  · rfl
  · rename_i hno
    have hne : lw g.2 ≠ c := by
      intro e
      apply hno
      have : q ∈ (G.take i).drop 0 := mem_take_drop.2 ⟨_, by omega, by omega, hq⟩
      exact ⟨q, by simpa using this, by rw [hqc, e]⟩
    rw [if_neg hne]
    exact (nxL_none fun y hy he => hno ⟨y, hy, he⟩).symm
theorem hdS_no {G : List (Int × Int)} {i : Nat} {g : Int × Int} (hg : G[i]? = some g) (hk : lastI G i (lw g.2) = 0) : hdS G (i + 1) = (hdS G i).set (lw g.2) (g.1 + 1) := by
  obtain ⟨s1, s2, s3⟩ := lastI_spec G (lw g.2) i
  rw [hk] at s2
  have hl : (hdS G i).length = 7 := by simp [hdS]
  have hl2 : (hdS G (i + 1)).length = 7 := by simp [hdS]
  apply List.ext_getElem?
  intro c
  by_cases hc : c < 7
  · rw [hdS_get hc, take_snoc hg, nxL_append]
    by_cases e : lw g.2 = c
    · subst e
      rw [List.getElem?_set_self (by rw [hl]; exact hc), if_neg, if_pos rfl]
      rintro ⟨x, hx, hxc⟩
      have hx' : x ∈ (G.take i).drop 0 := by simpa using hx
      obtain ⟨m, h1, h2, h3⟩ := mem_take_drop.1 hx'
      exact s2 m x (by omega) h2 h3 hxc
    · rw [List.getElem?_set_ne e, hdS_get hc]
      split
      · rfl
      · rename_i hno
        congr 1
        exact (nxL_none fun y hy he => hno ⟨y, hy, he⟩).symm
  · rw [List.getElem?_eq_none (by rw [hl2]; omega), List.getElem?_eq_none (by rw [List.length_set, hl]; omega)]
theorem lsS_get {G : List (Int × Int)} {i c : Nat} (h : c < 7) : (lsS G i)[c]? = some ((lastI G i c : Nat) : Int) := by simp [lsS, List.getElem?_range h]
theorem lsS_succ {G : List (Int × Int)} {i : Nat} {g : Int × Int} (hg : G[i]? = some g) : lsS G (i + 1) = (lsS G i).set (lw g.2) ((i : Int) + 1) := by
  have hl : (lsS G i).length = 7 := by simp [lsS]
  have hl2 : (lsS G (i + 1)).length = 7 := by simp [lsS]
  apply List.ext_getElem?
  intro c
  by_cases hc : c < 7
  · rw [lsS_get hc]
    simp only [lastI, hg]
    by_cases e : lw g.2 = c
    · subst e
      rw [List.getElem?_set_self (by rw [hl]; exact hc), if_pos rfl]; rfl
    · rw [List.getElem?_set_ne e, if_neg e, lsS_get hc]
  · rw [List.getElem?_eq_none (by rw [hl2]; omega), List.getElem?_eq_none (by rw [List.length_set, hl]; omega)]
theorem hdS_zero (G : List (Int × Int)) : hdS G 0 = List.replicate 7 0 := rfl
theorem lsS_zero (G : List (Int × Int)) : lsS G 0 = List.replicate 7 0 := rfl
theorem hdS_full (G : List (Int × Int)) : hdS G G.length = hdsL G := by simp [hdS, hdsL, List.take_length]
end Go.Proofs.Ytjbfdhnfdehdeaa
