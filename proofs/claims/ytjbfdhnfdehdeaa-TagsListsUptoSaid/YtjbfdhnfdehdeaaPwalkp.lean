import Derived.Test.YtjbfdhnfdehdeaaPtags6
import Derived.Test.YtjbfdhnfdehdeaaPwplain
namespace Go.Proofs.Ytjbfdhnfdehdeaa
open Go Go.Proofs.Ytjbfdhnfdehdeaa.V
/-! ### From tag to tag -/
def tagAt (b : List UInt8) (fr at' : Int) : Int := (getV b (at' - fr) : Nat)
def tagBad (b : List UInt8) (fr to at' : Int) : Bool := decide (tagAt b fr at' / 64 < 4 ∨ tagAt b fr at' / 64 > to - at')
def cut8 (b : List UInt8) (o n : Nat) : List UInt8 := (b.drop o).take n
def dta (b : List UInt8) (fr at' s : Int) : List UInt8 := cut8 b (off fr (at' + 1)) (8 * (s - 2)).toNat
abbrev WR := List (Int × Int × Int) × List (List UInt8) × Bool
def wk (fr to : Int) (b : List UInt8) : Nat → Int → WR
  | 0, _ => ([], [], true)
  | n + 1, at' => if tagBad b fr to at' then ([], [], false) else
      if tagAt b fr at' % 64 > 0 then
        ((at', tagAt b fr at' / 64, tagAt b fr at' % 64 - 1) :: (wk fr to b (n + 1 - (tagAt b fr at' / 64).toNat) (at' + tagAt b fr at' / 64)).1, dta b fr at' (tagAt b fr at' / 64) :: (wk fr to b (n + 1 - (tagAt b fr at' / 64).toNat) (at' + tagAt b fr at' / 64)).2.1, (wk fr to b (n + 1 - (tagAt b fr at' / 64).toNat) (at' + tagAt b fr at' / 64)).2.2)
      else wk fr to b (n + 1 - (tagAt b fr at' / 64).toNat) (at' + tagAt b fr at' / 64)
termination_by n _ => n
decreasing_by
  all_goals
    rename_i h _
    simp only [tagBad, decide_eq_true_eq] at h
    omega
def wkA (fr to : Int) (b : List UInt8) (at' : Int) : WR := wk fr to b (to - at').toNat at'
section
variable {fr to : Int} {b : List UInt8} {at' : Int}
theorem wkA_end (h : to ≤ at') : wkA fr to b at' = ([], [], true) := by
  unfold wkA
  rw [show (to - at').toNat = 0 from by omega, wk]
theorem wkA_bad (h : at' < to) (hb : tagBad b fr to at' = true) : wkA fr to b at' = ([], [], false) := by
  unfold wkA
  obtain ⟨n, hn⟩ : ∃ n, (to - at').toNat = n + 1 := ⟨(to - at').toNat - 1, by omega⟩
  rw [hn, wk, if_pos hb]
theorem tag_ok (hb : tagBad b fr to at' = false) : 4 ≤ tagAt b fr at' / 64 ∧ tagAt b fr at' / 64 ≤ to - at' := by
  simp only [tagBad, decide_eq_false_iff_not] at hb
  omega
theorem wkA_used (h : at' < to) (hb : tagBad b fr to at' = false) (hx : tagAt b fr at' % 64 > 0) :
    wkA fr to b at' = ((at', tagAt b fr at' / 64, tagAt b fr at' % 64 - 1) :: (wkA fr to b (at' + tagAt b fr at' / 64)).1, dta b fr at' (tagAt b fr at' / 64) :: (wkA fr to b (at' + tagAt b fr at' / 64)).2.1, (wkA fr to b (at' + tagAt b fr at' / 64)).2.2) := by
  have ht := tag_ok hb
  unfold wkA
  obtain ⟨n, hn⟩ : ∃ n, (to - at').toNat = n + 1 := ⟨(to - at').toNat - 1, by omega⟩
  rw [hn, wk, if_neg (by rw [hb]; simp), if_pos hx, show n + 1 - (tagAt b fr at' / 64).toNat = (to - (at' + tagAt b fr at' / 64)).toNat from by omega]
theorem wkA_free (h : at' < to) (hb : tagBad b fr to at' = false) (hx : ¬ tagAt b fr at' % 64 > 0) : wkA fr to b at' = wkA fr to b (at' + tagAt b fr at' / 64) := by
  have ht := tag_ok hb
  unfold wkA
  obtain ⟨n, hn⟩ : ∃ n, (to - at').toNat = n + 1 := ⟨(to - at').toNat - 1, by omega⟩
  rw [hn, wk, if_neg (by rw [hb]; simp), if_neg hx, show n + 1 - (tagAt b fr at' / 64).toNat = (to - (at' + tagAt b fr at' / 64)).toNat from by omega]
end
theorem wkA_bd {fr to : Int} {b : List UInt8} : ∀ (n : Nat) (at' : Int), (to - at').toNat = n → (wkA fr to b at').1.length ≤ n ∧ (wkA fr to b at').2.1.length = (wkA fr to b at').1.length ∧ ∀ d, d ∈ (wkA fr to b at').2.1 → d.length ≤ b.length := by
  intro n
  induction n using Nat.strongRecOn with
  | ind n ih =>
    intro at' hn
    by_cases h : at' < to
    · cases hb : tagBad b fr to at'
      · have ht := tag_ok hb
        have ih' := ih (to - (at' + tagAt b fr at' / 64)).toNat (by omega) (at' + tagAt b fr at' / 64) rfl
        by_cases hx : tagAt b fr at' % 64 > 0
        · rw [wkA_used h hb hx]
          refine ⟨by simp only [List.length_cons]; omega, by simp only [List.length_cons, ih'.2.1], fun d hd => ?_⟩
          rcases List.mem_cons.1 hd with rfl | hd
          · unfold dta cut8
            rw [List.length_take, List.length_drop]; omega
          · exact ih'.2.2 d hd
        · rw [wkA_free h hb hx]
          exact ⟨by omega, ih'.2⟩
      · rw [wkA_bad h hb]
        exact ⟨Nat.zero_le _, rfl, by simp⟩
    · rw [wkA_end (by omega)]
      exact ⟨Nat.zero_le _, rfl, by simp⟩
/-! ### The walk over what is written -/
theorem tagAt_of {b : List UInt8} {fr at' : Int} {n : Nat} {r : List UInt8} (hf : fr ≤ at') (hn : n < 4611686018427387904) (h : b.drop (off fr at') = le 8 n ++ r) : tagAt b fr at' = n := by
  have hl := congrArg List.length h
  rw [List.length_drop, List.length_append, le_length] at hl
  have hin : inR b (at' - fr) = true := by
    simp only [inR, decide_eq_true_eq]
    unfold off at hl
    omega
  have hw : wd b (at' - fr).toNat = le 8 n := by
    unfold wd
    rw [show (at' - fr).toNat * 8 = off fr at' from by unfold off; omega, h, List.take_left' (le_length 8 n)]
  have hok : getOk b (at' - fr) = true := by rw [getOk, hin, hw, okW_le n hn]; rfl
  unfold tagAt
  rw [getV, if_pos hok, hw, val_le8 n hn]
def padD (u : Int × Int × Int) (d : List UInt8) : List UInt8 := d ++ List.replicate (8 * (u.2.1 - 2).toNat - d.length) 0
def padL : List (Int × Int × Int) → List (List UInt8) → List (List UInt8)
  | u :: U, d :: D => padD u d :: padL U D
  | _, _ => []
def pcT (s x : Int) (d : List UInt8) : List UInt8 := d ++ (List.replicate (8 * (s - 2).toNat - d.length) 0 ++ le 8 (64 * s + x).toNat)
theorem pc_head (s x : Int) (d : List UInt8) : pc s x d = le 8 (64 * s + x).toNat ++ pcT s x d := by simp [pc, pcT]
theorem drop_of_app {b e r : List UInt8} {o : Nat} (h : b.drop o = e ++ r) : b.drop (o + e.length) = r := by
  rw [← List.drop_drop, h, List.drop_left]
theorem walk_tl {G : List (Int × Int)} {fr to : Int} (hto : to % 4 = 0) (ht : to ≤ 2048) (hf0 : 0 ≤ fr) {b : List UInt8} : ∀ {U : List (Int × Int × Int)} {D : List (List UInt8)} {at' : Int} {j : Nat}, sOk to at' (spo U) = true → at' % 4 = 0 → fr ≤ at' → at' ≤ to → U.length = D.length →
    (∀ (k : Nat) (u : Int × Int × Int) d, U[k]? = some u → D[k]? = some d → (d.length : Int) ≤ (u.2.1 - 2) * 8 ∧ 0 ≤ u.2.2 ∧ u.2.2 < 32) → b.drop (off fr at') = (tl G to at' j U D).flatten → wkA fr to b at' = (U, padL U D, true)
  | [], D, at', j, h, hm, hf, ha, hl, hU, hb => by
    have e : tl G to at' j [] D = if at' < to then [fb G j (at', to - at')] else [] := by cases D <;> rfl
    have ep : padL [] D = [] := by cases D <;> rfl
    rw [ep]
    rw [e] at hb
    by_cases hlt : at' < to
    · rw [if_pos hlt] at hb
      have htag : tagAt b fr at' = ((64 * (to - at')).toNat : Nat) := by
        refine tagAt_of (r := pcT (to - at') 0 (cat [nxt G j, prv G j])) hf (by omega) ?_
        rw [hb]
        simp only [fb, pc_head, List.flatten_cons, List.flatten_nil, List.append_nil, Int.add_zero]
      have hbad : tagBad b fr to at' = false := by
        simp only [tagBad, htag, decide_eq_false_iff_not]
        omega
      rw [wkA_free hlt hbad (by omega), wkA_end (by omega)]
    · rw [wkA_end (by omega)]
  | u :: U, [], at', j, h, hm, hf, ha, hl, hU, hb => by simp at hl
  | u :: U, d :: D, at', j, h, hm, hf, ha, hl, hU, hb => by
    obtain ⟨q1, q2, q3, q4, q5, q6, q7⟩ := sOk_cons h
    obtain ⟨hd, hx0, hx1⟩ := hU 0 u d rfl rfl
    have hul := ub_length q3 hd
    have step : ∀ j', b.drop (off fr u.1) = ub u d ++ (tl G to (u.1 + u.2.1) j' U D).flatten → wkA fr to b u.1 = (u :: U, padL (u :: U) (d :: D), true) := by
      intro j' hb'
      have htag : tagAt b fr u.1 = ((64 * u.2.1 + (u.2.2 + 1)).toNat : Nat) := by
        refine tagAt_of (r := pcT u.2.1 (u.2.2 + 1) d ++ (tl G to (u.1 + u.2.1) j' U D).flatten) (by omega) (by omega) ?_
        rw [hb']
        simp only [ub, pc_head, List.append_assoc]
      have hdiv : tagAt b fr u.1 / 64 = u.2.1 := by rw [htag]; omega
      have hmod : tagAt b fr u.1 % 64 = u.2.2 + 1 := by rw [htag]; omega
      have hbad : tagBad b fr to u.1 = false := by
        simp only [tagBad, hdiv, decide_eq_false_iff_not]
        omega
      have hrest : b.drop (off fr (u.1 + u.2.1)) = (tl G to (u.1 + u.2.1) j' U D).flatten := by
        have := drop_of_app hb'
        rwa [hul, show off fr u.1 + 8 * u.2.1.toNat = off fr (u.1 + u.2.1) from by unfold off; omega] at this
      have ih := walk_tl hto ht hf0 (at' := u.1 + u.2.1) q7 (by omega) (by omega) q4 (by simpa using hl) (fun k v e h1 h2 => hU (k + 1) v e (by simpa using h1) (by simpa using h2)) hrest
      have hdt : dta b fr u.1 u.2.1 = padD u d := by
        have h8 := le_length 8 (64 * u.2.1 + (u.2.2 + 1)).toNat
        have h1 : b.drop (off fr u.1) = le 8 (64 * u.2.1 + (u.2.2 + 1)).toNat ++ (padD u d ++ (le 8 (64 * u.2.1 + (u.2.2 + 1)).toNat ++ (tl G to (u.1 + u.2.1) j' U D).flatten)) := by
          rw [hb']
          simp only [ub, pc, padD, List.append_assoc]
        have h2 := drop_of_app h1
        rw [h8] at h2
        unfold dta cut8
        rw [show off fr (u.1 + 1) = off fr u.1 + 8 from by unfold off; omega, h2, List.take_left']
        simp only [padD, List.length_append, List.length_replicate]
        omega
      rw [wkA_used (by omega) hbad (by omega), hdiv, hmod, ih, hdt, Int.add_sub_cancel]
      rfl
    unfold tl at hb
    by_cases hlt : at' < u.1
    · rw [if_pos hlt, List.flatten_cons] at hb
      have hfl := fb_length (G := G) (j := j) (g := (at', u.1 - at')) (by dsimp only; omega)
      have htag : tagAt b fr at' = ((64 * (u.1 - at')).toNat : Nat) := by
        refine tagAt_of (r := pcT (u.1 - at') 0 (cat [nxt G j, prv G j]) ++ (ub u d :: tl G to (u.1 + u.2.1) (j + 1) U D).flatten) hf (by omega) ?_
        rw [hb]
        simp only [fb, pc_head, List.append_assoc, Int.add_zero]
      have hdiv : tagAt b fr at' / 64 = u.1 - at' := by rw [htag]; omega
      have hbad : tagBad b fr to at' = false := by
        simp only [tagBad, hdiv, decide_eq_false_iff_not]
        omega
      have hrest := drop_of_app hb
      dsimp only at hfl
      rw [hfl, show off fr at' + 8 * (u.1 - at').toNat = off fr u.1 from by unfold off; omega, List.flatten_cons] at hrest
      rw [wkA_free (by omega) hbad (by omega), hdiv, show at' + (u.1 - at') = u.1 from by omega]
      exact step _ hrest
    · rw [if_neg hlt, List.flatten_cons] at hb
      have e : at' = u.1 := by omega
      subst e
      exact step _ hb
theorem tl_length {G : List (Int × Int)} {to : Int} : ∀ {U : List (Int × Int × Int)} {D : List (List UInt8)} {at' : Int} {j : Nat}, to % 4 = 0 → sOk to at' (spo U) = true → at' % 4 = 0 → at' ≤ to → U.length = D.length →
    (∀ (k : Nat) (u : Int × Int × Int) d, U[k]? = some u → D[k]? = some d → (d.length : Int) ≤ (u.2.1 - 2) * 8) → (tl G to at' j U D).flatten.length = off at' to
  | [], D, at', j, hto, h, hm, ha, hl, hU => by
    have e : tl G to at' j [] D = if at' < to then [fb G j (at', to - at')] else [] := by cases D <;> rfl
    rw [e]
    by_cases hlt : at' < to
    · rw [if_pos hlt]
      have hfl := fb_length (G := G) (j := j) (g := (at', to - at')) (by dsimp only; omega)
      simp only [List.flatten_cons, List.flatten_nil, List.append_nil, hfl]
      unfold off; omega
    · rw [if_neg hlt]
      unfold off
      simp
      omega
  | u :: U, [], at', j, hto, h, hm, ha, hl, hU => by simp at hl
  | u :: U, d :: D, at', j, hto, h, hm, ha, hl, hU => by
    obtain ⟨q1, q2, q3, q4, q5, q6, q7⟩ := sOk_cons h
    have hul := ub_length q3 (hU 0 u d rfl rfl)
    have ih := fun j' => tl_length (G := G) (j := j') (at' := u.1 + u.2.1) hto q7 (by omega) q4 (by simpa using hl) (fun k v e h1 h2 => hU (k + 1) v e (by simpa using h1) (by simpa using h2))
    unfold tl
    by_cases hlt : at' < u.1
    · rw [if_pos hlt]
      have hfl := fb_length (G := G) (j := j) (g := (at', u.1 - at')) (by dsimp only; omega)
      simp only [List.flatten_cons, List.length_append, hul, hfl, ih]
      unfold off; omega
    · rw [if_neg hlt]
      simp only [List.flatten_cons, List.length_append, hul, ih]
      unfold off; omega
section
variable {fr to : Int} {U : List (Int × Int × Int)} {D : List (List UInt8)} (T : Tg fr to U D)
include T
theorem Tg.ud : ∀ (k : Nat) (u : Int × Int × Int) d, U[k]? = some u → D[k]? = some d → (d.length : Int) ≤ (u.2.1 - 2) * 8 ∧ 0 ≤ u.2.2 ∧ u.2.2 < 32 := fun k u d h1 h2 => by
  have := T.u h1 h2
  exact ⟨this.2.2.2.2.2, this.2.2.2.1, this.2.2.2.2.1⟩
theorem Tg.imgl : (img fr to U D).length = off fr to := tl_length T.tm T.ok T.fm T.ft T.len fun k u d h1 h2 => (T.ud k u d h1 h2).1
theorem Tg.walk : wkA fr to (img fr to U D) fr = (U, padL U D, true) := by
  refine walk_tl T.tm T.t0 T.f0 T.ok T.fm (Int.le_refl _) T.ft T.len T.ud (G := gp to fr U) (j := 0) ?_
  rw [show off fr fr = 0 from by unfold off; omega, List.drop_zero]; rfl
end
theorem padL_length : ∀ {U : List (Int × Int × Int)} {D : List (List UInt8)}, U.length = D.length → (padL U D).length = U.length
  | [], D, h => by cases D <;> rfl
  | u :: U, [], h => by simp at h
  | u :: U, d :: D, h => by simp [padL, padL_length (U := U) (D := D) (by simpa using h)]
theorem padL_get : ∀ {U : List (Int × Int × Int)} {D : List (List UInt8)} {k : Nat} {u : Int × Int × Int} {d : List UInt8}, U[k]? = some u → D[k]? = some d → (padL U D)[k]? = some (padD u d)
  | [], D, k, u, d, h1, h2 => by simp at h1
  | u0 :: U, [], k, u, d, h1, h2 => by simp at h2
  | u0 :: U, d0 :: D, 0, u, d, h1, h2 => by simp at h1 h2; subst h1; subst h2; rfl
  | u0 :: U, d0 :: D, k + 1, u, d, h1, h2 => by simpa [padL] using padL_get (U := U) (D := D) (k := k) (by simpa using h1) (by simpa using h2)
theorem ub_pad {u : Int × Int × Int} {d : List UInt8} (hs : 4 ≤ u.2.1) (hd : (d.length : Int) ≤ (u.2.1 - 2) * 8) : ub u (padD u d) = ub u d := by
  have hl : (padD u d).length = 8 * (u.2.1 - 2).toNat := by simp only [padD, List.length_append, List.length_replicate]; omega
  unfold ub pc
  rw [hl, Nat.sub_self]
  simp [padD]
theorem tl_pad {G : List (Int × Int)} {to : Int} : ∀ {U : List (Int × Int × Int)} {D : List (List UInt8)} {at' : Int} {j : Nat}, U.length = D.length → (∀ (k : Nat) (u : Int × Int × Int) d, U[k]? = some u → D[k]? = some d → 4 ≤ u.2.1 ∧ (d.length : Int) ≤ (u.2.1 - 2) * 8) → tl G to at' j U (padL U D) = tl G to at' j U D
  | [], D, at', j, hl, hU => by cases D <;> rfl
  | u :: U, [], at', j, hl, hU => by simp at hl
  | u :: U, d :: D, at', j, hl, hU => by
    have h0 := hU 0 u d rfl rfl
    have ih := fun j' => tl_pad (G := G) (to := to) (U := U) (D := D) (at' := u.1 + u.2.1) (j := j') (by simpa using hl) fun k v e h1 h2 => hU (k + 1) v e (by simpa using h1) (by simpa using h2)
    simp only [padL, tl, ub_pad h0.1 h0.2, ih]
theorem Tg.rpad {fr to : Int} {U : List (Int × Int × Int)} {D : List (List UInt8)} (T : Tg fr to U D) : rT fr to U (padL U D) = true ∧ img fr to U (padL U D) = img fr to U D := by
  have hb : bG fr to = true := bG_iff.2 ⟨T.f0, T.ft, T.t0, T.fm, T.tm⟩
  refine ⟨rT_true (rG_iff.2 ⟨hb, T.ok⟩) (padL_length T.len).symm fun j hj => ?_, ?_⟩
  · have h1 := List.getElem?_eq_getElem hj
    have hj2 : j < D.length := by rw [← T.len]; exact hj
    have h2 := List.getElem?_eq_getElem hj2
    have hu := T.u h1 h2
    have ht := T.tc j hj
    rw [tc_some h1 h2] at ht
    rw [tc_some h1 (padL_get h1 h2)]
    simp only [Bool.and_eq_true, decide_eq_true_eq] at ht ⊢
    refine ⟨⟨ht.1.1, ht.1.2.1, ?_⟩, ht.2⟩
    simp only [padD, List.length_append, List.length_replicate]
    omega
  · unfold img
    rw [tl_pad T.len fun k u d h1 h2 => ⟨(T.u h1 h2).2.2.1, (T.ud k u d h1 h2).1⟩]
/-! ### What is read -/
def trW (fr to : Int) (b : List UInt8) : WR := wkA fr to b fr
def trOk (fr to : Int) (b : List UInt8) (hs : List Int) : Bool := bG fr to && (decide ((b.length : Int) = (to - fr) * 8) && (rT fr to (trW fr to b).1 (trW fr to b).2.1 && (decide (twR fr to (trW fr to b).1 (trW fr to b).2.1 = b) && decide (twH fr to (trW fr to b).1 (trW fr to b).2.1 = hs))))
def trU (fr to : Int) (b : List UInt8) (hs : List Int) : List (Int × Int × Int) := if trOk fr to b hs then (trW fr to b).1 else []
def trD (fr to : Int) (b : List UInt8) (hs : List Int) : List (List UInt8) := if trOk fr to b hs then (trW fr to b).2.1 else []
/-- Where what is written again is what was read, the walk came to its end. -/
theorem tr_done {fr to : Int} {b : List UInt8} (h1 : rT fr to (trW fr to b).1 (trW fr to b).2.1 = true) (h2 : twR fr to (trW fr to b).1 (trW fr to b).2.1 = b) : (trW fr to b).2.2 = true := by
  have T := rT_tg h1
  have hw := T.walk
  rw [twR, h1, if_pos rfl] at h2
  rw [h2] at hw
  unfold trW
  rw [hw]
theorem tr_no {fr to : Int} {b : List UInt8} {hs : List Int} (h : trOk fr to b hs = false) : trU fr to b hs = [] ∧ trD fr to b hs = [] := by rw [trU, trD, h]; exact ⟨rfl, rfl⟩
theorem tr_yes {fr to : Int} {b : List UInt8} {hs : List Int} (h : trOk fr to b hs = true) : trU fr to b hs = (trW fr to b).1 ∧ trD fr to b hs = (trW fr to b).2.1 := by rw [trU, trD, h]; exact ⟨rfl, rfl⟩
theorem trOk_iff {fr to : Int} {b : List UInt8} {hs : List Int} : trOk fr to b hs = true ↔ bG fr to = true ∧ (b.length : Int) = (to - fr) * 8 ∧ rT fr to (trW fr to b).1 (trW fr to b).2.1 = true ∧ twR fr to (trW fr to b).1 (trW fr to b).2.1 = b ∧ twH fr to (trW fr to b).1 (trW fr to b).2.1 = hs := by
  simp [trOk]
/-- What is written is read. -/
theorem Tg.read {fr to : Int} {U : List (Int × Int × Int)} {D : List (List UInt8)} (h : rT fr to U D = true) : trOk fr to (twR fr to U D) (twH fr to U D) = true ∧ trU fr to (twR fr to U D) (twH fr to U D) = U ∧ trD fr to (twR fr to U D) (twH fr to U D) = padL U D := by
  have T := rT_tg h
  have hw := T.walk
  have hp := T.rpad
  have e1 : twR fr to U D = img fr to U D := by rw [twR, h, if_pos rfl]
  have e2 : twH fr to U D = hdsL (gp to fr U) := by rw [twH, h, if_pos rfl]
  have e3 : trW fr to (twR fr to U D) = (U, padL U D, true) := by unfold trW; rw [e1, hw]
  have hok : trOk fr to (twR fr to U D) (twH fr to U D) = true := by
    refine trOk_iff.2 ⟨bG_iff.2 ⟨T.f0, T.ft, T.t0, T.fm, T.tm⟩, ?_, ?_⟩
    · rw [e1, T.imgl]
      have := T.ft
      unfold off; omega
    · rw [e3]
      refine ⟨hp.1, ?_, ?_⟩
      · rw [twR, hp.1, if_pos rfl, hp.2, e1]
      · rw [twH, hp.1, if_pos rfl, e2]
  obtain ⟨r1, r2⟩ := tr_yes hok
  exact ⟨hok, by rw [r1, e3], by rw [r2, e3]⟩
end Go.Proofs.Ytjbfdhnfdehdeaa
