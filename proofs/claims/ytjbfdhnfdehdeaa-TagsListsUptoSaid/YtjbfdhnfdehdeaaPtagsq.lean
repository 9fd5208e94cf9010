import Derived.Test.YtjbfdhnfdehdeaaPtags4
namespace Go.Proofs.Ytjbfdhnfdehdeaa
open Go Go.Proofs.Ytjbfdhnfdehdeaa.V
set_option linter.unusedSectionVars false
/-! ### A piece stands at a place -/
def At (p : List UInt8) (a : Nat) (d : List UInt8) : Prop := a + d.length ≤ p.length ∧ (p.drop a).take d.length = d
theorem pt_get {p d : List UInt8} {a j : Nat} (h : a + d.length ≤ p.length) : (pt p a d)[j]? = if a ≤ j ∧ j < a + d.length then d[j - a]? else p[j]? := by
  unfold pt
  rw [List.append_assoc, List.getElem?_append, List.length_take, Nat.min_eq_left (by omega)]
  split
  · rename_i hj
    rw [if_neg (by omega), List.getElem?_take_of_lt hj]
  · rename_i hj
    rw [List.getElem?_append]
    split
    · rw [if_pos (by omega)]
    · rw [if_neg (by omega), List.getElem?_drop]
      congr 1; omega
theorem At.get {p d : List UInt8} {a : Nat} (h : At p a d) {j : Nat} (hj : j < d.length) : p[a + j]? = d[j]? := by
  have := congrArg (·[j]?) h.2
  simp only [List.getElem?_take_of_lt hj, List.getElem?_drop] at this
  exact this
theorem At.of {p d : List UInt8} {a : Nat} (h : a + d.length ≤ p.length) (hg : ∀ j, j < d.length → p[a + j]? = d[j]?) : At p a d := by
  refine ⟨h, ?_⟩
  apply List.ext_getElem?
  intro j
  by_cases hj : j < d.length
  · rw [List.getElem?_take_of_lt hj, List.getElem?_drop]; exact hg j hj
  · rw [List.getElem?_eq_none (by rw [List.length_take]; omega), List.getElem?_eq_none (by omega)]
theorem At.same {p d : List UInt8} {a : Nat} (h : a + d.length ≤ p.length) : At (pt p a d) a d := by
  refine .of (by rw [pt_length h]; exact h) fun j hj => ?_
  rw [pt_get h, if_pos (by omega), Nat.add_sub_cancel_left]
theorem At.other {p d e : List UInt8} {a b : Nat} (h : At p a d) (hb : b + e.length ≤ p.length) (hd : a + d.length ≤ b ∨ b + e.length ≤ a) : At (pt p b e) a d := by
  refine .of (by rw [pt_length hb]; exact h.1) fun j hj => ?_
  rw [pt_get hb, if_neg (by omega)]; exact h.get hj
theorem At.next {p d : List UInt8} {a : Nat} (h : At p a d) : p.drop a = d ++ p.drop (a + d.length) := by
  have := (List.take_append_drop d.length (p.drop a)).symm
  rw [h.2, List.drop_drop] at this
  exact this
/-- Written within a piece. -/
theorem At.inner {p r e : List UInt8} {a b : Nat} (h : At p a r) (hb : b + e.length ≤ r.length) : At (pt p (a + b) e) a (pt r b e) := by
  have hl := pt_length hb
  have h1 := h.1
  refine .of (by rw [hl, pt_length (by omega)]; omega) fun j hj => ?_
  rw [hl] at hj
  rw [pt_get (by omega), pt_get hb]
  by_cases hc : b ≤ j ∧ j < b + e.length
  · rw [if_pos (by omega), if_pos hc]; congr 1; omega
  · rw [if_neg (by omega), if_neg hc]; exact h.get hj
/-! ### Blocks and gaps lie apart -/
def gp (to : Int) : Int → List (Int × Int × Int) → List (Int × Int)
  | at', [] => if at' < to then [(at', to - at')] else []
  | at', u :: U => (if at' < u.1 then [(at', u.1 - at')] else []) ++ gp to (u.1 + u.2.1) U
theorem gpF_one (a e : Int) : gpF [(a, e)] = if a < e then [(a, e - a)] else [] := by
  by_cases h : a < e <;> simp [gpF, h]
theorem gpF_cons (a e : Int) (M : List (Int × Int)) : gpF ((a, e) :: M) = (if a < e then [(a, e - a)] else []) ++ gpF M := by
  rw [← gpF_one, ← gpF_append]; rfl
theorem gp_eq (to : Int) : ∀ (U : List (Int × Int × Int)) (at' : Int), gaps at' to (spo U) = gp to at' U
  | [], at' => by simp only [gaps, cls, spo, List.map_nil, clP, endp, List.nil_append, gpF_one, gp]
  | u :: U, at' => by
    have ih := gp_eq to U (u.1 + u.2.1)
    simp only [gaps, cls, spo, List.map_cons, clP, endp, List.cons_append, gpF_cons, gp] at ih ⊢
    rw [ih]
section
variable {to : Int}
theorem sOk_cons {at' : Int} {u : Int × Int × Int} {U : List (Int × Int × Int)} (h : sOk to at' (spo (u :: U)) = true) : at' ≤ u.1 ∧ u.1 ≤ to ∧ 4 ≤ u.2.1 ∧ u.1 + u.2.1 ≤ to ∧ u.1 % 4 = 0 ∧ u.2.1 % 4 = 0 ∧ sOk to (u.1 + u.2.1) (spo U) = true := by
  simp only [spo, List.map_cons, sOk, Bool.and_eq_true, sC, decide_eq_true_eq] at h
  obtain ⟨h1, h2⟩ := h
  refine ⟨h1.1, h1.2.1, h1.2.2.1, by omega, h1.2.2.2.2.1, h1.2.2.2.2.2, h2⟩
theorem used_bd : ∀ {U : List (Int × Int × Int)} {at' : Int}, sOk to at' (spo U) = true → ∀ u, u ∈ U → at' ≤ u.1 ∧ u.1 + u.2.1 ≤ to ∧ 4 ≤ u.2.1
  | u0 :: U, at', h, u, hu => by
    obtain ⟨h1, h2, h3, h4, h5, h6, h7⟩ := sOk_cons h
    rcases List.mem_cons.1 hu with rfl | hu
    · exact ⟨h1, h4, h3⟩
    · have := used_bd h7 u hu
      omega
theorem gp_bd (hto : to % 4 = 0) : ∀ {U : List (Int × Int × Int)} {at' : Int}, sOk to at' (spo U) = true → at' % 4 = 0 → at' ≤ to → ∀ g, g ∈ gp to at' U → at' ≤ g.1 ∧ g.1 + g.2 ≤ to ∧ 4 ≤ g.2
  | [], at', h, hm, ha, g, hg => by
    simp only [gp] at hg
    split at hg
    · simp only [List.mem_singleton] at hg
      subst hg
      dsimp only
      omega
    · simp at hg
  | u0 :: U, at', h, hm, ha, g, hg => by
    obtain ⟨h1, h2, h3, h4, h5, h6, h7⟩ := sOk_cons h
    simp only [gp, List.mem_append] at hg
    rcases hg with hg | hg
    · split at hg
      · simp only [List.mem_singleton] at hg
        subst hg
        dsimp only
        omega
      · simp at hg
    · have := gp_bd hto h7 (by omega) h4 g hg
      omega
theorem used_lt : ∀ {U : List (Int × Int × Int)} {at' : Int}, sOk to at' (spo U) = true → ∀ {k k' : Nat} {u u' : Int × Int × Int}, k < k' → U[k]? = some u → U[k']? = some u' → u.1 + u.2.1 ≤ u'.1
  | [], at', h, k, k', u, u', hk, h1, h2 => by simp at h1
  | u0 :: U, at', h, k, k', u, u', hk, h1, h2 => by
    obtain ⟨_, _, _, _, _, _, h7⟩ := sOk_cons h
    cases k' with
    | zero => omega
    | succ k' =>
      cases k with
      | zero =>
        simp at h1 h2
        subst h1
        exact (used_bd h7 u' (List.mem_of_getElem? h2)).1
      | succ k =>
        simp at h1 h2
        exact used_lt h7 (by omega) h1 h2
theorem gp_lt (hto : to % 4 = 0) : ∀ {U : List (Int × Int × Int)} {at' : Int}, sOk to at' (spo U) = true → at' % 4 = 0 → at' ≤ to → ∀ {k k' : Nat} {g g' : Int × Int}, k < k' → (gp to at' U)[k]? = some g → (gp to at' U)[k']? = some g' → g.1 + g.2 ≤ g'.1
  | [], at', h, hm, ha, k, k', g, g', hk, h1, h2 => by
    simp only [gp] at h2
    split at h2
    · cases k' with
      | zero => omega
      | succ k' => simp at h2
    · simp at h2
  | u0 :: U, at', h, hm, ha, k, k', g, g', hk, h1, h2 => by
    obtain ⟨q1, q2, q3, q4, q5, q6, q7⟩ := sOk_cons h
    simp only [gp] at h1 h2
    split at h1
    · rename_i hlt
      rw [if_pos hlt] at h2
      cases k' with
      | zero => omega
      | succ k' =>
        cases k with
        | zero =>
          simp at h1 h2
          subst h1
          have := gp_bd hto q7 (by omega) q4 g' (List.mem_of_getElem? h2)
          dsimp only
          omega
        | succ k =>
          simp at h1 h2
          exact gp_lt hto q7 (by omega) q4 (by omega) h1 h2
    · rename_i hlt
      rw [if_neg hlt] at h2
      exact gp_lt hto q7 (by omega) q4 hk (by simpa using h1) (by simpa using h2)
theorem used_gap (hto : to % 4 = 0) : ∀ {U : List (Int × Int × Int)} {at' : Int}, sOk to at' (spo U) = true → at' % 4 = 0 → at' ≤ to → ∀ u, u ∈ U → ∀ g, g ∈ gp to at' U → u.1 + u.2.1 ≤ g.1 ∨ g.1 + g.2 ≤ u.1
  | u0 :: U, at', h, hm, ha, u, hu, g, hg => by
    obtain ⟨q1, q2, q3, q4, q5, q6, q7⟩ := sOk_cons h
    simp only [gp, List.mem_append] at hg
    rcases hg with hg | hg
    · split at hg
      · simp only [List.mem_singleton] at hg
        subst hg
        dsimp only
        rcases List.mem_cons.1 hu with rfl | hu
        · omega
        · have := used_bd q7 u hu
          omega
      · simp at hg
    · have hgb := gp_bd hto q7 (by omega) q4 g hg
      rcases List.mem_cons.1 hu with rfl | hu
      · omega
      · exact used_gap hto q7 (by omega) q4 u hu g hg
end
/-! ### The image -/
def ub (u : Int × Int × Int) (d : List UInt8) : List UInt8 := pc u.2.1 (u.2.2 + 1) d
def fb (G : List (Int × Int)) (j : Nat) (g : Int × Int) : List UInt8 := pc g.2 0 (cat [nxt G j, prv G j])
theorem ub_length {u : Int × Int × Int} {d : List UInt8} (h : 4 ≤ u.2.1) (hd : (d.length : Int) ≤ (u.2.1 - 2) * 8) : (ub u d).length = 8 * u.2.1.toNat := pc_length (by omega) hd
theorem fb_length {G : List (Int × Int)} {j : Nat} {g : Int × Int} (h : 4 ≤ g.2) : (fb G j g).length = 8 * g.2.toNat := by
  refine pc_length (by omega) ?_
  rw [cat_length]
  simp
  omega
def tl (G : List (Int × Int)) (to : Int) : Int → Nat → List (Int × Int × Int) → List (List UInt8) → List (List UInt8)
  | at', j, u :: U, d :: D => if at' < u.1 then fb G j (at', u.1 - at') :: ub u d :: tl G to (u.1 + u.2.1) (j + 1) U D else ub u d :: tl G to (u.1 + u.2.1) j U D
  | at', j, _, _ => if at' < to then [fb G j (at', to - at')] else []
def img (fr to : Int) (U : List (Int × Int × Int)) (D : List (List UInt8)) : List UInt8 := (tl (gp to fr U) to fr 0 U D).flatten
def off (fr a : Int) : Nat := (8 * (a - fr)).toNat
theorem img_drop {G : List (Int × Int)} {fr to : Int} (hto : to % 4 = 0) {p : List UInt8} (hp : p.length = off fr to) : ∀ {U : List (Int × Int × Int)} {D : List (List UInt8)} {at' : Int} {j : Nat}, sOk to at' (spo U) = true → at' % 4 = 0 → fr ≤ at' → at' ≤ to → U.length = D.length →
    (∀ (k : Nat) u d, U[k]? = some u → D[k]? = some d → (d.length : Int) ≤ (u.2.1 - 2) * 8 ∧ At p (off fr u.1) (ub u d)) → (∀ (k : Nat) g, (gp to at' U)[k]? = some g → At p (off fr g.1) (fb G (j + k) g)) → p.drop (off fr at') = (tl G to at' j U D).flatten
  | [], D, at', j, h, hm, hf, ha, hl, hU, hG => by
    have e : tl G to at' j [] D = if at' < to then [fb G j (at', to - at')] else [] := by cases D <;> rfl
    rw [e]
    by_cases hlt : at' < to
    · have := hG 0 (at', to - at') (by simp only [gp, if_pos hlt]; rfl)
      rw [if_pos hlt]
      have h2 := this.next
      have hfl := fb_length (G := G) (j := j + 0) (g := (at', to - at')) (by dsimp only; omega)
      dsimp only at h2 hfl
      rw [h2, hfl, List.drop_of_length_le (by rw [hp]; unfold off; omega)]
      simp
    · rw [if_neg hlt]
      have : at' = to := by omega
      subst this
      rw [List.drop_of_length_le (by rw [hp]; exact Nat.le_refl _)]; rfl
  | u :: U, [], at', j, h, hm, hf, ha, hl, hU, hG => by simp at hl
  | u :: U, d :: D, at', j, h, hm, hf, ha, hl, hU, hG => by
    obtain ⟨q1, q2, q3, q4, q5, q6, q7⟩ := sOk_cons h
    obtain ⟨hd, hAt⟩ := hU 0 u d rfl rfl
    have hul := ub_length q3 hd
    have step : ∀ j', (∀ (k : Nat) g, (gp to (u.1 + u.2.1) U)[k]? = some g → At p (off fr g.1) (fb G (j' + k) g)) → p.drop (off fr u.1) = ub u d ++ (tl G to (u.1 + u.2.1) j' U D).flatten := by
      intro j' hG'
      rw [hAt.next, hul, show off fr u.1 + 8 * u.2.1.toNat = off fr (u.1 + u.2.1) from by unfold off; omega]
      rw [img_drop hto hp q7 (by omega) (by omega) q4 (by simpa using hl) (fun k u' d' h1 h2 => hU (k + 1) u' d' (by simpa using h1) (by simpa using h2)) hG']
    unfold tl
    by_cases hlt : at' < u.1
    · rw [if_pos hlt]
      have h0 := hG 0 (at', u.1 - at') (by simp only [gp, if_pos hlt]; rfl)
      have hfl := fb_length (G := G) (j := j + 0) (g := (at', u.1 - at')) (by dsimp only; omega)
      have h2 := h0.next
      dsimp only at h2 hfl
      rw [h2, hfl, show off fr at' + 8 * (u.1 - at').toNat = off fr u.1 from by unfold off; omega, step (j + 1) (fun k g hg => by
        have := hG (k + 1) g (by simp only [gp, if_pos hlt]; simpa using hg)
        rw [show j + 1 + k = j + (k + 1) from by omega]; exact this)]
      simp
    · rw [if_neg hlt]
      have e : at' = u.1 := by omega
      subst e
      rw [step j (fun k g hg => hG k g (by simp only [gp, if_neg hlt]; simpa using hg))]
      simp
/-! ### What is written -/
def twR (fr to : Int) (U : List (Int × Int × Int)) (D : List (List UInt8)) : List UInt8 := if rT fr to U D then img fr to U D else []
def twH (fr to : Int) (U : List (Int × Int × Int)) (D : List (List UInt8)) : List Int := if rT fr to U D then hdsL (gp to fr U) else []
def twE (fr to : Int) (U : List (Int × Int × Int)) (D : List (List UInt8)) : Int := if rT fr to U D then 0 else 1
/-- What is right of a heap that is right. -/
structure Tg (fr to : Int) (U : List (Int × Int × Int)) (D : List (List UInt8)) : Prop where
  f0 : 0 ≤ fr
  ft : fr ≤ to
  t0 : to ≤ 2048
  fm : fr % 4 = 0
  tm : to % 4 = 0
  ok : sOk to fr (spo U) = true
  len : U.length = D.length
  tc : ∀ j, j < U.length → tc U D j = true
theorem rT_tg {fr to : Int} {U : List (Int × Int × Int)} {D : List (List UInt8)} (h : rT fr to U D = true) : Tg fr to U D := by
  obtain ⟨h1, h2, h3⟩ := rT_iff.1 h
  obtain ⟨hb, hs⟩ := rG_iff.1 h1
  obtain ⟨b1, b2, b3, b4, b5⟩ := bG_iff.1 hb
  exact ⟨b1, b2, b3, b4, b5, hs, h2, h3⟩
section
variable {fr to : Int} {U : List (Int × Int × Int)} {D : List (List UInt8)} (T : Tg fr to U D)
include T
theorem Tg.u {k : Nat} {u : Int × Int × Int} {d : List UInt8} (hu : U[k]? = some u) (hd : D[k]? = some d) : fr ≤ u.1 ∧ u.1 + u.2.1 ≤ to ∧ 4 ≤ u.2.1 ∧ 0 ≤ u.2.2 ∧ u.2.2 < 32 ∧ (d.length : Int) ≤ (u.2.1 - 2) * 8 := by
  have h1 := used_bd T.ok u (List.mem_of_getElem? hu)
  have h2 := T.tc k (List.getElem?_eq_some_iff.1 hu).1
  rw [tc_some hu hd] at h2
  simp only [Bool.and_eq_true, decide_eq_true_eq] at h2
  exact ⟨h1.1, h1.2.1, h1.2.2, h2.1.1, h2.1.2.1, h2.1.2.2⟩
theorem Tg.g {g : Int × Int} (hg : g ∈ gp to fr U) : fr ≤ g.1 ∧ g.1 + g.2 ≤ to ∧ 4 ≤ g.2 := gp_bd T.tm T.ok T.fm T.ft g hg
theorem Tg.gok : gOk (gp to fr U) := fun g hg => by
  have h := T.g hg
  have h1 := T.f0
  have h2 := T.t0
  omega
theorem Tg.ulen {k : Nat} {u : Int × Int × Int} {d : List UInt8} (hu : U[k]? = some u) (hd : D[k]? = some d) : (ub u d).length = 8 * u.2.1.toNat := ub_length (T.u hu hd).2.2.1 (T.u hu hd).2.2.2.2.2
theorem Tg.imgEq {p : List UInt8} (hp : p.length = off fr to) (hU : ∀ (k : Nat) u d, U[k]? = some u → D[k]? = some d → At p (off fr u.1) (ub u d)) (hG : ∀ (k : Nat) g, (gp to fr U)[k]? = some g → At p (off fr g.1) (fb (gp to fr U) k g)) : p = Go.Proofs.Ytjbfdhnfdehdeaa.img fr to U D := by
  have := img_drop T.tm hp T.ok T.fm (Int.le_refl _) T.ft T.len (j := 0) (fun k u d h1 h2 => ⟨(T.u h1 h2).2.2.2.2.2, hU k u d h1 h2⟩) (fun k g hg => by rw [Nat.zero_add]; exact hG k g hg)
  rw [show off fr fr = 0 from by unfold off; omega, List.drop_zero] at this
  exact this
theorem Tg.glen : (gp to fr U).length ≤ U.length + 1 := by
  rw [← gp_eq]
  have h1 := gpF_len (cls fr to (spo U))
  have h2 := clP_len fr (spo U)
  have h3 := spo_length U
  simp only [gaps, cls, List.length_append, List.length_singleton] at h1 ⊢
  omega
end
theorem nxL_bd {c : Nat} {l : List (Int × Int)} (h : ∀ g, g ∈ l → 0 ≤ g.1 ∧ g.1 ≤ 2048) : 0 ≤ nxL c l ∧ nxL c l ≤ 2049 := by
  unfold nxL
  cases hf : l.find? (fun g => lw g.2 == c) with
  | none => exact ⟨Int.le_refl _, by decide⟩
  | some g =>
    have := h g (List.mem_of_find?_eq_some hf)
    dsimp only
    omega
theorem nxt_bd {G : List (Int × Int)} (h : gOk G) (j : Nat) : 0 ≤ nxt G j ∧ nxt G j ≤ 2049 := by
  unfold nxt
  split
  · exact nxL_bd fun g hg => ⟨(h g (List.mem_of_mem_drop hg)).1, (h g (List.mem_of_mem_drop hg)).2.1⟩
  · exact ⟨Int.le_refl _, by decide⟩
theorem prv_bd {G : List (Int × Int)} (h : gOk G) (j : Nat) : 0 ≤ prv G j ∧ prv G j ≤ 2049 := by
  unfold prv
  split
  · refine nxL_bd fun g hg => ?_
    have := h g (List.mem_of_mem_take (List.mem_reverse.1 hg))
    exact ⟨this.1, this.2.1⟩
  · exact ⟨Int.le_refl _, by decide⟩
theorem chn_get {G : List (Int × Int)} {j : Nat} (h : j < G.length) : (chn G)[j]? = some (nxt G j, prv G j) := by simp [chn, List.getElem?_range h]
theorem chn_length (G : List (Int × Int)) : (chn G).length = G.length := by simp [chn]
end Go.Proofs.Ytjbfdhnfdehdeaa
