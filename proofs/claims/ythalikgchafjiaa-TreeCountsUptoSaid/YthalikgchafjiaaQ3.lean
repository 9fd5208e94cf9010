import Derived.Test.YthalikgchafjiaaQ1
import Derived.Test.YthalikgchafjiaaQ2
import Derived.Test.YthalikgchafjiaaVJ
namespace Go.Proofs.Ythalikgchafjiaa
open Go Go.Proofs.Ythalikgchafjiaa.V
set_option maxRecDepth 20000
attribute [local irreducible] CallS AOK AOKn ALoop Side Ref.ok
/-! Extents of kinds of pages. -/
def useI (k : Int) : Int := if k = -1 then 0 else if k = 6 ∨ k = 7 then 2 else 1
def frOk (k p : Int) : Bool := decide (-1 ≤ k ∧ k ≤ 7 ∧ (k = 7 → p = 6 ∨ p = 7))
def frMore (k p : Int) : Bool := decide (k = 7 ∨ k = -1 ∧ p = -1)
def bump (out : List (Int × Int × Int)) : List (Int × Int × Int) :=
  match out[out.length - 1]? with
  | some x => out.set (out.length - 1) (x.1, x.2.1 + 1, x.2.2)
  | none => out
def frStep (i k p : Int) (out : List (Int × Int × Int)) : List (Int × Int × Int) := if frMore k p then bump out else out ++ [(i, 1, useI k)]
def frG : List Int → Int → Int → List (Int × Int × Int) → Option (List (Int × Int × Int))
  | [], _, _, out => some out
  | k :: ks, p, i, out => if frOk k p then frG ks k (i + 1) (frStep i k p out) else none
def frR (ks : List Int) : Option (List (Int × Int × Int)) := if ks.length ≤ 64 then frG ks 8 0 [] else none
theorem bump_length (out : List (Int × Int × Int)) : (bump out).length = out.length := by unfold bump; split <;> simp
theorem frStep_length {i k p : Int} {out : List (Int × Int × Int)} : (frStep i k p out).length ≤ out.length + 1 := by
  unfold frStep
  split
  · rw [bump_length]; omega
  · simp
theorem frStep_ne {i k p : Int} {out : List (Int × Int × Int)} (h : frMore k p = false ∨ out ≠ []) : frStep i k p out ≠ [] := by
  unfold frStep
  split
  · rename_i q
    rcases h with h | h
    · rw [h] at q; cases q
    · intro e
      have := congrArg List.length e
      rw [bump_length] at this
      exact h (List.length_eq_zero_iff.1 this)
  · simp
theorem frG_step {ks : List Int} {i : Nat} {k p : Int} {out : List (Int × Int × Int)} (h : ks[i]? = some k) : frG (ks.drop i) p i out = if frOk k p then frG (ks.drop (i + 1)) k ((i : Int) + 1) (frStep i k p out) else none := by
  have hl := (List.getElem?_eq_some_iff.1 h).1
  have e : ks.drop i = k :: ks.drop (i + 1) := by rw [List.drop_eq_getElem_cons hl, (List.getElem?_eq_some_iff.1 h).2]
  rw [e]; rfl
def frL (ks : List Int) : List (Int × Int × Int) := (frR ks).getD []
def frB (ks : List Int) : Bool := (frR ks).isSome
theorem fr_none {ks : List Int} (h : frR ks = none) : frL ks = [] ∧ frB ks = false := by rw [frL, frB, h]; exact ⟨rfl, rfl⟩
theorem fr_some {ks : List Int} {out : List (Int × Int × Int)} (h : frR ks = some out) : frL ks = out ∧ frB ks = true := by rw [frL, frB, h]; exact ⟨rfl, rfl⟩
theorem frOk_more {k p : Int} (h : frOk k p = true) (hm : frMore k p = true) : p ≠ 8 := by
  simp only [frOk, frMore, decide_eq_true_eq] at h hm
  omega
theorem bk_bump {out : List (Int × Int × Int)} {x : Int × Int × Int} (h : out[out.length - 1]? = some x) : bk (bump out) = (bk out).set (out.length - 1) [.int .i64 x.1, .int .i64 (x.2.1 + 1), .int .i64 x.2.2] := by
  unfold bump
  rw [h]
  simp [bk, List.map_set]
theorem bump_rows {out : List (Int × Int × Int)} {sp : List (List AV)} {u : Int × Int × Int} (h : out[out.length - 1]? = some u) : (bk out ++ sp).set (0 + (((bk out).length : Int) - 1).toNat) [.int .i64 u.1, .int .i64 (u.2.1 + 1), .int .i64 u.2.2] = bk (bump out) ++ sp := by
  have hl := (List.getElem?_eq_some_iff.1 h).1
  rw [bk_bump h, bk_length, show 0 + ((out.length : Int) - 1).toNat = out.length - 1 from by omega, List.set_append_left _ _ (by rw [bk_length]; omega)]
theorem frStep_sz {i : Nat} {k p : Int} {out : List (Int × Int × Int)} (h : ∀ e, e ∈ out → 0 ≤ e.2.1 ∧ e.2.1 ≤ i) : ∀ e, e ∈ frStep i k p out → 0 ≤ e.2.1 ∧ e.2.1 ≤ i + 1 := by
  intro e he
  unfold frStep at he
  split at he
  · unfold bump at he
    split at he
    · rename_i x hx
      rcases List.mem_or_eq_of_mem_set he with q | q
      · have := h e q; omega
      · have := h x (List.mem_of_getElem? hx)
        subst q
        dsimp only
        omega
    · have := h e he; omega
  · rcases List.mem_append.1 he with q | q
    · have := h e q; omega
    · simp only [List.mem_singleton] at q
      subst q
      dsimp only
      omega
theorem nthR_last {out : List (Int × Int × Int)} {sp : List (List AV)} {u : Int × Int × Int} {K : List AV → Prop} (h : out[out.length - 1]? = some u) (hk : K [.int .i64 u.1, .int .i64 u.2.1, .int .i64 u.2.2]) : nthR (bk out ++ sp) (((bk out).length : Int) - 1).toNat K := by
  have hl := (List.getElem?_eq_some_iff.1 h).1
  refine nthR_intro (x := [.int .i64 u.1, .int .i64 u.2.1, .int .i64 u.2.2]) ?_ hk
  rw [bk_length, show ((out.length : Int) - 1).toNat = out.length - 1 from by omega, List.getElem?_append_left (by rw [bk_length]; omega)]
  simp [bk, h]
theorem nthR_last0 {out : List (Int × Int × Int)} {sp : List (List AV)} {u : Int × Int × Int} {K : List AV → Prop} (h : out[out.length - 1]? = some u) (hk : K [.int .i64 u.1, .int .i64 u.2.1, .int .i64 u.2.2]) : nthR (bk out ++ sp) (0 + (((bk out).length : Int) - 1).toNat) K := by
  rw [Nat.zero_add]; exact nthR_last h hk
theorem useOf_ok (k : Int) : AOKn Try.prog F.tree_useOf [.int .i64 k] fun y => y = .int .i64 (useI k) := by
  refine AOKn.by_steps mixed fc_tree_useOf_ok (by simp [fc_tree_useOf]) ?_
  repeat' (first
    | ((with_reducible refine Side.intro ?_) <;> (first
    | (simp only [List.append_nil, List.nil_append, List.map_nil]; first | exact List.nodup_nil | exact nodup_bid1 _ | exact nodup_bid2 (by assumption))
    | ((first | refine fresh_tup ?_ | skip); (repeat (first | exact fresh_bk _ |  exact FreshA.sl _ _ FreshA_bs | exact FreshA.sl _ _ FreshA_is | exact FreshA.nils | exact FreshA.nilp | exact FreshA.int _ _ | exact FreshA.bool _ | exact FreshA.str _ | exact fresh_nil | refine fresh_cons ?_ ?_ | with_reducible refine fresh_aggR ?_ | with_reducible refine fresh_agg ?_ | with_reducible exact fresh_nilA | with_reducible refine fresh_consA ?_ ?_)); done)
    ))
    | ((conv => whnf) <;> (first
    | (with_reducible refine and_same ?_)
    | (with_reducible refine and_side ?_ ?_)
    | (with_reducible refine Br.mk (fun _ => ?_) (fun _ => ?_))
    | (with_reducible refine NOut.lit ?_)
    ))
    )
  all_goals (conv => whnf)
  all_goals (try dsimp only)
  all_goals exact ret_same (by simp only [useI]; congr 1; split <;> (try split) <;> omega)
theorem From_ok (ks : List Int) (hk : ks.length ≤ 4611686018427) : AOKn Try.prog F.tree_From [.sl 1 (is ks) false] fun y => y = .tup [.sl 3 (bk (frL ks)) true, .bool (frB ks)] := by
  have hn := is_length ks
  refine AOKn.by_steps mixed fc_tree_From_ok (by simp [fc_tree_From]) ?_
  repeat' (first
    | ((with_reducible refine Side.intro ?_) <;> (first
    | (simp only [List.append_nil, List.nil_append, List.map_nil]; first | exact List.nodup_nil | exact nodup_bid1 _ | exact nodup_bid2 (by assumption))
    | ((first | refine fresh_tup ?_ | skip); (repeat (first | exact fresh_bk _ |  exact FreshA.sl _ _ FreshA_bs | exact FreshA.sl _ _ FreshA_is | exact FreshA.nils | exact FreshA.nilp | exact FreshA.int _ _ | exact FreshA.bool _ | exact FreshA.str _ | exact fresh_nil | refine fresh_cons ?_ ?_ | with_reducible refine fresh_aggR ?_ | with_reducible refine fresh_agg ?_ | with_reducible exact fresh_nilA | with_reducible refine fresh_consA ?_ ?_)); done)
    ))
    | ((conv => whnf) <;> (first
    | (with_reducible refine and_same ?_)
    | (with_reducible refine and_side ?_ ?_)
    | (with_reducible refine Br.mk (fun _ => ?_) (fun _ => ?_))
    | (with_reducible refine NOut.lit ?_)
    | (with_reducible refine lenR_sl ?_)
    ))
    )
  all_goals (conv => whnf)
  all_goals (try dsimp only)
  · obtain ⟨e1, e2⟩ := fr_none (ks := ks) (by rw [frR, if_neg (by omega)])
    rw [e1, e2]
    exact ⟨_, .tup (.cons (.nil _ _) (.cons (.refl _) .nil)), rfl⟩
  · rename_i h64
    have hR : frR ks = frG ks 8 0 [] := by rw [frR, if_pos (by omega)]
    refine loop_at (α := Nat × AH × AV × Int × List (Int × Int × Int)) (fun a => [(4, a.2.2.1), (5, .int .i64 a.2.2.2.1), (14, .int .i64 a.1)]) (fun a => a.2.1) (fun a => a.1 ≤ ks.length ∧ Own a.2.1 3 a.2.2.1 (bk a.2.2.2.2) ∧ frG (ks.drop a.1) a.2.2.2.1 a.1 a.2.2.2.2 = frR ks ∧ ((a.2.2.2.1 = 8 ∧ a.2.2.2.2 = []) ∨ a.2.2.2.2 ≠ []) ∧ a.2.2.2.2.length ≤ a.1 ∧ ∀ e, e ∈ a.2.2.2.2 → 0 ≤ e.2.1 ∧ e.2.1 ≤ a.1) (fun a => ks.length - a.1) (0, [], .nils, 8, []) ⟨by omega, Own.nil _ _, by rw [hR]; rfl, .inl ⟨rfl, rfl⟩, by simp, by simp⟩ rfl rfl ?_
    rintro ⟨i, σ, x, p, out⟩ ⟨hi, ho, hG, hne, hol, hsz⟩
    dsimp only at hi ho hG hne hol hsz ⊢
    have hbl := bk_length out
    by_cases hlt : i < ks.length
    · obtain ⟨k, hk1, hk2⟩ := getN (l := ks) (k := i) hlt
      rw [frG_step hk2] at hG
      cases hok : frOk k p
      · rw [hok, if_neg (by simp)] at hG
        obtain ⟨e1, e2⟩ := fr_none hG.symm
        simp only [frOk, decide_eq_false_iff_not] at hok
        rw [e1, e2]
        repeat' (first
          | ((with_reducible refine Side.intro ?_) <;> (first
          | omega
          | (simp only [List.append_nil, List.nil_append, List.map_nil]; first | exact List.nodup_nil | exact nodup_bid1 _ | exact nodup_bid2 (by assumption))
          | ((first | refine fresh_tup ?_ | skip); (repeat (first | exact fresh_bk _ |  exact FreshA.sl _ _ FreshA_bs | exact FreshA.sl _ _ FreshA_is | exact FreshA.nils | exact FreshA.nilp | exact FreshA.int _ _ | exact FreshA.bool _ | exact FreshA.str _ | exact fresh_nil | refine fresh_cons ?_ ?_ | with_reducible refine fresh_aggR ?_ | with_reducible refine fresh_agg ?_ | with_reducible exact fresh_nilA | with_reducible refine fresh_consA ?_ ?_)); done)
          ))
          | ((conv => whnf) <;> (first
          | (with_reducible refine and_same ?_)
          | (with_reducible refine and_side ?_ ?_)
          | ((with_reducible apply Br.yes) ; (focus omega))
          | ((with_reducible apply Br.no) ; (focus omega))
          | (with_reducible refine Br.mk (fun _ => ?_) (fun _ => ?_))
          | ((with_reducible apply nthR_is1) ; (focus assumption))
          | (with_reducible refine ia_sl ?_ ?_)
          | (with_reducible refine NOut.lit ?_)
          ))
          )
        all_goals (conv => whnf)
        all_goals (try dsimp only)
        all_goals exact ⟨_, .tup (.cons (.nil _ _) (.cons (.refl _) .nil)), rfl⟩
      · rw [hok, if_pos rfl] at hG
        have hok2 := hok
        simp only [frOk, decide_eq_true_eq] at hok2
        cases hm : frMore k p
        · have hm2 := hm
          simp only [frMore, decide_eq_false_iff_not] at hm2
          have hst : frStep i k p out = out ++ [((i : Int), 1, useI k)] := by rw [frStep, hm]; rfl
          have hne2 := frStep_ne (i := i) (out := out) (.inl hm)
          repeat' (first
            | ((with_reducible refine Side.intro ?_) <;> (first
            | omega
            ))
            | ((conv => whnf) <;> (first
            | (with_reducible refine and_same ?_)
            | ((with_reducible apply Br.yes) ; (focus omega))
            | ((with_reducible apply Br.no) ; (focus omega))
            | (with_reducible refine Br.mk (fun _ => ?_) (fun _ => ?_))
            | ((with_reducible apply nthR_is1) ; (focus assumption))
            | (with_reducible refine ia_sl ?_ ?_)
            ))
            )
          all_goals (conv => whnf)
          all_goals (try dsimp only)
          all_goals refine (useOf_ok k).call (.cons (Looks.int _ _ _) .nil) ?_
          all_goals rintro _ y σ2 rfl hg hGv
          all_goals obtain rfl := hGv.flat_inv rfl (by intros; simp)
          all_goals replace ho := ho.keepN hg
          · repeat' (first
              | ((with_reducible refine Side.intro ?_) <;> (first
              | omega
              | exact Nat.le_of_ble_eq_true rfl
              | exact rfl
              ))
              | ((conv => whnf) <;> (first
              | (with_reducible refine and_same ?_)
              | (with_reducible refine and_side ?_ ?_)
              | ((with_reducible apply blkAt_step) ; (focus (first
              | ((repeat (first
              | exact get_new
              )); done)
              )) ; (focus (first | rfl | assumption | omega)) ; (focus (first | rfl | assumption)) ; (try dsimp only))
              | (with_reducible refine AppC.frz ?_)
              | (with_reducible refine rowsR_rsl ?_)
              ))
              )
            all_goals (conv => whnf)
            all_goals (try dsimp only)
            refine appendR_own (rows := bk out) (ho.keepN (by (repeat (first
                  | exact Gr.refl _ _
                  | refine Gr.addN ?_ _
                  )))) (by rw [bk_length]; show (out.length + 1) * 24 ≤ _; omega) ?_
            intro x' σ' ho' hg' hb'
            repeat' (first
              | ((conv => whnf) <;> (first
              | (with_reducible refine and_same ?_)
              | ((with_reducible apply Br.yes) ; (focus omega))
              ))
              )
            all_goals (conv => whnf)
            all_goals (try dsimp only)
            exact ⟨(i + 1, σ', x', k, frStep i k p out), rfl, rfl, ⟨by omega, by rw [hst, bk_append]; exact ho', hG, .inr hne2, by have := frStep_length (i := i) (k := k) (p := p) (out := out); dsimp only; omega, by have := frStep_sz (k := k) (p := p) hsz; simpa using this⟩, by omega⟩
          · repeat' (first
              | ((with_reducible refine Side.intro ?_) <;> (first
              | omega
              | exact Nat.le_of_ble_eq_true rfl
              | exact rfl
              ))
              | ((conv => whnf) <;> (first
              | (with_reducible refine and_same ?_)
              | (with_reducible refine and_side ?_ ?_)
              | ((with_reducible apply blkAt_step) ; (focus (first
              | ((repeat (first
              | exact get_new
              )); done)
              )) ; (focus (first | rfl | assumption | omega)) ; (focus (first | rfl | assumption)) ; (try dsimp only))
              | (with_reducible refine AppC.frz ?_)
              | (with_reducible refine rowsR_rsl ?_)
              ))
              )
            all_goals (conv => whnf)
            all_goals (try dsimp only)
            refine appendR_own (rows := bk out) (ho.keepN (by (repeat (first
                  | exact Gr.refl _ _
                  | refine Gr.addN ?_ _
                  )))) (by rw [bk_length]; show (out.length + 1) * 24 ≤ _; omega) ?_
            intro x' σ' ho' hg' hb'
            repeat' (first
              | ((conv => whnf) <;> (first
              | (with_reducible refine and_same ?_)
              | ((with_reducible apply Br.yes) ; (focus omega))
              ))
              )
            all_goals (conv => whnf)
            all_goals (try dsimp only)
            exact ⟨(i + 1, σ', x', k, frStep i k p out), rfl, rfl, ⟨by omega, by rw [hst, bk_append]; exact ho', hG, .inr hne2, by have := frStep_length (i := i) (k := k) (p := p) (out := out); dsimp only; omega, by have := frStep_sz (k := k) (p := p) hsz; simpa using this⟩, by omega⟩
        · have hm2 := hm
          simp only [frMore, decide_eq_true_eq] at hm2
          have hp8 := frOk_more hok hm
          have hne' : out ≠ [] := by
            rcases hne with q | q
            · exact absurd q.1 hp8
            · exact q
          have hpos : 0 < out.length := List.length_pos_iff.2 hne'
          obtain ⟨u, hu⟩ : ∃ u, out[out.length - 1]? = some u := ⟨_, List.getElem?_eq_getElem (by omega)⟩
          have hst : frStep i k p out = bump out := by rw [frStep, hm]; rfl
          have hne2 := frStep_ne (i := i) (k := k) (p := p) (out := out) (.inr hne')
          have hu2 := hsz u (List.mem_of_getElem? hu)
          repeat' (first
            | ((with_reducible refine Side.intro ?_) <;> (first
            | omega
            | exact Nat.le_of_ble_eq_true rfl
            | exact rfl
            ))
            | ((conv => whnf) <;> (first
            | (with_reducible refine and_same ?_)
            | (with_reducible refine and_side ?_ ?_)
            | ((with_reducible apply Br.yes) ; (focus omega))
            | ((with_reducible apply Br.no) ; (focus omega))
            | (with_reducible refine Br.mk (fun _ => ?_) (fun _ => ?_))
            | ((with_reducible apply blkAt_step) ; (focus (first
            | ((repeat (first
            | assumption
            )); done)
            )) ; (focus (first | rfl | assumption | omega)) ; (focus (first | rfl | assumption)) ; (try dsimp only))
            | ((with_reducible apply nthR_last0) ; (focus assumption))
            | ((with_reducible apply nthR_is1) ; (focus assumption))
            | ((with_reducible apply lenR_own) ; (focus assumption))
            | ((with_reducible apply ia_own) ; (focus assumption))
            | (with_reducible refine ia_sl ?_ ?_)
            | (with_reducible intro _)
            ))
            )
          all_goals (conv => whnf)
          all_goals (try dsimp only)
          all_goals rename_i id gen sp hx hb
          all_goals subst hx
          all_goals exact ⟨(i + 1, _, _, k, frStep i k p out), rfl, rfl, ⟨by omega, by rw [hst]; exact .inr ⟨id, gen, sp, by rw [bk_length, bk_length, bump_length], by dsimp only; rw [get_set hb, bump_rows hu]; rfl⟩, hG, .inr hne2, by have := frStep_length (i := i) (k := k) (p := p) (out := out); dsimp only; omega, by have := frStep_sz (k := k) (p := p) hsz; simpa using this⟩, by omega⟩
    · repeat' (first
        | ((with_reducible refine Side.intro ?_) <;> (first
        | (simp only [List.append_nil, List.nil_append, List.map_nil]; first | exact List.nodup_nil | exact nodup_bid1 _ | exact nodup_bid2 (by assumption))
        | ((first | refine fresh_tup ?_ | skip); (repeat (first | exact fresh_bk _ |  exact FreshA.sl _ _ FreshA_bs | exact FreshA.sl _ _ FreshA_is | exact FreshA.nils | exact FreshA.nilp | exact FreshA.int _ _ | exact FreshA.bool _ | exact FreshA.str _ | exact fresh_nil | refine fresh_cons ?_ ?_ | with_reducible refine fresh_aggR ?_ | with_reducible refine fresh_agg ?_ | with_reducible exact fresh_nilA | with_reducible refine fresh_consA ?_ ?_)); done)
        ))
        | ((conv => whnf) <;> (first
        | (with_reducible refine and_same ?_)
        | (with_reducible refine and_side ?_ ?_)
        | ((with_reducible apply Br.no) ; (focus omega))
        | ((with_reducible apply NOut.own) ; (focus assumption))
        | (with_reducible refine NOut.lit ?_)
        ))
        )
      all_goals (conv => whnf)
      all_goals (try dsimp only)
      have e : i = ks.length := by omega
      subst e
      rw [List.drop_length] at hG
      obtain ⟨e1, e2⟩ := fr_some (out := out) hG.symm
      rw [e1, e2]
      exact ret_same rfl
theorem fr_app {σ : AH} {x : AV} {i : Nat} {k p c : Int} {out : List (Int × Int × Int)} (hm : frMore k p = false) (h : Own σ 3 x (bk out ++ [[.int .i64 i, .int .i64 1, .int .i64 c]])) (hc : useI k = c) : Own σ 3 x (bk (frStep i k p out)) := by
  subst hc
  have hst : frStep i k p out = out ++ [((i : Int), 1, useI k)] := by rw [frStep, hm]; rfl
  rw [hst, bk_append]
  exact h
theorem RFrom_ok (ks : List Int) (hk : ks.length ≤ 4611686018427) : AOKn Try.prog F.joistref14_From [.sl 1 (is ks) false] fun y => y = .tup [.sl 3 (bk (frL ks)) true, .bool (frB ks)] := by
  have hn := is_length ks
  refine AOKn.by_steps mixed fc_joistref14_From_ok (by simp [fc_joistref14_From]) ?_
  repeat' (first
    | ((with_reducible refine Side.intro ?_) <;> (first
    | (simp only [List.append_nil, List.nil_append, List.map_nil]; first | exact List.nodup_nil | exact nodup_bid1 _ | exact nodup_bid2 (by assumption))
    | ((first | refine fresh_tup ?_ | skip); (repeat (first | exact fresh_bk _ |  exact FreshA.sl _ _ FreshA_bs | exact FreshA.sl _ _ FreshA_is | exact FreshA.nils | exact FreshA.nilp | exact FreshA.int _ _ | exact FreshA.bool _ | exact FreshA.str _ | exact fresh_nil | refine fresh_cons ?_ ?_ | with_reducible refine fresh_aggR ?_ | with_reducible refine fresh_agg ?_ | with_reducible exact fresh_nilA | with_reducible refine fresh_consA ?_ ?_)); done)
    ))
    | ((conv => whnf) <;> (first
    | (with_reducible refine and_same ?_)
    | (with_reducible refine and_side ?_ ?_)
    | (with_reducible refine Br.mk (fun _ => ?_) (fun _ => ?_))
    | (with_reducible refine NOut.lit ?_)
    | (with_reducible refine lenR_sl ?_)
    ))
    )
  all_goals (conv => whnf)
  all_goals (try dsimp only)
  · obtain ⟨e1, e2⟩ := fr_none (ks := ks) (by rw [frR, if_neg (by omega)])
    rw [e1, e2]
    exact ⟨_, .tup (.cons (.nil _ _) (.cons (.refl _) .nil)), rfl⟩
  · rename_i h64
    have hR : frR ks = frG ks 8 0 [] := by rw [frR, if_pos (by omega)]
    refine loop_at (α := Nat × AH × AV × Int × List (Int × Int × Int)) (fun a => [(4, a.2.2.1), (5, .int .i64 a.1)]) (fun a => a.2.1) (fun a => a.1 ≤ ks.length ∧ Own a.2.1 3 a.2.2.1 (bk a.2.2.2.2) ∧ frG (ks.drop a.1) a.2.2.2.1 a.1 a.2.2.2.2 = frR ks ∧ ((a.2.2.2.1 = 8 ∧ a.2.2.2.2 = []) ∨ a.2.2.2.2 ≠ []) ∧ a.2.2.2.2.length ≤ a.1 ∧ (∀ e, e ∈ a.2.2.2.2 → 0 ≤ e.2.1 ∧ e.2.1 ≤ a.1) ∧ (a.1 = 0 → a.2.2.2.1 = 8) ∧ (0 < a.1 → ks[a.1 - 1]? = some a.2.2.2.1)) (fun a => ks.length - a.1) (0, [], .nils, 8, []) ⟨by omega, Own.nil _ _, by rw [hR]; rfl, .inl ⟨rfl, rfl⟩, by simp, by simp, by simp, by simp⟩ rfl rfl ?_
    rintro ⟨i, σ, x, p, out⟩ ⟨hi, ho, hG, hne, hol, hsz, hp0, hp1⟩
    dsimp only at hi ho hG hne hol hsz hp0 hp1 ⊢
    have hbl := bk_length out
    by_cases hlt : i < ks.length
    · obtain ⟨k, hk1, hk2⟩ := getN (l := ks) (k := i) hlt
      have hp2 : 0 < i → ks[((i : Int) - 1).toNat]? = some p := fun q => by rw [show ((i : Int) - 1).toNat = i - 1 from by omega]; exact hp1 q
      have hp3 : ks[(i + 1) - 1]? = some k := by simpa using hk2
      rw [frG_step hk2] at hG
      rcases Nat.eq_zero_or_pos i with hi0 | hi0
      · have hp := hp0 hi0
        have hout : out = [] := by
          rcases hne with q | q
          · exact q.2
          · exact absurd (List.length_eq_zero_iff.1 (by omega)) q
        cases hok : frOk k p
        · rw [hok, if_neg (by simp)] at hG
          obtain ⟨e1, e2⟩ := fr_none hG.symm
          simp only [frOk, decide_eq_false_iff_not] at hok
          rw [e1, e2]
          repeat' (first
            | ((with_reducible refine Side.intro ?_) <;> (first
            | omega
            | (simp only [List.append_nil, List.nil_append, List.map_nil]; first | exact List.nodup_nil | exact nodup_bid1 _ | exact nodup_bid2 (by assumption))
            | ((first | refine fresh_tup ?_ | skip); (repeat (first | exact fresh_bk _ |  exact FreshA.sl _ _ FreshA_bs | exact FreshA.sl _ _ FreshA_is | exact FreshA.nils | exact FreshA.nilp | exact FreshA.int _ _ | exact FreshA.bool _ | exact FreshA.str _ | exact fresh_nil | refine fresh_cons ?_ ?_ | with_reducible refine fresh_aggR ?_ | with_reducible refine fresh_agg ?_ | with_reducible exact fresh_nilA | with_reducible refine fresh_consA ?_ ?_)); done)
            ))
            | ((conv => whnf) <;> (first
            | (with_reducible refine and_same ?_)
            | (with_reducible refine and_side ?_ ?_)
            | ((with_reducible apply Br.yes) ; (focus omega))
            | (with_reducible refine Br.mk (fun _ => ?_) (fun _ => ?_))
            | ((with_reducible apply nthR_is1) ; (focus assumption))
            | (with_reducible refine ia_sl ?_ ?_)
            | (with_reducible refine NOut.lit ?_)
            | (with_reducible refine lenR_sl ?_)
            ))
            )
          all_goals (conv => whnf)
          all_goals (try dsimp only)
          all_goals exact ⟨_, .tup (.cons (.nil _ _) (.cons (.refl _) .nil)), rfl⟩
        · rw [hok, if_pos rfl] at hG
          have hok2 := hok
          simp only [frOk, decide_eq_true_eq] at hok2
          have hm : frMore k p = false := by simp only [frMore, decide_eq_false_iff_not]; omega
          have hst : frStep i k p out = out ++ [((i : Int), 1, useI k)] := by rw [frStep, hm]; rfl
          have hne2 := frStep_ne (i := i) (out := out) (.inl hm)
          repeat' (first
            | ((with_reducible refine Side.intro ?_) <;> (first
            | omega
            | exact Nat.le_of_ble_eq_true rfl
            | exact rfl
            ))
            | ((conv => whnf) <;> (first
            | (with_reducible refine and_same ?_)
            | (with_reducible refine and_side ?_ ?_)
            | ((with_reducible apply Br.yes) ; (focus omega))
            | ((with_reducible apply Br.no) ; (focus omega))
            | (with_reducible refine Br.mk (fun _ => ?_) (fun _ => ?_))
            | ((with_reducible apply blkAt_step) ; (focus (first
            | ((repeat (first
            | exact get_new
            )); done)
            )) ; (focus (first | rfl | assumption | omega)) ; (focus (first | rfl | assumption)) ; (try dsimp only))
            | ((with_reducible apply nthR_is1) ; (focus assumption))
            | (with_reducible refine ia_sl ?_ ?_)
            | (with_reducible refine AppC.frz ?_)
            | (with_reducible refine lenR_sl ?_)
            | (with_reducible refine rowsR_rsl ?_)
            ))
            )
          all_goals (conv => whnf)
          all_goals (try dsimp only)
          all_goals refine appendR_own (rows := bk out) (ho.keepN (by (repeat (first
                | exact Gr.refl _ _
                | refine Gr.addN ?_ _
                )))) (by rw [bk_length]; show (out.length + 1) * 24 ≤ _; omega) ?_
          all_goals intro x' σ' ho' hg' hb'
          · repeat' (first
              | ((conv => whnf) <;> (first
              | (with_reducible refine and_same ?_)
              | ((with_reducible apply Br.yes) ; (focus omega))
              ))
              )
            all_goals (conv => whnf)
            all_goals (try dsimp only)
            exact ⟨(i + 1, σ', x', k, frStep i k p out), rfl, rfl, ⟨by omega, fr_app hm ho' (by unfold useI; split <;> (try split) <;> omega), hG, .inr hne2, by have := frStep_length (i := i) (k := k) (p := p) (out := out); dsimp only; omega, by have := frStep_sz (k := k) (p := p) hsz; simpa using this, by simp, fun _ => hp3⟩, by omega⟩
          · repeat' (first
              | ((conv => whnf) <;> (first
              | (with_reducible refine and_same ?_)
              | ((with_reducible apply Br.yes) ; (focus omega))
              ))
              )
            all_goals (conv => whnf)
            all_goals (try dsimp only)
            exact ⟨(i + 1, σ', x', k, frStep i k p out), rfl, rfl, ⟨by omega, fr_app hm ho' (by unfold useI; split <;> (try split) <;> omega), hG, .inr hne2, by have := frStep_length (i := i) (k := k) (p := p) (out := out); dsimp only; omega, by have := frStep_sz (k := k) (p := p) hsz; simpa using this, by simp, fun _ => hp3⟩, by omega⟩
          · repeat' (first
              | ((conv => whnf) <;> (first
              | (with_reducible refine and_same ?_)
              | ((with_reducible apply Br.yes) ; (focus omega))
              ))
              )
            all_goals (conv => whnf)
            all_goals (try dsimp only)
            exact ⟨(i + 1, σ', x', k, frStep i k p out), rfl, rfl, ⟨by omega, fr_app hm ho' (by unfold useI; split <;> (try split) <;> omega), hG, .inr hne2, by have := frStep_length (i := i) (k := k) (p := p) (out := out); dsimp only; omega, by have := frStep_sz (k := k) (p := p) hsz; simpa using this, by simp, fun _ => hp3⟩, by omega⟩
      · have hp := hp2 hi0
        cases hok : frOk k p
        · rw [hok, if_neg (by simp)] at hG
          obtain ⟨e1, e2⟩ := fr_none hG.symm
          simp only [frOk, decide_eq_false_iff_not] at hok
          rw [e1, e2]
          repeat' (first
            | ((with_reducible refine Side.intro ?_) <;> (first
            | omega
            | (simp only [List.append_nil, List.nil_append, List.map_nil]; first | exact List.nodup_nil | exact nodup_bid1 _ | exact nodup_bid2 (by assumption))
            | ((first | refine fresh_tup ?_ | skip); (repeat (first | exact fresh_bk _ |  exact FreshA.sl _ _ FreshA_bs | exact FreshA.sl _ _ FreshA_is | exact FreshA.nils | exact FreshA.nilp | exact FreshA.int _ _ | exact FreshA.bool _ | exact FreshA.str _ | exact fresh_nil | refine fresh_cons ?_ ?_ | with_reducible refine fresh_aggR ?_ | with_reducible refine fresh_agg ?_ | with_reducible exact fresh_nilA | with_reducible refine fresh_consA ?_ ?_)); done)
            ))
            | ((conv => whnf) <;> (first
            | (with_reducible refine and_same ?_)
            | (with_reducible refine and_side ?_ ?_)
            | ((with_reducible apply Br.yes) ; (focus omega))
            | ((with_reducible apply Br.no) ; (focus omega))
            | (with_reducible refine Br.mk (fun _ => ?_) (fun _ => ?_))
            | ((with_reducible apply nthR_is1) ; (focus assumption))
            | (with_reducible refine ia_sl ?_ ?_)
            | (with_reducible refine NOut.lit ?_)
            | (with_reducible refine lenR_sl ?_)
            ))
            )
          all_goals (conv => whnf)
          all_goals (try dsimp only)
          all_goals exact ⟨_, .tup (.cons (.nil _ _) (.cons (.refl _) .nil)), rfl⟩
        · rw [hok, if_pos rfl] at hG
          have hok2 := hok
          simp only [frOk, decide_eq_true_eq] at hok2
          cases hm : frMore k p
          · have hm2 := hm
            simp only [frMore, decide_eq_false_iff_not] at hm2
            have hne2 := frStep_ne (i := i) (out := out) (.inl hm)
            repeat' (first
              | ((with_reducible refine Side.intro ?_) <;> (first
              | omega
              | exact Nat.le_of_ble_eq_true rfl
              | exact rfl
              ))
              | ((conv => whnf) <;> (first
              | (with_reducible refine and_same ?_)
              | (with_reducible refine and_side ?_ ?_)
              | ((with_reducible apply Br.yes) ; (focus omega))
              | ((with_reducible apply Br.no) ; (focus omega))
              | (with_reducible refine Br.mk (fun _ => ?_) (fun _ => ?_))
              | ((with_reducible apply blkAt_step) ; (focus (first
              | ((repeat (first
              | exact get_new
              )); done)
              )) ; (focus (first | rfl | assumption | omega)) ; (focus (first | rfl | assumption)) ; (try dsimp only))
              | ((with_reducible apply nthR_is1) ; (focus assumption))
              | (with_reducible refine ia_sl ?_ ?_)
              | (with_reducible refine AppC.frz ?_)
              | (with_reducible refine lenR_sl ?_)
              | (with_reducible refine rowsR_rsl ?_)
              ))
              )
            all_goals (conv => whnf)
            all_goals (try dsimp only)
            all_goals refine appendR_own (rows := bk out) (ho.keepN (by (repeat (first
                  | exact Gr.refl _ _
                  | refine Gr.addN ?_ _
                  )))) (by rw [bk_length]; show (out.length + 1) * 24 ≤ _; omega) ?_
            all_goals intro x' σ' ho' hg' hb'
            · repeat' (first
                | ((conv => whnf) <;> (first
                | (with_reducible refine and_same ?_)
                | ((with_reducible apply Br.yes) ; (focus omega))
                ))
                )
              all_goals (conv => whnf)
              all_goals (try dsimp only)
              exact ⟨(i + 1, σ', x', k, frStep i k p out), rfl, rfl, ⟨by omega, fr_app hm ho' (by unfold useI; split <;> (try split) <;> omega), hG, .inr hne2, by have := frStep_length (i := i) (k := k) (p := p) (out := out); dsimp only; omega, by have := frStep_sz (k := k) (p := p) hsz; simpa using this, by simp, fun _ => hp3⟩, by omega⟩
            · repeat' (first
                | ((conv => whnf) <;> (first
                | (with_reducible refine and_same ?_)
                | ((with_reducible apply Br.yes) ; (focus omega))
                ))
                )
              all_goals (conv => whnf)
              all_goals (try dsimp only)
              exact ⟨(i + 1, σ', x', k, frStep i k p out), rfl, rfl, ⟨by omega, fr_app hm ho' (by unfold useI; split <;> (try split) <;> omega), hG, .inr hne2, by have := frStep_length (i := i) (k := k) (p := p) (out := out); dsimp only; omega, by have := frStep_sz (k := k) (p := p) hsz; simpa using this, by simp, fun _ => hp3⟩, by omega⟩
            · repeat' (first
                | ((conv => whnf) <;> (first
                | (with_reducible refine and_same ?_)
                | ((with_reducible apply Br.yes) ; (focus omega))
                ))
                )
              all_goals (conv => whnf)
              all_goals (try dsimp only)
              exact ⟨(i + 1, σ', x', k, frStep i k p out), rfl, rfl, ⟨by omega, fr_app hm ho' (by unfold useI; split <;> (try split) <;> omega), hG, .inr hne2, by have := frStep_length (i := i) (k := k) (p := p) (out := out); dsimp only; omega, by have := frStep_sz (k := k) (p := p) hsz; simpa using this, by simp, fun _ => hp3⟩, by omega⟩
          · have hm2 := hm
            simp only [frMore, decide_eq_true_eq] at hm2
            have hp8 := frOk_more hok hm
            have hne' : out ≠ [] := by
              rcases hne with q | q
              · exact absurd q.1 hp8
              · exact q
            have hpos : 0 < out.length := List.length_pos_iff.2 hne'
            obtain ⟨u, hu⟩ : ∃ u, out[out.length - 1]? = some u := ⟨_, List.getElem?_eq_getElem (by omega)⟩
            have hst : frStep i k p out = bump out := by rw [frStep, hm]; rfl
            have hne2 := frStep_ne (i := i) (k := k) (p := p) (out := out) (.inr hne')
            have hu2 := hsz u (List.mem_of_getElem? hu)
            repeat' (first
              | ((with_reducible refine Side.intro ?_) <;> (first
              | omega
              | exact Nat.le_of_ble_eq_true rfl
              | exact rfl
              ))
              | ((conv => whnf) <;> (first
              | (with_reducible refine and_same ?_)
              | (with_reducible refine and_side ?_ ?_)
              | ((with_reducible apply Br.yes) ; (focus omega))
              | ((with_reducible apply Br.no) ; (focus omega))
              | (with_reducible refine Br.mk (fun _ => ?_) (fun _ => ?_))
              | ((with_reducible apply blkAt_step) ; (focus (first
              | ((repeat (first
              | assumption
              )); done)
              )) ; (focus (first | rfl | assumption | omega)) ; (focus (first | rfl | assumption)) ; (try dsimp only))
              | ((with_reducible apply nthR_last0) ; (focus assumption))
              | ((with_reducible apply nthR_is1) ; (focus assumption))
              | ((with_reducible apply lenR_own) ; (focus assumption))
              | ((with_reducible apply ia_own) ; (focus assumption))
              | (with_reducible refine ia_sl ?_ ?_)
              | (with_reducible refine lenR_sl ?_)
              | (with_reducible intro _)
              ))
              )
            all_goals (conv => whnf)
            all_goals (try dsimp only)
            all_goals rename_i id gen sp hx hb
            all_goals subst hx
            all_goals exact ⟨(i + 1, _, _, k, frStep i k p out), rfl, rfl, ⟨by omega, by rw [hst]; exact .inr ⟨id, gen, sp, by rw [bk_length, bk_length, bump_length], by dsimp only; rw [get_set hb, bump_rows hu]; rfl⟩, hG, .inr hne2, by have := frStep_length (i := i) (k := k) (p := p) (out := out); dsimp only; omega, by have := frStep_sz (k := k) (p := p) hsz; simpa using this, by simp, fun _ => hp3⟩, by omega⟩
    · repeat' (first
        | ((with_reducible refine Side.intro ?_) <;> (first
        | (simp only [List.append_nil, List.nil_append, List.map_nil]; first | exact List.nodup_nil | exact nodup_bid1 _ | exact nodup_bid2 (by assumption))
        | ((first | refine fresh_tup ?_ | skip); (repeat (first | exact fresh_bk _ |  exact FreshA.sl _ _ FreshA_bs | exact FreshA.sl _ _ FreshA_is | exact FreshA.nils | exact FreshA.nilp | exact FreshA.int _ _ | exact FreshA.bool _ | exact FreshA.str _ | exact fresh_nil | refine fresh_cons ?_ ?_ | with_reducible refine fresh_aggR ?_ | with_reducible refine fresh_agg ?_ | with_reducible exact fresh_nilA | with_reducible refine fresh_consA ?_ ?_)); done)
        ))
        | ((conv => whnf) <;> (first
        | (with_reducible refine and_same ?_)
        | (with_reducible refine and_side ?_ ?_)
        | ((with_reducible apply Br.no) ; (focus omega))
        | ((with_reducible apply NOut.own) ; (focus assumption))
        | (with_reducible refine NOut.lit ?_)
        | (with_reducible refine lenR_sl ?_)
        ))
        )
      all_goals (conv => whnf)
      all_goals (try dsimp only)
      have e : i = ks.length := by omega
      subst e
      rw [List.drop_length] at hG
      obtain ⟨e1, e2⟩ := fr_some (out := out) hG.symm
      rw [e1, e2]
      exact ret_same rfl
end Go.Proofs.Ythalikgchafjiaa

namespace Go.Proofs.Ythalikgchafjiaa
open Go Go.Proofs.Ythalikgchafjiaa.V
set_option maxRecDepth 20000
attribute [local irreducible] CallS AOK AOKn ALoop Side Ref.ok
/-! The laws of trees. -/
def smL : List (Int × Int × Int) := [(0, 1, 1), (1, 2, 2), (3, 1, 0)]
theorem sm_fr : frL [0, 6, 7, -1] = smL ∧ frB [0, 6, 7, -1] = true := by decide
theorem ndI_7 : ndI 7 = 1 := by
  rw [ndI, if_neg (by omega), show (7 : Int).toNat = 7 from rfl, ndN, show hol1 7 = 1 from rfl, ndT_one (by omega)]; rfl
theorem ndI_3 : ndI 3 = 1 := by
  rw [ndI, if_neg (by omega), show (3 : Int).toNat = 3 from rfl, ndN, show hol1 3 = 1 from rfl, ndT_one (by omega)]; rfl
theorem ndI_8 : ndI 8 = 3 := by
  rw [ndI, if_neg (by omega), show (8 : Int).toNat = 8 from rfl, ndN, show hol1 8 = 2 from rfl, ndT_more (by omega), show hol 2 = 1 from rfl, ndT_one (by omega)]; rfl
theorem ndI_50 : ndI 50 = 11 := by
  rw [ndI, if_neg (by omega), show (50 : Int).toNat = 50 from rfl, ndN, show hol1 50 = 8 from rfl, ndT_more (by omega), show hol 8 = 2 from rfl, ndT_more (by omega), show hol 2 = 1 from rfl, ndT_one (by omega)]; rfl
theorem sm_wr : wrE 4 1 smL = 0 := by
  have h : rt 4 smL = true := by decide
  rw [wrE, if_pos h, show ((smL.length : Nat) : Int) = 3 from rfl, ndI_3, if_neg (by omega)]
theorem sm_fd : fdE 4 (wrL 4 1 smL) 2 = (1, 2, 2) ∧ fdF 4 (wrL 4 1 smL) 2 = true := by
  have h : fd smL 2 = some (1, 2, 2) := by decide
  exact fd_some (by rw [(rd_wr sm_wr).2]; exact h)
theorem small_ok : AOKn Try.prog F.joistlaw14_small [] fun y => y = .bool true := by
  refine AOKn.by_steps mixed fc_joistlaw14_small_ok (by simp [fc_joistlaw14_small]) ?_
  repeat' (first
    | ((with_reducible refine Side.intro ?_) <;> (first
    | omega
    | exact Nat.le_of_ble_eq_true rfl
    | exact rfl
    ))
    | ((conv => whnf) <;> (first
    | (with_reducible refine and_side ?_ ?_)
    ))
    )
  all_goals (conv => whnf)
  all_goals (try dsimp only)
  refine call_sl1 (From_ok [0, 6, 7, -1] (by simp)) (.cons (.same rfl) .nil) rfl fun σ1 y hg1 hy hny => ?_
  rw [sm_fr.1] at hy
  rw [sm_fr.2]
  skip
  all_goals (conv => whnf)
  all_goals (try dsimp only)
  refine call_sl1 (Write_ok 4 1 smL (by decide)) (.cons (Looks.int _ _ _) (.cons (Looks.int _ _ _) (.cons (Looks.ownbk hy) .nil))) rfl fun σ2 z hg2 hz hnz => ?_
  rw [sm_wr]
  have hzl : (bs (wrL 4 1 smL)).length = 128 := by rw [bs_length, wrL_len sm_wr]; rfl
  have hyl : (bk smL).length = 3 := rfl
  replace hy := hy.keepN hg2
  skip
  all_goals (conv => whnf)
  all_goals (try dsimp only)
  refine call_two (Find_ok 4 (wrL 4 1 smL) 2 (by rw [bs_length] at hzl; omega) (by omega)) (.cons (Looks.int _ _ _) (.cons (Looks.ownbs hz) (.cons (Looks.int _ _ _) .nil))) rfl rfl fun σ3 hg3 => ?_
  rw [sm_fd.1, sm_fd.2]
  unfold exV
  have hgy := hy.keepN hg3
  have hgz := hz.keepN hg3
  generalize bk smL = BK at *
  generalize bs (wrL 4 1 smL) = BZ at *
  repeat' (first
    | ((with_reducible refine Side.intro ?_) <;> (first
    | exact Nat.le_of_ble_eq_true rfl
    | exact rfl
    ))
    | ((conv => whnf) <;> (first
    | (with_reducible refine and_same ?_)
    | (with_reducible refine and_side ?_ ?_)
    | (with_reducible refine Br.yes rfl ?_)
    | ((with_reducible apply Br.yes) ; (focus omega))
    | ((with_reducible apply Br.yes) ; (focus ((with_reducible refine And.intro ?_ ?_) ; (repeat' (first | with_reducible rfl | exact True.intro | with_reducible refine And.intro ?_ ?_ | omega | assumption)) ; (first | done | fail))))
    | ((with_reducible apply blkAt_step) ; (focus (first
    | ((repeat (first
    | exact get_new
    | exact get_set get_new
    )); done)
    )) ; (focus (first | rfl | assumption | omega)) ; (focus (first | rfl | assumption)) ; (try dsimp only))
    | ((with_reducible apply lenR_own) ; (focus (apply Own.upTo ; (focus assumption) ; (repeat (first | exact Gr.refl _ _ | assumption | with_reducible refine Gr.trans ?_ (Gr.boxN _ _ _ _ _) | refine Gr.setNew ?_ (by first | exact Nat.le_refl _ | (simp only [newB_length, List.length_set, List.length_append, List.length_singleton]; omega) | omega) _ | refine Gr.addN ?_ _ | refine Gr.newN ?_ _ _ _ | exact Gr.trans (by assumption) (by assumption) | refine Gr.trans ?_ (by assumption) | refine Gr.trans (by assumption) ?_)) ; (first | done | fail))))
    ))
    )
  all_goals (conv => whnf)
  all_goals (try dsimp only)
  refine call_one (Nodes_ok 7 (by omega)) (.cons (Looks.int _ _ _) .nil) rfl fun σ4 hg4 => ?_
  rw [ndI_7]
  repeat' (first
    | ((conv => whnf) <;> (first
    | (with_reducible refine and_same ?_)
    | (with_reducible refine Br.yes rfl ?_)
    ))
    )
  all_goals (conv => whnf)
  all_goals (try dsimp only)
  refine call_one (Nodes_ok 8 (by omega)) (.cons (Looks.int _ _ _) .nil) rfl fun σ5 hg5 => ?_
  rw [ndI_8]
  repeat' (first
    | ((conv => whnf) <;> (first
    | (with_reducible refine and_same ?_)
    | (with_reducible refine Br.yes rfl ?_)
    ))
    )
  all_goals (conv => whnf)
  all_goals (try dsimp only)
  refine call_one (Nodes_ok 50 (by omega)) (.cons (Looks.int _ _ _) .nil) rfl fun σ6 hg6 => ?_
  rw [ndI_50]
  repeat' (first
    | ((with_reducible refine Side.intro ?_) <;> (first
    | (simp only [List.append_nil, List.nil_append, List.map_nil]; first | exact List.nodup_nil | exact nodup_bid1 _ | exact nodup_bid2 (by assumption))
    | ((first | refine fresh_tup ?_ | skip); (repeat (first | exact fresh_bk _ |  exact FreshA.sl _ _ FreshA_bs | exact FreshA.sl _ _ FreshA_is | exact FreshA.nils | exact FreshA.nilp | exact FreshA.int _ _ | exact FreshA.bool _ | exact FreshA.str _ | exact fresh_nil | refine fresh_cons ?_ ?_ | with_reducible refine fresh_aggR ?_ | with_reducible refine fresh_agg ?_ | with_reducible exact fresh_nilA | with_reducible refine fresh_consA ?_ ?_)); done)
    ))
    | ((conv => whnf) <;> (first
    | (with_reducible refine and_same ?_)
    | (with_reducible refine and_side ?_ ?_)
    | (with_reducible refine Br.yes rfl ?_)
    | (with_reducible refine NOut.lit ?_)
    ))
    )
  all_goals (conv => whnf)
  all_goals (try dsimp only)
  exact ret_bool rfl
theorem small_call {σ : AH} {Q : AV → AH → Prop} (h : ∀ σ', Gr σ σ' none → Q (.bool true) σ') : CallS Try.prog F.joistlaw14_small [] σ Q := call_one small_ok .nil rfl h
theorem Looks.isv (σ : AH) (s : List Int) (fr : Bool) : Looks σ (.sl 1 (V.is s) fr) (.sl 1 (V.is s) false) := by
  refine .same ?_
  simp [derefV, derefC, AV.flat, untag, untagLL_is]
theorem frG_len : ∀ (ks : List Int) (p i : Int) (out : List (Int × Int × Int)), ∀ r, frG ks p i out = some r → r.length ≤ out.length + ks.length
  | [], p, i, out, r, h => by cases h; simp
  | k :: ks, p, i, out, r, h => by
    simp only [frG] at h
    split at h
    · have := frG_len ks k (i + 1) _ r h
      have h2 := frStep_length (i := i) (k := k) (p := p) (out := out)
      simp only [List.length_cons]
      omega
    · cases h
theorem frL_len (ks : List Int) : (frL ks).length ≤ 64 := by
  unfold frL frR
  split
  · rename_i h
    cases hr : frG ks 8 0 [] with
    | none => simp
    | some r =>
      have := frG_len ks 8 0 [] r hr
      simp only [List.length_nil, Option.getD_some] at this ⊢
      omega
  · simp
theorem all2 {x y : AV} {p : AV → Prop} (hx : p x) (hy : p y) : ∀ (j : Nat) (a : AV), [x, y][j]? = some a → p a := by
  intro j a hj
  match j, hj with
  | 0, hj => simp at hj; subst hj; exact hx
  | 1, hj => simp at hj; subst hj; exact hy
theorem disj2 {x y : AV} (h1 : x.bid = none ∨ x.bid ≠ y.bid) :
    ∀ (j k : Nat) (a b : AV), [x, y][j]? = some a → [x, y][k]? = some b → j ≠ k → a.bid = none ∨ a.bid ≠ b.bid := by
  intro j k a b hj hk hjk
  match j, k, hj, hk with
  | 0, 0, _, _ => omega
  | 1, 1, _, _ => omega
  | 0, 1, hj, hk => simp at hj hk; subst hj; subst hk; exact h1
  | 1, 0, hj, hk => simp at hj hk; subst hj; subst hk; exact disj_symm h1
theorem copied (σ : AH) (l : List Int) : Own (List.set (newB σ 1 [] true) σ.length { sz := 1, els := List.take 0 [] ++ is l, gen := 0 + 1, wr := true, pure := true }) 1 (.rsl σ.length (0 + 1) 0 (0 + (is l).length) none) (is l) :=
  .inr ⟨σ.length, 1, [], by simp only [Nat.zero_add], by
    rw [List.append_nil]
    exact get_set get_new⟩
theorem TreeExtents_ok (ks : List Int) (pages : Int) (l : List (Int × Int × Int)) (n : Int) (hk : ks.length ≤ 1048576) (hl : l.length ≤ 1048576) (hn : n ≤ 9223372036854775807) : AOKn Try.prog F.joistlaw14_TreeExtents [.sl 1 (is ks) false, .int .i64 pages, .sl 3 (bk l) false, .int .i64 n] fun y => y = .bool true := by
  have hkl := is_length ks
  have hll := bk_length l
  refine AOKn.by_steps mixed fc_joistlaw14_TreeExtents_ok (by simp [fc_joistlaw14_TreeExtents]) ?_
  skip
  all_goals (conv => whnf)
  all_goals (try dsimp only)
  refine small_call fun σ1 hg1 => ?_
  repeat' (first
    | ((with_reducible refine Side.intro ?_) <;> (first
    | omega
    ))
    | ((conv => whnf) <;> (first
    | (with_reducible refine and_side ?_ ?_)
    | ((with_reducible apply appendR_lit) ; (focus (first
    | ((repeat (first
    | exact get_new
    )); done)
    )) ; (focus (first | rfl | assumption)) ; (focus (first | rfl | assumption)) ; (focus rfl) ; (focus rfl) ; (focus rfl) ; (focus (first | exact Nat.zero_le _ | omega | (simp; done) | (simp; omega))) ; (try dsimp only))
    | (with_reducible refine AppC.frz ?_)
    | (with_reducible refine rowsR_sl ?_)
    ))
    )
  all_goals (conv => whnf)
  all_goals (try dsimp only)
  have hin := copied σ1 ks
  refine call_sl1 (From_ok ks (by omega)) (.cons (Looks.ownis hin) .nil) rfl fun σ2 x hg2 hx hnx => ?_
  replace hin := hin.keepN hg2
  skip
  all_goals (conv => whnf)
  all_goals (try dsimp only)
  refine call_sl1 (RFrom_ok ks (by omega)) (.cons (Looks.isv _ _ _) .nil) rfl fun σ3 y hg3 hy hny => ?_
  replace hin := hin.keepN hg3
  replace hx := hx.keepN hg3
  have hfl : (frL ks).length ≤ 64 := frL_len ks
  skip
  all_goals (conv => whnf)
  all_goals (try dsimp only)
  refine call_one (Same14_ok (frL ks) (frL ks) (by omega) (by omega)) (.cons (Looks.ownbk hx) (.cons (Looks.ownbk hy) .nil)) rfl fun σ4 hg4 => ?_
  replace hin := hin.keepN hg4
  rw [decide_eq_true rfl]
  repeat' (first
    | ((conv => whnf) <;> (first
    | (with_reducible refine Br.yes rfl ?_)
    ))
    )
  all_goals (conv => whnf)
  all_goals (try dsimp only)
  all_goals first
    | (refine Same_call ks ks (by omega) (by omega) (Looks.ownis hin) (Looks.isv _ _ _) fun σ5 hg5 => ?_)
    | (exfalso; exact absurd rfl ‹¬ _›)
  rw [decide_eq_true rfl]
  skip
  all_goals (conv => whnf)
  all_goals (try dsimp only)
  refine call_one (Right_ok pages l (by omega)) (.cons (Looks.int _ _ _) (.cons (Looks.bk _ _ _) .nil)) rfl fun σ6 hg6 => ?_
  skip
  all_goals (conv => whnf)
  all_goals (try dsimp only)
  refine call_one (RRight14_ok pages l (by omega)) (.cons (Looks.int _ _ _) (.cons (Looks.bk _ _ _) .nil)) rfl fun σ7 hg7 => ?_
  repeat' (first
    | ((conv => whnf) <;> (first
    | (with_reducible refine Br.yes rfl ?_)
    ))
    )
  all_goals (conv => whnf)
  all_goals (try dsimp only)
  all_goals first
    | (refine call_one (Nodes_ok n hn) (.cons (Looks.int _ _ _) .nil) rfl fun σ8 hg8 => ?_)
    | (exfalso; exact absurd rfl ‹¬ _›)
  skip
  all_goals (conv => whnf)
  all_goals (try dsimp only)
  refine call_one (RNodes_ok n hn) (.cons (Looks.int _ _ _) .nil) rfl fun σ9 hg9 => ?_
  repeat' (first
    | ((with_reducible refine Side.intro ?_) <;> (first
    | (simp only [List.append_nil, List.nil_append, List.map_nil]; first | exact List.nodup_nil | exact nodup_bid1 _ | exact nodup_bid2 (by assumption))
    | ((first | refine fresh_tup ?_ | skip); (repeat (first | exact fresh_bk _ |  exact FreshA.sl _ _ FreshA_bs | exact FreshA.sl _ _ FreshA_is | exact FreshA.nils | exact FreshA.nilp | exact FreshA.int _ _ | exact FreshA.bool _ | exact FreshA.str _ | exact fresh_nil | refine fresh_cons ?_ ?_ | with_reducible refine fresh_aggR ?_ | with_reducible refine fresh_agg ?_ | with_reducible exact fresh_nilA | with_reducible refine fresh_consA ?_ ?_)); done)
    ))
    | ((conv => whnf) <;> (first
    | (with_reducible refine and_same ?_)
    | (with_reducible refine and_side ?_ ?_)
    | (with_reducible refine Br.yes rfl ?_)
    | (with_reducible refine NOut.lit ?_)
    ))
    )
  all_goals (conv => whnf)
  all_goals (try dsimp only)
  all_goals first
    | exact ret_bool rfl
    | (exfalso; exact absurd rfl ‹¬ _›)
theorem TreeWrites_ok (pages room : Int) (l : List (Int × Int × Int)) (hl : l.length ≤ 1048576) : AOKn Try.prog F.joistlaw14_TreeWrites [.int .i64 pages, .int .i64 room, .sl 3 (bk l) false] fun y => y = .bool true := by
  have hll := bk_length l
  refine AOKn.by_steps mixed fc_joistlaw14_TreeWrites_ok (by simp [fc_joistlaw14_TreeWrites]) ?_
  skip
  all_goals (conv => whnf)
  all_goals (try dsimp only)
  refine small_call fun σ1 hg1 => ?_
  by_cases h300 : 300 < l.length
  · repeat' (first
      | ((with_reducible refine Side.intro ?_) <;> (first
      | (simp only [List.append_nil, List.nil_append, List.map_nil]; first | exact List.nodup_nil | exact nodup_bid1 _ | exact nodup_bid2 (by assumption))
      | ((first | refine fresh_tup ?_ | skip); (repeat (first | exact fresh_bk _ |  exact FreshA.sl _ _ FreshA_bs | exact FreshA.sl _ _ FreshA_is | exact FreshA.nils | exact FreshA.nilp | exact FreshA.int _ _ | exact FreshA.bool _ | exact FreshA.str _ | exact fresh_nil | refine fresh_cons ?_ ?_ | with_reducible refine fresh_aggR ?_ | with_reducible refine fresh_agg ?_ | with_reducible exact fresh_nilA | with_reducible refine fresh_consA ?_ ?_)); done)
      ))
      | ((conv => whnf) <;> (first
      | (with_reducible refine and_same ?_)
      | (with_reducible refine and_side ?_ ?_)
      | ((with_reducible apply Br.yes) ; (focus omega))
      | (with_reducible refine NOut.lit ?_)
      | (with_reducible refine lenR_sl ?_)
      ))
      )
    all_goals (conv => whnf)
    all_goals (try dsimp only)
    exact ret_bool rfl
  · repeat' (first
      | ((conv => whnf) <;> (first
      | (with_reducible refine and_same ?_)
      | ((with_reducible apply Br.no) ; (focus omega))
      | (with_reducible refine lenR_sl ?_)
      ))
      )
    all_goals (conv => whnf)
    all_goals (try dsimp only)
    refine call_sl1 (Write_ok pages room l (by omega)) (.cons (Looks.int _ _ _) (.cons (Looks.int _ _ _) (.cons (Looks.bk _ _ _) .nil))) rfl fun σ2 x hg2 hx hnx => ?_
    skip
    all_goals (conv => whnf)
    all_goals (try dsimp only)
    refine call_sl1 (RWrite_ok pages room l (by omega)) (.cons (Looks.int _ _ _) (.cons (Looks.int _ _ _) (.cons (Looks.bk _ _ _) .nil))) rfl fun σ3 y hg3 hy hny => ?_
    replace hx := hx.keepN hg3
    obtain ⟨o1, o2, o3⟩ := hx.one
    have hself : wrL pages room l = wrL pages room l := rfl
    have hse : wrE pages room l = wrE pages room l := rfl
    generalize wrL pages room l = W at *
    generalize wrE pages room l = We at *
    repeat' (first
      | ((with_reducible refine Side.intro ?_) <;> (first
      | omega
      | exact Nat.le_of_ble_eq_true rfl
      | exact rfl
      ))
      | ((conv => whnf) <;> (first
      | (with_reducible refine and_side ?_ ?_)
      | (with_reducible refine Br.yes rfl ?_)
      | ((with_reducible apply rowsR_own) ; (focus assumption))
      | ((with_reducible apply bytesR_intro) ; (focus (first | rfl | (simp only [bs_take, bs_drop, bs_append]; rfl))))
      ))
      )
    all_goals (conv => whnf)
    all_goals (try dsimp only)
    rw [o1]
    refine Owned_own (newB _ 1 (List.map (fun x => [x]) [x, .nils]) _) [x, .nils] _ 0 _ true false get_new (all2 ⟨_, hx.keepN (by (repeat (first
          | exact Gr.refl _ _
          | refine Gr.addN ?_ _
          )))⟩ ⟨[], Own.nil _ _⟩) (disj2 (disj_symm (.inl rfl))) (all2 (not_new hx) (by simp [AV.bid])) (by simp) _ ?_
    intro H7 hE
    repeat' (first
      | ((with_reducible refine Side.intro ?_) <;> (first
      | (simp only [List.append_nil, List.nil_append, List.map_nil]; first | exact List.nodup_nil | exact nodup_bid1 _ | exact nodup_bid2 (by assumption))
      | ((first | refine fresh_tup ?_ | skip); (repeat (first | exact fresh_bk _ |  exact FreshA.sl _ _ FreshA_bs | exact FreshA.sl _ _ FreshA_is | exact FreshA.nils | exact FreshA.nilp | exact FreshA.int _ _ | exact FreshA.bool _ | exact FreshA.str _ | exact fresh_nil | refine fresh_cons ?_ ?_ | with_reducible refine fresh_aggR ?_ | with_reducible refine fresh_agg ?_ | with_reducible exact fresh_nilA | with_reducible refine fresh_consA ?_ ?_)); done)
      ))
      | ((conv => whnf) <;> (first
      | (with_reducible refine and_same ?_)
      | (with_reducible refine and_side ?_ ?_)
      | (with_reducible refine Br.yes rfl ?_)
      | (with_reducible refine NOut.lit ?_)
      ))
      )
    all_goals (conv => whnf)
    all_goals (try dsimp only)
    all_goals first
      | exact ret_bool rfl
      | (exfalso; exact absurd rfl ‹¬ _›)
theorem TreeReads_ok (pages : Int) (b : List UInt8) (page : Int) (hb : b.length ≤ 1048576) (hpg : -9223372036854775808 ≤ page ∧ page ≤ 9223372036854775807) : AOKn Try.prog F.joistlaw14_TreeReads [.int .i64 pages, .sl 1 (bs b) false, .int .i64 page] fun y => y = .bool true := by
  have hbl := bs_length b
  refine AOKn.by_steps mixed fc_joistlaw14_TreeReads_ok (by simp [fc_joistlaw14_TreeReads]) ?_
  skip
  all_goals (conv => whnf)
  all_goals (try dsimp only)
  refine small_call fun σ1 hg1 => ?_
  by_cases h8 : 8192 < b.length
  · repeat' (first
      | ((with_reducible refine Side.intro ?_) <;> (first
      | (simp only [List.append_nil, List.nil_append, List.map_nil]; first | exact List.nodup_nil | exact nodup_bid1 _ | exact nodup_bid2 (by assumption))
      | ((first | refine fresh_tup ?_ | skip); (repeat (first | exact fresh_bk _ |  exact FreshA.sl _ _ FreshA_bs | exact FreshA.sl _ _ FreshA_is | exact FreshA.nils | exact FreshA.nilp | exact FreshA.int _ _ | exact FreshA.bool _ | exact FreshA.str _ | exact fresh_nil | refine fresh_cons ?_ ?_ | with_reducible refine fresh_aggR ?_ | with_reducible refine fresh_agg ?_ | with_reducible exact fresh_nilA | with_reducible refine fresh_consA ?_ ?_)); done)
      ))
      | ((conv => whnf) <;> (first
      | (with_reducible refine and_same ?_)
      | (with_reducible refine and_side ?_ ?_)
      | ((with_reducible apply Br.yes) ; (focus omega))
      | (with_reducible refine NOut.lit ?_)
      | (with_reducible refine lenR_sl ?_)
      ))
      )
    all_goals (conv => whnf)
    all_goals (try dsimp only)
    exact ret_bool rfl
  · repeat' (first
      | ((conv => whnf) <;> (first
      | (with_reducible refine and_same ?_)
      | ((with_reducible apply Br.no) ; (focus omega))
      | (with_reducible refine lenR_sl ?_)
      ))
      )
    all_goals (conv => whnf)
    all_goals (try dsimp only)
    refine Lent_val _ b false (by omega) _ ?_
    have hblk : (σ1 ++ [({ sz := 1, els := bs (b ++ [77]), gen := 0, wr := true, pure := true } : Blk)])[σ1.length]? = some { sz := 1, els := bs (b ++ [77]), gen := 0, wr := true, pure := true } := get_new
    have hin : Own (σ1 ++ [({ sz := 1, els := bs (b ++ [77]), gen := 0, wr := true, pure := true } : Blk)]) 1 (.rsl σ1.length 0 0 b.length none) (bs b) := .mk' (sp := bs [77]) hblk hbl.symm (by rw [bs_append])
    generalize (σ1 ++ [({ sz := 1, els := bs (b ++ [77]), gen := 0, wr := true, pure := true } : Blk)]) = H at *
    skip
    all_goals (conv => whnf)
    all_goals (try dsimp only)
    refine call_sl1 (Read_ok pages b (by omega)) (.cons (Looks.int _ _ _) (.cons (Looks.ownbs hin) .nil)) rfl fun σ2 x hg2 hx hnx => ?_
    replace hin := hin.keepN hg2
    replace hblk := hg2.2 σ1.length _ (by (first
          | ((repeat (first
          | assumption
          )); done)
          )) (by simp)
    skip
    all_goals (conv => whnf)
    all_goals (try dsimp only)
    refine call_two (Find_ok pages b page (by omega) hpg) (.cons (Looks.int _ _ _) (.cons (Looks.ownbs hin) (.cons (Looks.int _ _ _) .nil))) rfl rfl fun σ3 hg3 => ?_
    replace hx := hx.keepN hg3
    replace hblk := hg3.2 σ1.length _ (by (first
          | ((repeat (first
          | assumption
          )); done)
          )) (by simp)
    have hl3 := (List.getElem?_eq_some_iff.1 hblk).1
    unfold exV
    have hself : ∀ a : Int, a = a := fun _ => rfl
    have hrl : (rdL pages b).length ≤ 7 * (b.length / 128) := by
      unfold rdL
      split
      · exact rdK_len _ _
      · simp
    repeat' (first
      | ((with_reducible refine Side.intro ?_) <;> (first
      | exact Nat.le_of_ble_eq_true rfl
      | exact rfl
      ))
      | ((conv => whnf) <;> (first
      | (with_reducible refine and_same ?_)
      | (with_reducible refine and_side ?_ ?_)
      | ((with_reducible apply blkAt_step) ; (focus (first
      | ((repeat (first
      | exact get_new
      )); done)
      )) ; (focus (first | rfl | assumption | omega)) ; (focus (first | rfl | assumption)) ; (try dsimp only))
      ))
      )
    all_goals (conv => whnf)
    all_goals (try dsimp only)
    refine Kept_val _ b σ1.length 0 [] false (by omega) ?_ _ ?_
    · exact get_set_ne (by omega) (get_old hblk)
    skip
    all_goals (conv => whnf)
    all_goals (try dsimp only)
    refine call_sl1 (RRead_ok pages b (by omega)) (.cons (Looks.int _ _ _) (.cons (Looks.bs _ _ _) .nil)) rfl fun σ4 y hg4 hy hny => ?_
    have b3 := hg4.2 σ3.length _ (get_set get_new) (by simp)
    have hx4 := Own.keepN (Gr.trans (Gr.setNew (Gr.newN (Gr.refl _ _) _ _ _) (Nat.le_refl _) _) hg4) hx
    have hl4 := (List.getElem?_eq_some_iff.1 b3).1
    skip
    all_goals (conv => whnf)
    all_goals (try dsimp only)
    refine call_two (RFind_ok pages b page (by omega) hpg) (.cons (Looks.int _ _ _) (.cons (Looks.bs _ _ _) (.cons (Looks.int _ _ _) .nil))) rfl rfl fun σ5 hg5 => ?_
    replace b3 := hg5.2 σ3.length _ (by (first
          | ((repeat (first
          | assumption
          )); done)
          )) (by simp)
    replace hx4 := hx4.keepN hg5
    replace hy := hy.keepN hg5
    have hl5 := (List.getElem?_eq_some_iff.1 b3).1
    unfold exV
    generalize fdE pages b page = E at *
    repeat' (first
      | ((with_reducible refine Side.intro ?_) <;> (first
      | exact Nat.le_of_ble_eq_true rfl
      | exact rfl
      ))
      | ((conv => whnf) <;> (first
      | (with_reducible refine and_same ?_)
      | (with_reducible refine and_side ?_ ?_)
      | ((with_reducible apply blkAt_step) ; (focus (first
      | ((repeat (first
      | exact get_new
      )); done)
      )) ; (focus (first | rfl | assumption | omega)) ; (focus (first | rfl | assumption)) ; (try dsimp only))
      ))
      )
    all_goals (conv => whnf)
    all_goals (try dsimp only)
    refine call_one (Same14_ok (rdL pages b) (rdL pages b) (by omega) (by omega)) (.cons (Looks.ownbk (Own.keepN (by (repeat (first
          | exact Gr.refl _ _
          | refine Gr.setNew ?_ (by first | exact Nat.le_refl _ | (simp only [newB_length, List.length_set, List.length_append, List.length_singleton]; omega) | omega) _
          | refine Gr.addN ?_ _
          ))) hx4)) (.cons (Looks.ownbk (Own.keepN (by (repeat (first
          | exact Gr.refl _ _
          | refine Gr.setNew ?_ (by first | exact Nat.le_refl _ | (simp only [newB_length, List.length_set, List.length_append, List.length_singleton]; omega) | omega) _
          | refine Gr.addN ?_ _
          ))) hy)) .nil)) rfl fun σ6 hg6 => ?_
    rw [decide_eq_true rfl]
    have b4 := hg6.2 σ3.length _ (get_set_ne (by omega) (get_old b3)) (by simp)
    have b5 := hg6.2 σ5.length _ (get_set get_new) (by simp)
    repeat' (first
      | ((with_reducible refine Side.intro ?_) <;> (first
      | exact Nat.le_of_ble_eq_true rfl
      | (simp only [List.append_nil, List.nil_append, List.map_nil]; first | exact List.nodup_nil | exact nodup_bid1 _ | exact nodup_bid2 (by assumption))
      | ((first | refine fresh_tup ?_ | skip); (repeat (first | exact fresh_bk _ |  exact FreshA.sl _ _ FreshA_bs | exact FreshA.sl _ _ FreshA_is | exact FreshA.nils | exact FreshA.nilp | exact FreshA.int _ _ | exact FreshA.bool _ | exact FreshA.str _ | exact fresh_nil | refine fresh_cons ?_ ?_ | with_reducible refine fresh_aggR ?_ | with_reducible refine fresh_agg ?_ | with_reducible exact fresh_nilA | with_reducible refine fresh_consA ?_ ?_)); done)
      ))
      | ((conv => whnf) <;> (first
      | (with_reducible refine and_side ?_ ?_)
      | (with_reducible refine Br.yes rfl ?_)
      | ((with_reducible apply Br.yes) ; (focus ((with_reducible refine And.intro ?_ ?_) ; (repeat' (first | with_reducible rfl | exact True.intro | with_reducible refine And.intro ?_ ?_ | omega | assumption)) ; (first | done | fail))))
      | ((with_reducible apply blkAt_step) ; (focus (first
      | ((repeat (first
      | assumption
      )); done)
      )) ; (focus (first | rfl | assumption | omega)) ; (focus (first | rfl | assumption)) ; (try dsimp only))
      | (with_reducible refine NOut.lit ?_)
      ))
      )
    all_goals (conv => whnf)
    all_goals (try dsimp only)
    all_goals exact ret_bool rfl
end Go.Proofs.Ythalikgchafjiaa

namespace Go.Proofs.Ythalikgchafjiaa
open Go Go.Proofs.Ythalikgchafjiaa.V
/-! What the laws of trees ask for: plain. -/
def tl1 (l : List (Int × Int × Int)) (a : Int) (f : Bool) : Option (Int × Bool) :=
  match l with
  | [] => some (a, f)
  | x :: l => if x.1 = a ∧ 1 ≤ x.2.1 ∧ 0 ≤ x.2.2 ∧ x.2.2 ≤ 2 ∧ (x.2.2 = 1 → x.2.1 = 1) ∧ (f = true → x.2.2 ≠ 0) then tl1 l (a + x.2.1) (decide (x.2.2 = 0)) else none
theorem tl1_append : ∀ (l m : List (Int × Int × Int)) (a : Int) (f : Bool), tl1 (l ++ m) a f = (tl1 l a f).bind fun q => tl1 m q.1 q.2
  | [], m, a, f => rfl
  | x :: l, m, a, f => by
    rw [List.cons_append, tl1, tl1]
    split
    · exact tl1_append l m _ _
    · rfl
theorem tl1_le : ∀ {l : List (Int × Int × Int)} {a : Int} {f : Bool} {q : Int × Bool}, tl1 l a f = some q → a ≤ q.1
  | [], a, f, q, h => by cases h; exact Int.le_refl _
  | x :: l, a, f, q, h => by
    rw [tl1] at h
    split at h
    · have := tl1_le h
      omega
    · cases h
theorem tl1_rt {pg : Int} : ∀ {l : List (Int × Int × Int)} {a : Int} {f g : Bool}, tl1 l a f = some (pg, g) → rtG pg l a f = true
  | [], a, f, g, h => by cases h; simp [rtG]
  | x :: l, a, f, g, h => by
    rw [tl1] at h
    split at h
    · rename_i hx
      have h1 := tl1_rt h
      have h2 := tl1_le h
      dsimp only at h2
      rw [rtG, h1, Bool.and_true, rtOk, decide_eq_true_eq]
      exact ⟨hx.1, hx.2.1, by omega, hx.2.2.1, hx.2.2.2.1, hx.2.2.2.2.1, hx.2.2.2.2.2⟩
    · cases h
theorem frG_right : ∀ (ks : List Int) (p : Int) (i : Nat) (out r : List (Int × Int × Int)), frG ks p i out = some r → tl1 out 0 false = some ((i : Int), decide (p = -1)) → ((p = 6 ∨ p = 7) → ∃ o z, out = o ++ [z] ∧ z.2.2 = 2) → (p = -1 → out ≠ []) → ∃ g, tl1 r 0 false = some (((i + ks.length : Nat) : Int), g)
  | [], p, i, out, r, h, ht, h6, h1 => by cases h; exact ⟨_, ht⟩
  | k :: ks, p, i, out, r, h, ht, h6, h1 => by
    rw [frG] at h
    split at h
    · rename_i hok
      simp only [frOk, decide_eq_true_eq] at hok
      have hlen : i + (k :: ks).length = (i + 1) + ks.length := by simp only [List.length_cons]; omega
      rw [hlen]
      have h' : frG ks k ((i + 1 : Nat) : Int) (frStep (i : Int) k p out) = some r := h
      cases hm : frMore k p
      · have hst : frStep (i : Int) k p out = out ++ [((i : Int), 1, useI k)] := by rw [frStep, hm]; rfl
        simp only [frMore, decide_eq_false_iff_not] at hm
        rw [hst] at h'
        have hu : 0 ≤ useI k ∧ useI k ≤ 2 ∧ (useI k = 0 ↔ k = -1) ∧ ((k = 6 ∨ k = 7) → useI k = 2) := by
          unfold useI
          split
          · omega
          · split <;> omega
        refine frG_right ks k (i + 1) _ r h' ?_ (fun q => ⟨out, _, rfl, hu.2.2.2 q⟩) (fun _ => by simp)
        rw [tl1_append, ht, Option.bind_some, tl1]
        dsimp only
        rw [if_pos ⟨rfl, by omega, hu.1, hu.2.1, fun _ => rfl, fun q => by have := of_decide_eq_true q; omega⟩, tl1]
        rw [show decide (useI k = 0) = decide (k = -1) from by simp only [hu.2.2.1]]
        rfl
      · have hm2 := hm
        simp only [frMore, decide_eq_true_eq] at hm2
        have hlast : ∃ o z, out = o ++ [z] := by
          rcases hm2 with rfl | ⟨rfl, rfl⟩
          · obtain ⟨o, z, e, _⟩ := h6 (hok.2.2 rfl)
            exact ⟨o, z, e⟩
          · have := h1 rfl
            exact ⟨out.dropLast, out.getLast this, (List.dropLast_concat_getLast this).symm⟩
        obtain ⟨o, z, rfl⟩ := hlast
        have hb : bump (o ++ [z]) = o ++ [(z.1, z.2.1 + 1, z.2.2)] := by
          have hg : (o ++ [z])[(o ++ [z]).length - 1]? = some z := by simp
          unfold bump
          rw [hg]
          simp
        have hst : frStep (i : Int) k p (o ++ [z]) = o ++ [(z.1, z.2.1 + 1, z.2.2)] := by rw [frStep, hm]; exact hb
        rw [hst] at h'
        rw [tl1_append] at ht
        cases hto : tl1 o 0 false with
        | none => rw [hto] at ht; cases ht
        | some q =>
          rw [hto, Option.bind_some, tl1] at ht
          split at ht
          · rename_i hz
            rw [tl1] at ht
            simp only [Option.some.injEq, Prod.mk.injEq] at ht
            have hz2 : z.2.2 = 2 ∧ k = 7 ∨ z.2.2 = 0 ∧ k = -1 := by
              rcases hm2 with rfl | ⟨rfl, rfl⟩
              · left
                obtain ⟨o', z', e, hz'⟩ := h6 (hok.2.2 rfl)
                have := List.append_inj_right' e rfl
                cases this
                exact ⟨hz', rfl⟩
              · right
                exact ⟨by have := ht.2; simpa using this, rfl⟩
            refine frG_right ks k (i + 1) _ r h' ?_ (fun q => ⟨o, _, rfl, ?_⟩) (fun _ => by simp)
            · rw [tl1_append, hto, Option.bind_some, tl1]
              dsimp only
              rw [if_pos ⟨hz.1, by omega, hz.2.2.1, hz.2.2.2.1, fun e => by omega, hz.2.2.2.2.2⟩, tl1]
              have e1 : q.1 + (z.2.1 + 1) = ((i + 1 : Nat) : Int) := by omega
              have e2 : decide (z.2.2 = 0) = decide (k = -1) := by
                rcases hz2 with ⟨a, b⟩ | ⟨a, b⟩ <;> rw [a, b] <;> decide
              rw [e1, e2]
            · dsimp only
              rcases hz2 with ⟨a, b⟩ | ⟨a, b⟩
              · exact a
              · omega
          · cases ht
    · cases h
theorem fr_right {ks : List Int} (h : frB ks = true) : rt ks.length (frL ks) = true := by
  unfold frB at h
  obtain ⟨r, hr⟩ := Option.isSome_iff_exists.1 h
  have hL : frL ks = r := by rw [frL, hr]; rfl
  rw [hL]
  unfold frR at hr
  split at hr
  · rename_i h64
    obtain ⟨g, hg⟩ := frG_right ks 8 0 [] r hr rfl (by omega) (by omega)
    rw [Nat.zero_add] at hg
    rw [rt, tl1_rt hg, Bool.and_true, decide_eq_true_eq]
    omega
  · cases hr
theorem ndT_step : ∀ (d m : Nat), m ≤ 7 ^ d → ndT (m + 1) ≤ ndT m + d + 1
  | 0, m, h => by
    have : m ≤ 1 := by simpa using h
    by_cases h0 : m = 0
    · subst h0; rw [ndT_one (by omega)]; omega
    · have : m = 1 := by omega
      subst this
      rw [ndT_more (by omega), show hol (1 + 1) = 1 from rfl, ndT_one (n := 1) (by omega)]
      omega
  | d + 1, m, h => by
    by_cases h1 : m ≤ 1
    · by_cases h0 : m = 0
      · subst h0; rw [ndT_one (by omega)]; omega
      · have : m = 1 := by omega
        subst this
        rw [ndT_more (by omega), show hol (1 + 1) = 1 from rfl, ndT_one (n := 1) (by omega)]
        omega
    · rw [ndT_more (n := m + 1) (by omega), ndT_more (n := m) (by omega)]
      have hp : 7 ^ (d + 1) = 7 * 7 ^ d := by rw [Nat.pow_succ]; omega
      have hm : hol m ≤ 7 ^ d := by unfold hol; omega
      have h2 := ndT_step d (hol m) hm
      have h3 : hol (m + 1) = hol m ∨ hol (m + 1) = hol m + 1 := by unfold hol; omega
      rcases h3 with h3 | h3 <;> rw [h3] <;> omega
theorem ndN_step {n : Nat} (h : n ≤ 1099511627776) : ndN (n + 1) ≤ ndN n + 20 := by
  have h1 : hol1 n ≤ 7 ^ 14 := by
    have : (7 : Nat) ^ 14 = 678223072849 := by decide
    rw [this]
    unfold hol1 hol
    omega
  have h2 := ndT_step 14 (hol1 n) h1
  have h3 : hol1 (n + 1) = hol1 n ∨ hol1 (n + 1) = hol1 n + 1 := by unfold hol1 hol; omega
  unfold ndN
  rcases h3 with h3 | h3 <;> rw [h3] <;> omega
theorem ndN_pos (n : Nat) : 1 ≤ ndN n := by have := hol1_pos n; unfold ndN; omega
theorem ndI_step {n : Int} (h0 : 0 ≤ n) (h : n ≤ 1099511627776) : 1 ≤ ndI n ∧ ndI n ≤ ndI (n + 1) ∧ ndI (n + 1) ≤ ndI n + 20 := by
  have e1 : ndI n = (ndN n.toNat : Nat) := by rw [ndI, if_neg (by omega)]
  have e2 : ndI (n + 1) = (ndN (n.toNat + 1) : Nat) := by rw [ndI, if_neg (by omega)]; congr 2; omega
  have h1 := ndN_pos n.toNat
  have h2 := ndN_ge (a := n.toNat) (b := n.toNat + 1) (by omega)
  have h3 := ndN_step (n := n.toNat) (by omega)
  rw [e1, e2]
  omega
theorem wrE_counts {pages : Int} {l : List (Int × Int × Int)} (h : rt pages l = true) : wrE pages (ndI l.length) l = 0 ∧ wrE pages (ndI l.length - 1) l = 2 ∧ ndI l.length ≤ 13 := by
  obtain ⟨_, _, hl, _⟩ := rt_bd h
  have e1 : ndI l.length = (ndN l.length : Nat) := by rw [ndI, if_neg (by omega)]; rfl
  have e2 : ndI 64 = (ndN 64 : Nat) := by rw [ndI, if_neg (by omega)]; rfl
  have h2 := ndN_ge hl
  rw [ndN_64] at e2
  refine ⟨?_, ?_, by omega⟩
  · rw [wrE, if_pos h, if_neg (by omega)]
  · rw [wrE, if_pos h, if_pos (by omega)]
end Go.Proofs.Ythalikgchafjiaa

namespace Go.Proofs.Ythalikgchafjiaa
open Go Go.Proofs.Ythalikgchafjiaa.V
set_option maxRecDepth 20000
attribute [local irreducible] CallS AOK AOKn ALoop Side Ref.ok
/-! The law of trees: from the root down. -/
theorem lvP_three {leaf : Bool} {ps : List (Int × Int)} (h : ps.length ≤ 64) : (lvP leaf ps).length ≤ 3 := by
  have key : ∀ (leaf : Bool) (ps : List (Int × Int)), ps.length ≤ 7 → (lvP leaf ps).length = 1 := fun leaf ps h => by
    rw [lvP_one (by unfold hol1 hol; omega)]; rfl
  have key2 : ∀ (leaf : Bool) (ps : List (Int × Int)), ps.length ≤ 49 → (lvP leaf ps).length ≤ 2 := fun leaf ps h => by
    by_cases h1 : 1 < hol1 ps.length
    · rw [lvP_more h1, List.length_cons, key false (upP ps) (by rw [upP_length]; unfold hol1 hol; omega)]
      omega
    · rw [lvP_one h1]; simp
  by_cases h1 : 1 < hol1 ps.length
  · have := key2 false (upP ps) (by rw [upP_length]; unfold hol1 hol; omega)
    rw [lvP_more h1, List.length_cons]
    omega
  · rw [lvP_one h1]; simp
theorem all_get {s : List UInt8} (h : allOk s = true) (hl : s.length = 128) : (allR s).length = 16 ∧ ∀ i : Nat, i < 16 → (allR s)[i]? = some ((getV s (i : Int) : Nat) : Int) := by
  have e : allR s = vals s 16 := by rw [allR, if_pos h, hl]
  rw [e]
  refine ⟨by simp [vals], fun i hi => ?_⟩
  simp only [allOk, Bool.and_eq_true, List.all_eq_true] at h
  have hw : okW (wd s i) = true := h.2 i (List.mem_range.2 (by rw [hl]; omega))
  have hg : getOk s (i : Int) = true := by
    rw [getOk, Int.toNat_natCast, hw, Bool.and_true, inR, decide_eq_true_eq, hl]
    omega
  rw [getV, hg, if_pos rfl, Int.toNat_natCast]
  simp only [vals, List.getElem?_map]
  rw [List.getElem?_range hi]
  rfl
theorem stand_all {pages room page : Int} {l : List (Int × Int × Int)} {A rest : List Lv} {leaf : Bool} {ps : List (Int × Int)} {s0 : Nat} (hE : wrE pages room l = 0) (hR : wrR l = A ++ (leaf, ps) :: rest) (hc : Cut (prL l) page s0) :
    allOk (ndB (wrL pages room l) (wrN A + s0 / 7 ^ rest.length / 7)) = true := by
  obtain ⟨hRt, h1, h2⟩ := wrE_ok hE
  obtain ⟨hq1, hq2, hq3⟩ := wrR_ok hRt
  have hcut := at_cut hR hc
  generalize s0 / 7 ^ rest.length = s at *
  have hlt := hcut.lt
  have hh : hol1 ps.length = max 1 ((ps.length + 6) / 7) := rfl
  have hnR : wrN (wrR l) = wrN A + (hol1 ps.length + wrN rest) := by rw [hR, wrN_append]; rfl
  have hW : wrL pages room l = wrG (wrR l) 0 ++ List.replicate (128 * room.toNat - (wrG (wrR l) 0).length) 0 := by rw [wrL, if_pos hE]; rfl
  have hq := hq1 (leaf, ps) (by rw [hR]; simp)
  rw [hW, ndB_at hR hq1 (by omega) (by omega), nbB]
  obtain ⟨hm, _⟩ := ndW_may (leaf := leaf) (sh := ((wrN A + hol1 ps.length : Nat) : Int)) (ps := chk ps (s / 7)) (by omega) (by omega) (chk_len _ _) fun p hp => hq.bd p (chk_mem hp)
  rw [ofR, if_pos hm]
  exact (all_cat hm).1
theorem cut_bs (P : List UInt8) (sp : List (List AV)) {a n : Nat} (h : a + n ≤ P.length) : List.take n (List.drop a (bs P ++ sp)) = bs ((P.drop a).take n) := by
  have hl := bs_length P
  rw [List.drop_append_of_le_length (by omega), List.take_append_of_le_length (by rw [List.length_drop]; omega), bs_drop, bs_take]
theorem looks_cut {σ : AH} {id gen off len : Nat} {cap : Option Nat} {p : List UInt8} {sp : List (List AV)} (hb : σ[id]? = some { sz := 1, els := bs p ++ sp, gen := gen, wr := true, pure := true }) (h : off + len ≤ p.length) : Looks σ (.rsl id gen off len cap) (.sl 1 (bs ((p.drop off).take len)) false) := by
  have hl := bs_length p
  refine .same ?_
  have h2 : off + len ≤ (bs p ++ sp).length := by rw [List.length_append]; omega
  simp only [derefV, derefC, hb]
  rw [if_pos ⟨trivial, trivial, h2⟩, cut_bs p sp h, untagLL_bs]
theorem nthR_isw {w : List Int} {spr : List (List AV)} {j v : Int} {K : List AV → Prop} (h : w[j.toNat]? = some v) (hk : K [.int .i64 v]) : nthR (is w ++ spr) (0 + j.toNat) K :=
  nthR_intro (x := [.int .i64 v]) (by rw [Nat.zero_add, List.getElem?_append_left (by rw [is_length]; exact (List.getElem?_eq_some_iff.1 h).1)]; simp [is, h]) hk
theorem nthR_isw0 {w : List Int} {spr : List (List AV)} {j v : Int} {K : List AV → Prop} (h : w[j.toNat]? = some v) (hk : K [.int .i64 v]) : nthR (is w ++ spr) j.toNat K := by
  have := nthR_isw (spr := spr) h hk
  rwa [Nat.zero_add] at this
theorem rdB_nil (pages : Int) : rdB pages [] = false := by
  cases h : rdB pages []
  · rfl
  · obtain ⟨h1, _, _⟩ := rdB_wr h
    obtain ⟨_, h2, _⟩ := wrE_ok h1
    have := ndN_pos (rdL pages []).length
    simp only [List.length_nil, Nat.zero_div] at h2
    omega
attribute [local irreducible] gtV gtP gtN gtH rdK rdL rdB wrL
theorem TreeDown_ok (pages room : Int) (l : List (Int × Int × Int)) (page : Int) (hl : l.length ≤ 1048576) (hpg : -9223372036854775808 ≤ page ∧ page ≤ 9223372036854775807) : AOKn Try.prog F.joistlaw14_TreeDown [.int .i64 pages, .int .i64 room, .sl 3 (bk l) false, .int .i64 page] fun y => y = .bool true := by
  have hll := bk_length l
  refine AOKn.by_steps mixed fc_joistlaw14_TreeDown_ok (by simp [fc_joistlaw14_TreeDown]) ?_
  skip
  all_goals (conv => whnf)
  all_goals (try dsimp only)
  refine small_call fun σ1 hg1 => ?_
  by_cases h300 : 300 < l.length
  · repeat' (first
      | ((with_reducible refine Side.intro ?_) <;> (first
      | (simp only [List.append_nil, List.nil_append, List.map_nil]; first | exact List.nodup_nil | exact nodup_bid1 _ | exact nodup_bid2 (by assumption))
      | ((first | refine fresh_tup ?_ | skip); (repeat (first |  exact FreshA.sl _ _ FreshA_bs | exact FreshA.sl _ _ FreshA_is | exact FreshA.nils | exact FreshA.nilp | exact FreshA.int _ _ | exact FreshA.bool _ | exact FreshA.str _ | exact fresh_nil | refine fresh_cons ?_ ?_ | with_reducible refine fresh_aggR ?_ | with_reducible refine fresh_agg ?_ | with_reducible exact fresh_nilA | with_reducible refine fresh_consA ?_ ?_)); done)
      ))
      | ((conv => whnf) <;> (first
      | (with_reducible refine and_same ?_)
      | (with_reducible refine and_side ?_ ?_)
      | ((with_reducible apply Br.yes) ; (focus omega))
      | (with_reducible refine NOut.lit ?_)
      | (with_reducible refine lenR_sl ?_)
      ))
      )
    all_goals (conv => whnf)
    all_goals (try dsimp only)
    exact ret_bool rfl
  · repeat' (first
      | ((conv => whnf) <;> (first
      | (with_reducible refine and_same ?_)
      | ((with_reducible apply Br.no) ; (focus omega))
      | (with_reducible refine lenR_sl ?_)
      ))
      )
    all_goals (conv => whnf)
    all_goals (try dsimp only)
    refine call_sl1 (Write_ok pages room l (by omega)) (.cons (Looks.int _ _ _) (.cons (Looks.int _ _ _) (.cons (Looks.bk _ _ _) .nil))) rfl fun σ2 y hg2 hy hny => ?_
    by_cases hE : wrE pages room l = 0
    · obtain ⟨r1, r2⟩ := rd_wr hE
      have hWl := wrL_len hE
      obtain ⟨hRt, he1, he2⟩ := wrE_ok hE
      have hnp := ndN_pos l.length
      rw [hE]
      skip
      all_goals (conv => whnf)
      all_goals (try dsimp only)
      refine call_two (Find_ok pages (wrL pages room l) page (by omega) hpg) (.cons (Looks.int _ _ _) (.cons (Looks.ownbs hy) (.cons (Looks.int _ _ _) .nil))) rfl rfl fun σ3 hg3 => ?_
      replace hy := hy.keepN hg3
      by_cases hpp : page < 0 ∨ pages ≤ page
      · obtain ⟨f1, f2⟩ := fd_none (pages := pages) (b := wrL pages room l) (page := page) (by rw [r2]; exact rt_none hRt hpp)
        rw [f1, f2]
        unfold exV
        repeat' (first
          | ((with_reducible refine Side.intro ?_) <;> (first
          | exact Nat.le_of_ble_eq_true rfl
          | (simp only [List.append_nil, List.nil_append, List.map_nil]; first | exact List.nodup_nil | exact nodup_bid1 _ | exact nodup_bid2 (by assumption))
          | ((first | refine fresh_tup ?_ | skip); (repeat (first |  exact FreshA.sl _ _ FreshA_bs | exact FreshA.sl _ _ FreshA_is | exact FreshA.nils | exact FreshA.nilp | exact FreshA.int _ _ | exact FreshA.bool _ | exact FreshA.str _ | exact fresh_nil | refine fresh_cons ?_ ?_ | with_reducible refine fresh_aggR ?_ | with_reducible refine fresh_agg ?_ | with_reducible exact fresh_nilA | with_reducible refine fresh_consA ?_ ?_)); done)
          | exact rfl
          ))
          | ((conv => whnf) <;> (first
          | (with_reducible refine and_same ?_)
          | (with_reducible refine and_side ?_ ?_)
          | ((with_reducible apply Br.yes) ; (focus omega))
          | ((with_reducible apply Br.no) ; (focus omega))
          | (with_reducible refine Br.mk (fun _ => ?_) (fun _ => ?_))
          | ((with_reducible apply blkAt_step) ; (focus (first
          | ((repeat (first
          | exact get_new
          )); done)
          )) ; (focus (first | rfl | assumption | omega)) ; (focus (first | rfl | assumption)) ; (try dsimp only))
          | (with_reducible refine NOut.lit ?_)
          ))
          )
        all_goals (conv => whnf)
        all_goals (try dsimp only)
        all_goals first
          | exact ret_bool rfl
          | (exfalso; omega)
      · obtain ⟨s0, e, hs1, hcut, hfd, hin⟩ := rt_find (page := page) hRt (by omega) (by omega)
        obtain ⟨f1, f2⟩ := fd_some (pages := pages) (b := wrL pages room l) (page := page) (by rw [r2]; exact hfd)
        rw [f1, f2]
        unfold exV
        have hst : ∀ {A rest : List Lv} {leaf : Bool} {ps : List (Int × Int)}, wrR l = A ++ (leaf, ps) :: rest → Stand (wrL pages room l) (wrN A + s0 / 7 ^ rest.length / 7) (s0 / 7 ^ rest.length) leaf (if leaf then 0 else ((wrN A + hol1 ps.length : Nat) : Int)) ps page := fun hR => stand hE hR hcut
        have hal : ∀ {A rest : List Lv} {leaf : Bool} {ps : List (Int × Int)}, wrR l = A ++ (leaf, ps) :: rest → allOk (ndB (wrL pages room l) (wrN A + s0 / 7 ^ rest.length / 7)) = true := fun hR => stand_all hE hR hcut
        have hR3 : (wrR l).length ≤ 3 := by
          rw [wrR, List.length_reverse]
          exact lvP_three (by rw [show (prL l).length = l.length from by simp [prL]]; exact (rt_bd hRt).2.2.1)
        obtain ⟨q0, rest0, hR0⟩ : ∃ q0 rest0, wrR l = q0 :: rest0 := by
          cases h : wrR l with
          | nil =>
            have h2 := (lvP_len _ _ _ (rfl : lvP true (prL l) = _)).2
            have h3 : (wrR l).length = (lvP true (prL l)).length := by rw [wrR, List.length_reverse]
            rw [h] at h3
            simp only [List.length_nil] at h3
            omega
          | cons a r => exact ⟨a, r, rfl⟩
        obtain ⟨leaf0, ps0⟩ := q0
        have h00 : s0 / 7 ^ rest0.length / 7 = 0 := by
          have h7 := at_root hR0
          have := (at_cut (A := []) hR0 hcut).lt
          generalize s0 / 7 ^ rest0.length = s at *
          omega
        have hWbl : (bs (wrL pages room l)).length = 128 * room.toNat := by rw [bs_length, hWl]
        obtain ⟨idb, gb, spb, rfl, hbb⟩ := hy.ne (by intro q; rw [q] at hWbl; simp at hWbl; omega)
        rw [hWbl] at hy ⊢
        generalize wrL pages room l = W at *
        repeat' (first
          | ((with_reducible refine Side.intro ?_) <;> (first
          | exact Nat.le_of_ble_eq_true rfl
          | exact rfl
          ))
          | ((conv => whnf) <;> (first
          | (with_reducible refine and_same ?_)
          | (with_reducible refine and_side ?_ ?_)
          | ((with_reducible apply Br.no) ; (focus omega))
          | ((with_reducible apply blkAt_step) ; (focus (first
          | ((repeat (first
          | exact get_new
          )); done)
          )) ; (focus (first | rfl | assumption | omega)) ; (focus (first | rfl | assumption)) ; (try dsimp only))
          ))
          )
        all_goals (conv => whnf)
        all_goals (try dsimp only)
        refine loop_at (α := List Lv × Lv × List Lv × AH) (fun a => [(14, .int .i64 ((wrN a.1 + s0 / 7 ^ a.2.2.1.length / 7 : Nat) : Int)), (15, .int .i64 (a.1.length : Nat))]) (fun a => a.2.2.2) (fun a => wrR l = a.1 ++ a.2.1 :: a.2.2.1 ∧ Gr σ3 a.2.2.2 none ∧ ∃ p, a.2.2.2[σ3.length]? = some { sz := 3, els := [[.int .i64 e.1, .int .i64 e.2.1, .int .i64 e.2.2]], gen := 0, wr := true, pure := p }) (fun a => a.2.2.1.length) ([], (leaf0, ps0), rest0, _) ⟨hR0, ?_, ?_⟩ ?_ rfl ?_
        · exact Gr.setNew (Gr.newN (Gr.refl _ _) _ _ _) (Nat.le_refl _) _
        · exact ⟨_, get_set get_new⟩
        · dsimp only
          rw [h00]
          rfl
        rintro ⟨A, ⟨leaf, ps⟩, rest, σ4⟩ ⟨hR, hg4, p, c1⟩
        dsimp only at hR hg4 c1 ⊢
        have hS := hst hR
        have hAll := hal hR
        have hlf := at_leaf hR
        have hAl : A.length < 3 := by
          have := congrArg List.length hR
          rw [List.length_append, List.length_cons] at this
          omega
        generalize hk : wrN A + s0 / 7 ^ rest.length / 7 = k at *
        generalize hs : s0 / 7 ^ rest.length = s at *
        have hN := hS.node.n
        have hsl := hS.lt
        have hex := hS.ex
        have hhd := hS.node.hd
        have hc7 := chk_len ps (s / 7)
        have hb4 := hg4.2 _ _ hbb (by simp)
        have hnl := ndB_len (b := W) (k := k) (by omega)
        obtain ⟨w16, wget⟩ := all_get hAll hnl
        have hw0 : (allR (ndB W k))[(0 : Int).toNat]? = some ((gtH W k : Nat) : Int) := by
          have := wget 0 (by omega)
          unfold gtH
          exact this
        have hwp : ∀ (j : Nat) (q : Int × Int), j < 7 → (gtP W k (gtN W k))[j]? = some q → (allR (ndB W k))[(1 + 2 * (j : Int)).toNat]? = some q.1 ∧ (allR (ndB W k))[(2 + 2 * (j : Int)).toNat]? = some q.2 := fun j q hj hq => by
          have hjt : j < gtN W k := by have := (List.getElem?_eq_some_iff.1 hq).1; rwa [gtP_length] at this
          rw [gtP_get hjt] at hq
          cases hq
          rw [show (1 + 2 * (j : Int)).toNat = 1 + 2 * j from by omega, show (2 + 2 * (j : Int)).toNat = 2 + 2 * j from by omega, wget _ (by omega), wget _ (by omega)]
          exact ⟨by congr 1, by congr 1⟩
        have hwl := is_length (allR (ndB W k))
        have hWlen : W.length = 128 * room.toNat := hWl
        have hcutB : (W.drop (0 + (128 * (k : Int)).toNat)).take ((128 * ((k : Int) + 1)).toNat - (128 * (k : Int)).toNat) = ndB W k := by
          rw [show 0 + (128 * (k : Int)).toNat = 128 * k from by omega, show (128 * ((k : Int) + 1)).toNat - (128 * (k : Int)).toNat = 128 from by omega]
          unfold ndB
          rw [List.drop_take, show 128 * k + 128 - 128 * k = 128 from by omega]
        have hlk : ∀ cap, Looks σ4 (.rsl idb gb (0 + (128 * (k : Int)).toNat) ((128 * ((k : Int) + 1)).toNat - (128 * (k : Int)).toNat) cap) (.sl 1 (bs (ndB W k)) false) := fun cap => by
          have := looks_cut (cap := cap) hb4 (off := 0 + (128 * (k : Int)).toNat) (len := (128 * ((k : Int) + 1)).toNat - (128 * (k : Int)).toNat) (by omega)
          rwa [hcutB] at this
        repeat' (first
          | ((with_reducible refine Side.intro ?_) <;> (first
          | omega
          ))
          | ((conv => whnf) <;> (first
          | (with_reducible refine and_same ?_)
          | (with_reducible refine and_side ?_ ?_)
          | ((with_reducible apply Br.yes) ; (focus omega))
          | ((with_reducible apply Br.no) ; (focus omega))
          | ((with_reducible apply blkAt_step) ; (focus (first
          | ((repeat (first
          | assumption
          )); done)
          )) ; (focus (first | rfl | assumption | omega)) ; (focus (first | rfl | assumption)) ; (try dsimp only))
          | ((with_reducible apply lenR_own) ; (focus (apply Own.upTo ; (focus assumption) ; (repeat (first | exact Gr.refl _ _ | assumption | with_reducible refine Gr.trans ?_ (Gr.boxN _ _ _ _ _) | refine Gr.setNew ?_ (by first | exact Nat.le_refl _ | (simp only [newB_length, List.length_set, List.length_append, List.length_singleton]; omega) | omega) _ | refine Gr.addN ?_ _ | refine Gr.newN ?_ _ _ _ | exact Gr.trans (by assumption) (by assumption) | refine Gr.trans ?_ (by assumption) | refine Gr.trans (by assumption) ?_)) ; (first | done | fail))))
          | (with_reducible refine SliceW.of ?_)
          ))
          )
        all_goals (conv => whnf)
        all_goals (try dsimp only)
        refine All_call (ndB W k) (by omega) (hlk _) fun σ5 w hg5 hw hnw => ?_
        rw [hAll]
        have hgt := hS.cmp
        obtain ⟨pp, hp1, hp2⟩ := hS.at'
        have c1' := hg5.2 _ _ c1 (by simp)
        have hbb5 := hg5.2 _ _ hb4 (by simp)
        have hdv : gtH W k / 2 = gtN W k := by rw [hhd, hN]; split <;> omega
        have hHb : (0 : Int) ≤ ((gtH W k : Nat) : Int) ∧ ((gtH W k : Nat) : Int) ≤ 15 := by rw [hhd]; split <;> omega
        generalize allR (ndB W k) = ws at *
        repeat' (first
          | ((with_reducible refine Side.intro ?_) <;> (first
          | omega
          ))
          | ((conv => whnf) <;> (first
          | (with_reducible refine and_same ?_)
          | (with_reducible refine and_side ?_ ?_)
          | ((with_reducible apply Br.yes) ; (focus omega))
          | ((with_reducible apply Br.no) ; (focus omega))
          | ((with_reducible apply blkAt_step) ; (focus (first
          | ((repeat (first
          | assumption
          )); done)
          )) ; (focus (first | rfl | assumption | omega)) ; (focus (first | rfl | assumption)) ; (try dsimp only))
          | ((with_reducible apply nthR_isw) ; (focus assumption))
          | ((with_reducible apply lenR_own) ; (focus assumption))
          | ((with_reducible apply ia_own) ; (focus assumption))
          | (with_reducible intro _)
          ))
          )
        all_goals (conv => whnf)
        all_goals (try dsimp only)
        all_goals first
          | (exfalso; omega)
          | skip
        refine loop_at (α := Nat) (fun a => [(18, .int .i64 ((min (a - 1) (s % 7) : Nat) : Int)), (19, .int .i64 a)]) (fun a => σ5) (fun a => a ≤ gtN W k) (fun a => gtN W k - a) 0 (by omega) (by simp [Fr.upd, Fr.pick]) rfl ?_
        rintro j hj
        by_cases hjt : j < gtN W k
        · obtain ⟨q, hq⟩ : ∃ q, (gtP W k (gtN W k))[j]? = some q := ⟨_, List.getElem?_eq_getElem (by rw [gtP_length]; omega)⟩
          obtain ⟨hq1, hq2⟩ := hwp j q (by omega) hq
          have hcmp := hgt j q hq
          by_cases hjs : j ≤ s % 7
          · have hqp := hcmp.2 hjs
            repeat' (first
              | ((with_reducible refine Side.intro ?_) <;> (first
              | omega
              ))
              | ((conv => whnf) <;> (first
              | (with_reducible refine and_same ?_)
              | (with_reducible refine and_side ?_ ?_)
              | ((with_reducible apply Br.yes) ; (focus omega))
              | ((with_reducible apply blkAt_step) ; (focus (first
              | ((repeat (first
              | assumption
              )); done)
              )) ; (focus (first | rfl | assumption | omega)) ; (focus (first | rfl | assumption)) ; (try dsimp only))
              | ((with_reducible apply nthR_isw) ; (focus assumption))
              | ((with_reducible apply ia_own) ; (focus assumption))
              | (with_reducible intro _)
              ))
              )
            all_goals (conv => whnf)
            all_goals (try dsimp only)
            all_goals first
              | exact ⟨j + 1, by simp only [show min (j + 1 - 1) (s % 7) = j from by omega, Int.natCast_add]; rfl, rfl, by omega, by omega⟩
              | (exfalso; omega)
          · have hqp : ¬ q.1 ≤ page := fun h => hjs (hcmp.1 h)
            repeat' (first
              | ((with_reducible refine Side.intro ?_) <;> (first
              | omega
              ))
              | ((conv => whnf) <;> (first
              | (with_reducible refine and_same ?_)
              | (with_reducible refine and_side ?_ ?_)
              | ((with_reducible apply Br.yes) ; (focus omega))
              | ((with_reducible apply Br.no) ; (focus omega))
              | ((with_reducible apply blkAt_step) ; (focus (first
              | ((repeat (first
              | assumption
              )); done)
              )) ; (focus (first | rfl | assumption | omega)) ; (focus (first | rfl | assumption)) ; (try dsimp only))
              | ((with_reducible apply nthR_isw) ; (focus assumption))
              | ((with_reducible apply ia_own) ; (focus assumption))
              | (with_reducible intro _)
              ))
              )
            all_goals (conv => whnf)
            all_goals (try dsimp only)
            all_goals first
              | exact ⟨j + 1, by simp only [show min (j + 1 - 1) (s % 7) = min (j - 1) (s % 7) from by omega, Int.natCast_add]; rfl, rfl, by omega, by omega⟩
              | (exfalso; omega)
        · have hjE : min (j - 1) (s % 7) = s % 7 := by omega
          rw [hjE]
          obtain ⟨hq1, hq2⟩ := hwp (s % 7) _ (by omega) hp2
          dsimp only at hq1 hq2
          rcases hlf with ⟨h1, h2, h3⟩ | ⟨q', rest', h1, h2, h3, h4⟩
          · subst h1
            subst h2
            subst h3
            have hss : s = s0 := by rw [← hs]; simp
            subst hss
            have hpar : gtH W k % 2 = 1 := by rw [hhd, if_pos rfl]; omega
            rw [if_pos rfl] at hq2
            have hpe : pp = (e.1, e.2.1 * 4 + e.2.2) := by
              simp only [prL, List.getElem?_map, hs1, Option.map_some, Option.some.injEq] at hp1
              exact hp1.symm
            have hbe := (rt_bd hRt).2.2.2 e (List.mem_of_getElem? hs1)
            rw [hpe] at hq1 hq2
            dsimp only at hq1 hq2
            simp only [inX, decide_eq_true_eq] at hin
            clear hst hal hgt hwp wget hS
            repeat' (first
              | ((with_reducible refine Side.intro ?_) <;> (first
              | omega
              | exact Nat.le_of_ble_eq_true rfl
              | (simp only [List.append_nil, List.nil_append, List.map_nil]; first | exact List.nodup_nil | exact nodup_bid1 _ | exact nodup_bid2 (by assumption))
              | ((first | refine fresh_tup ?_ | skip); (repeat (first |  exact FreshA.sl _ _ FreshA_bs | exact FreshA.sl _ _ FreshA_is | exact FreshA.nils | exact FreshA.nilp | exact FreshA.int _ _ | exact FreshA.bool _ | exact FreshA.str _ | exact fresh_nil | refine fresh_cons ?_ ?_ | with_reducible refine fresh_aggR ?_ | with_reducible refine fresh_agg ?_ | with_reducible exact fresh_nilA | with_reducible refine fresh_consA ?_ ?_)); done)
              | exact rfl
              ))
              | ((conv => whnf) <;> (first
              | (with_reducible refine and_same ?_)
              | (with_reducible refine and_side ?_ ?_)
              | ((with_reducible apply Br.yes) ; (focus omega))
              | ((with_reducible apply Br.no) ; (focus omega))
              | ((with_reducible apply Br.yes) ; (focus ((with_reducible refine And.intro ?_ ?_) ; (repeat' (first | with_reducible rfl | exact True.intro | with_reducible refine And.intro ?_ ?_ | omega | assumption)) ; (first | done | fail))))
              | ((with_reducible apply blkAt_step) ; (focus (first
              | ((repeat (first
              | assumption
              )); done)
              )) ; (focus (first | rfl | assumption | omega)) ; (focus (first | rfl | assumption)) ; (try dsimp only))
              | ((with_reducible apply nthR_isw) ; (focus assumption))
              | ((with_reducible apply ia_own) ; (focus assumption))
              | (with_reducible refine NOut.lit ?_)
              | (with_reducible intro _)
              ))
              )
            all_goals (conv => whnf)
            all_goals (try dsimp only)
            all_goals first
              | exact ret_bool rfl
              | (exfalso; omega)
          · subst h1
            subst h2
            have hpar : gtH W k % 2 = 0 := by rw [hhd, if_neg (by decide)]; omega
            rw [if_neg (by decide)] at hq2
            have hR' : wrR l = (A ++ [(false, ps)]) ++ q' :: rest' := by rw [hR]; simp
            have hss : s = s0 / 7 ^ rest'.length / 7 := by rw [← hs]; exact div7 _ rfl
            have hps : pp.2 = (s : Int) := by
              have hslt : s < hol1 q'.2.length := by
                have := (List.getElem?_eq_some_iff.1 hp1).1
                rw [h3, upP_length] at this
                exact this
              rw [h3, upP_get hslt] at hp1
              cases hp1
              rfl
            have hkk : wrN (A ++ [(false, ps)]) + s0 / 7 ^ rest'.length / 7 = wrN A + hol1 ps.length + s := by rw [wrN_append, hss]; rfl
            have hpv : pp.2 + ((wrN A + hol1 ps.length : Nat) : Int) = ((wrN A + hol1 ps.length + s : Nat) : Int) := by rw [hps]; omega
            rw [hpv] at hq2
            clear hst hal hgt hwp wget hS
            repeat' (first
              | ((with_reducible refine Side.intro ?_) <;> (first
              | omega
              ))
              | ((conv => whnf) <;> (first
              | (with_reducible refine and_same ?_)
              | (with_reducible refine and_side ?_ ?_)
              | ((with_reducible apply Br.yes) ; (focus omega))
              | ((with_reducible apply Br.no) ; (focus omega))
              | ((with_reducible apply blkAt_step) ; (focus (first
              | ((repeat (first
              | assumption
              )); done)
              )) ; (focus (first | rfl | assumption | omega)) ; (focus (first | rfl | assumption)) ; (try dsimp only))
              | ((with_reducible apply nthR_isw) ; (focus assumption))
              | ((with_reducible apply ia_own) ; (focus assumption))
              | (with_reducible intro _)
              ))
              )
            all_goals (conv => whnf)
            all_goals (try dsimp only)
            all_goals first
              | (exfalso; omega)
              | skip
            refine ⟨(A ++ [(false, ps)], q', rest', σ5), ?_, rfl, ⟨hR', Gr.trans hg4 hg5, p, c1'⟩, by dsimp only; simp⟩
            dsimp only
            rw [hkk, List.length_append, Int.natCast_add]
            rfl
    · have hW : wrL pages room l = [] := by unfold wrL; rw [if_neg hE]
      have hrn : rdL pages [] = [] := by unfold rdL; rw [rdB_nil]; rfl
      rw [hW] at hy
      obtain ⟨f1, f2⟩ := fd_none (pages := pages) (b := []) (page := page) (by rw [hrn]; rfl)
      skip
      all_goals (conv => whnf)
      all_goals (try dsimp only)
      refine call_two (Find_ok pages [] page (by simp) hpg) (.cons (Looks.int _ _ _) (.cons (Looks.ownbs hy) (.cons (Looks.int _ _ _) .nil))) rfl rfl fun σ3 hg3 => ?_
      rw [f1, f2]
      unfold exV
      repeat' (first
        | ((with_reducible refine Side.intro ?_) <;> (first
        | exact Nat.le_of_ble_eq_true rfl
        | (simp only [List.append_nil, List.nil_append, List.map_nil]; first | exact List.nodup_nil | exact nodup_bid1 _ | exact nodup_bid2 (by assumption))
        | ((first | refine fresh_tup ?_ | skip); (repeat (first |  exact FreshA.sl _ _ FreshA_bs | exact FreshA.sl _ _ FreshA_is | exact FreshA.nils | exact FreshA.nilp | exact FreshA.int _ _ | exact FreshA.bool _ | exact FreshA.str _ | exact fresh_nil | refine fresh_cons ?_ ?_ | with_reducible refine fresh_aggR ?_ | with_reducible refine fresh_agg ?_ | with_reducible exact fresh_nilA | with_reducible refine fresh_consA ?_ ?_)); done)
        | exact rfl
        ))
        | ((conv => whnf) <;> (first
        | (with_reducible refine and_same ?_)
        | (with_reducible refine and_side ?_ ?_)
        | ((with_reducible apply Br.yes) ; (focus omega))
        | ((with_reducible apply blkAt_step) ; (focus (first
        | ((repeat (first
        | exact get_new
        )); done)
        )) ; (focus (first | rfl | assumption | omega)) ; (focus (first | rfl | assumption)) ; (try dsimp only))
        | (with_reducible refine NOut.lit ?_)
        ))
        )
      all_goals (conv => whnf)
      all_goals (try dsimp only)
      all_goals first
        | exact ret_bool rfl
        | (exfalso; omega)
end Go.Proofs.Ythalikgchafjiaa

namespace Go.Proofs.Ythalikgchafjiaa
open Go Go.Proofs.Ythalikgchafjiaa.V
set_option maxRecDepth 20000
attribute [local irreducible] CallS AOK AOKn ALoop Side Ref.ok
/-! The laws of trees: there and back, counts. -/
theorem rdL_len (pages : Int) (b : List UInt8) : (rdL pages b).length ≤ 7 * (b.length / 128) := by
  unfold rdL
  split
  · exact rdK_len _ _
  · simp
theorem TreeCounts_ok (pages : Int) (l : List (Int × Int × Int)) (n : Int) (hl : l.length ≤ 1048576) (hn : n ≤ 9223372036854775807) : AOKn Try.prog F.joistlaw14_TreeCounts [.int .i64 pages, .sl 3 (bk l) false, .int .i64 n] fun y => y = .bool true := by
  have hll := bk_length l
  refine AOKn.by_steps mixed fc_joistlaw14_TreeCounts_ok (by simp [fc_joistlaw14_TreeCounts]) ?_
  skip
  all_goals (conv => whnf)
  all_goals (try dsimp only)
  refine small_call fun σ1 hg1 => ?_
  by_cases h300 : 300 < l.length
  · repeat' (first
      | ((with_reducible refine Side.intro ?_) <;> (first
      | (simp only [List.append_nil, List.nil_append, List.map_nil]; first | exact List.nodup_nil | exact nodup_bid1 _ | exact nodup_bid2 (by assumption))
      | ((first | refine fresh_tup ?_ | skip); (repeat (first | exact fresh_bk _ |  exact FreshA.sl _ _ FreshA_bs | exact FreshA.sl _ _ FreshA_is | exact FreshA.nils | exact FreshA.nilp | exact FreshA.int _ _ | exact FreshA.bool _ | exact FreshA.str _ | exact fresh_nil | refine fresh_cons ?_ ?_ | with_reducible refine fresh_aggR ?_ | with_reducible refine fresh_agg ?_ | with_reducible exact fresh_nilA | with_reducible refine fresh_consA ?_ ?_)); done)
      ))
      | ((conv => whnf) <;> (first
      | (with_reducible refine and_same ?_)
      | (with_reducible refine and_side ?_ ?_)
      | ((with_reducible apply Br.yes) ; (focus omega))
      | (with_reducible refine NOut.lit ?_)
      | (with_reducible refine lenR_sl ?_)
      ))
      )
    all_goals (conv => whnf)
    all_goals (try dsimp only)
    exact ret_bool rfl
  · have hIb : 1 ≤ ndI l.length ∧ ndI l.length ≤ 1048576 := by
      have e1 : ndI l.length = (ndN l.length : Nat) := by rw [ndI, if_neg (by omega)]; rfl
      have h1 := ndN_pos l.length
      have h2 := ndT_le (hol1 l.length)
      have h3 : hol1 l.length ≤ 300 := by unfold hol1 hol; omega
      unfold ndN at h1 e1
      omega
    repeat' (first
      | ((conv => whnf) <;> (first
      | (with_reducible refine and_same ?_)
      | ((with_reducible apply Br.no) ; (focus omega))
      | (with_reducible refine lenR_sl ?_)
      ))
      )
    all_goals (conv => whnf)
    all_goals (try dsimp only)
    refine call_one (Nodes_ok l.length (by omega)) (.cons (.same (by rw [hll]; rfl)) .nil) rfl fun σ2 hg2 => ?_
    skip
    all_goals (conv => whnf)
    all_goals (try dsimp only)
    refine call_sl1 (Write_ok pages (ndI l.length) l (by omega)) (.cons (Looks.int _ _ _) (.cons (Looks.int _ _ _) (.cons (Looks.bk _ _ _) .nil))) rfl fun σ3 x hg3 hx hnx => ?_
    repeat' (first
      | ((conv => whnf) <;> (first
      | (with_reducible refine and_same ?_)
      | ((with_reducible apply Br.yes) ; (focus omega))
      ))
      )
    all_goals (conv => whnf)
    all_goals (try dsimp only)
    refine call_sl1 (Write_ok pages (ndI l.length - 1) l (by omega)) (.cons (Looks.int _ _ _) (.cons (Looks.int _ _ _) (.cons (Looks.bk _ _ _) .nil))) rfl fun σ4 y hg4 hy hny => ?_
    skip
    all_goals (conv => whnf)
    all_goals (try dsimp only)
    refine call_one (Right_ok pages l (by omega)) (.cons (Looks.int _ _ _) (.cons (Looks.bk _ _ _) .nil)) rfl fun σ5 hg5 => ?_
    cases hR : rt pages l
    · have e1 : ∀ r, wrE pages r l = 1 := fun r => by rw [wrE, if_neg (by rw [hR]; simp)]
      rw [e1, e1]
      skip
      all_goals (conv => whnf)
      all_goals (try dsimp only)
      refine call_one (Right_ok pages l (by omega)) (.cons (Looks.int _ _ _) (.cons (Looks.bk _ _ _) .nil)) rfl fun σ6 hg6 => ?_
      rw [hR]
      repeat' (first
        | ((with_reducible refine Side.intro ?_) <;> (first
        | (simp only [List.append_nil, List.nil_append, List.map_nil]; first | exact List.nodup_nil | exact nodup_bid1 _ | exact nodup_bid2 (by assumption))
        | ((first | refine fresh_tup ?_ | skip); (repeat (first | exact fresh_bk _ |  exact FreshA.sl _ _ FreshA_bs | exact FreshA.sl _ _ FreshA_is | exact FreshA.nils | exact FreshA.nilp | exact FreshA.int _ _ | exact FreshA.bool _ | exact FreshA.str _ | exact fresh_nil | refine fresh_cons ?_ ?_ | with_reducible refine fresh_aggR ?_ | with_reducible refine fresh_agg ?_ | with_reducible exact fresh_nilA | with_reducible refine fresh_consA ?_ ?_)); done)
        ))
        | ((conv => whnf) <;> (first
        | (with_reducible refine and_same ?_)
        | (with_reducible refine and_side ?_ ?_)
        | ((with_reducible apply Br.no) ; (focus omega))
        | (with_reducible refine Br.mk (fun _ => ?_) (fun _ => ?_))
        | (with_reducible refine NOut.lit ?_)
        ))
        )
      all_goals (conv => whnf)
      all_goals (try dsimp only)
      · exact ret_bool rfl
      · exact ret_bool rfl
      · obtain ⟨s1, s2, s3⟩ := ndI_step (n := n) (by omega) (by omega)
        have s4 : ndI n ≤ 9223372036854775787 := by
          rename_i q1 q2
          have e1 : ndI n = (ndN n.toNat : Nat) := by rw [ndI, if_neg (by omega)]
          have h2 := ndT_le (hol1 n.toNat)
          have h3 : hol1 n.toNat ≤ 1099511627776 := by unfold hol1 hol; omega
          unfold ndN at e1
          omega
        refine call_one (Nodes_ok n (by omega)) (.cons (Looks.int _ _ _) .nil) rfl fun σ8 hg8 => ?_
        repeat' (first
          | ((conv => whnf) <;> (first
          | (with_reducible refine and_same ?_)
          | ((with_reducible apply Br.yes) ; (focus omega))
          ))
          )
        all_goals (conv => whnf)
        all_goals (try dsimp only)
        refine call_one (Nodes_ok (n + 1) (by omega)) (.cons (Looks.int _ _ _) .nil) rfl fun σ9 hg9 => ?_
        skip
        all_goals (conv => whnf)
        all_goals (try dsimp only)
        refine call_one (Nodes_ok n (by omega)) (.cons (Looks.int _ _ _) .nil) rfl fun σa hga => ?_
        repeat' (first
          | ((conv => whnf) <;> (first
          | (with_reducible refine and_same ?_)
          | ((with_reducible apply Br.yes) ; (focus omega))
          ))
          )
        all_goals (conv => whnf)
        all_goals (try dsimp only)
        refine call_one (Nodes_ok (n + 1) (by omega)) (.cons (Looks.int _ _ _) .nil) rfl fun σb hgb => ?_
        skip
        all_goals (conv => whnf)
        all_goals (try dsimp only)
        refine call_one (Nodes_ok n (by omega)) (.cons (Looks.int _ _ _) .nil) rfl fun σc hgc => ?_
        repeat' (first
          | ((with_reducible refine Side.intro ?_) <;> (first
          | (simp only [List.append_nil, List.nil_append, List.map_nil]; first | exact List.nodup_nil | exact nodup_bid1 _ | exact nodup_bid2 (by assumption))
          | ((first | refine fresh_tup ?_ | skip); (repeat (first | exact fresh_bk _ |  exact FreshA.sl _ _ FreshA_bs | exact FreshA.sl _ _ FreshA_is | exact FreshA.nils | exact FreshA.nilp | exact FreshA.int _ _ | exact FreshA.bool _ | exact FreshA.str _ | exact fresh_nil | refine fresh_cons ?_ ?_ | with_reducible refine fresh_aggR ?_ | with_reducible refine fresh_agg ?_ | with_reducible exact fresh_nilA | with_reducible refine fresh_consA ?_ ?_)); done)
          ))
          | ((conv => whnf) <;> (first
          | (with_reducible refine and_same ?_)
          | (with_reducible refine and_side ?_ ?_)
          | ((with_reducible apply Br.yes) ; (focus omega))
          | (with_reducible refine NOut.lit ?_)
          ))
          )
        all_goals (conv => whnf)
        all_goals (try dsimp only)
        all_goals exact ret_bool rfl
    · obtain ⟨e1, e2, e3⟩ := wrE_counts hR
      rw [e1, e2]
      repeat' (first
        | ((conv => whnf) <;> (first
        | (with_reducible refine and_same ?_)
        | ((with_reducible apply Br.no) ; (focus omega))
        ))
        )
      all_goals (conv => whnf)
      all_goals (try dsimp only)
      refine call_one (Nodes_ok 64 (by omega)) (.cons (Looks.int _ _ _) .nil) rfl fun σ6 hg6 => ?_
      rw [ndN_64]
      repeat' (first
        | ((conv => whnf) <;> (first
        | (with_reducible refine and_same ?_)
        | ((with_reducible apply Br.no) ; (focus omega))
        ))
        )
      all_goals (conv => whnf)
      all_goals (try dsimp only)
      refine call_one (Right_ok pages l (by omega)) (.cons (Looks.int _ _ _) (.cons (Looks.bk _ _ _) .nil)) rfl fun σ7 hg7 => ?_
      rw [hR]
      repeat' (first
        | ((with_reducible refine Side.intro ?_) <;> (first
        | (simp only [List.append_nil, List.nil_append, List.map_nil]; first | exact List.nodup_nil | exact nodup_bid1 _ | exact nodup_bid2 (by assumption))
        | ((first | refine fresh_tup ?_ | skip); (repeat (first | exact fresh_bk _ |  exact FreshA.sl _ _ FreshA_bs | exact FreshA.sl _ _ FreshA_is | exact FreshA.nils | exact FreshA.nilp | exact FreshA.int _ _ | exact FreshA.bool _ | exact FreshA.str _ | exact fresh_nil | refine fresh_cons ?_ ?_ | with_reducible refine fresh_aggR ?_ | with_reducible refine fresh_agg ?_ | with_reducible exact fresh_nilA | with_reducible refine fresh_consA ?_ ?_)); done)
        ))
        | ((conv => whnf) <;> (first
        | (with_reducible refine and_same ?_)
        | (with_reducible refine and_side ?_ ?_)
        | (with_reducible refine Br.mk (fun _ => ?_) (fun _ => ?_))
        | (with_reducible refine NOut.lit ?_)
        ))
        )
      all_goals (conv => whnf)
      all_goals (try dsimp only)
      · exact ret_bool rfl
      · exact ret_bool rfl
      · obtain ⟨s1, s2, s3⟩ := ndI_step (n := n) (by omega) (by omega)
        have s4 : ndI n ≤ 9223372036854775787 := by
          rename_i q1 q2
          have e1 : ndI n = (ndN n.toNat : Nat) := by rw [ndI, if_neg (by omega)]
          have h2 := ndT_le (hol1 n.toNat)
          have h3 : hol1 n.toNat ≤ 1099511627776 := by unfold hol1 hol; omega
          unfold ndN at e1
          omega
        refine call_one (Nodes_ok n (by omega)) (.cons (Looks.int _ _ _) .nil) rfl fun σ8 hg8 => ?_
        repeat' (first
          | ((conv => whnf) <;> (first
          | (with_reducible refine and_same ?_)
          | ((with_reducible apply Br.yes) ; (focus omega))
          ))
          )
        all_goals (conv => whnf)
        all_goals (try dsimp only)
        refine call_one (Nodes_ok (n + 1) (by omega)) (.cons (Looks.int _ _ _) .nil) rfl fun σ9 hg9 => ?_
        skip
        all_goals (conv => whnf)
        all_goals (try dsimp only)
        refine call_one (Nodes_ok n (by omega)) (.cons (Looks.int _ _ _) .nil) rfl fun σa hga => ?_
        repeat' (first
          | ((conv => whnf) <;> (first
          | (with_reducible refine and_same ?_)
          | ((with_reducible apply Br.yes) ; (focus omega))
          ))
          )
        all_goals (conv => whnf)
        all_goals (try dsimp only)
        refine call_one (Nodes_ok (n + 1) (by omega)) (.cons (Looks.int _ _ _) .nil) rfl fun σb hgb => ?_
        skip
        all_goals (conv => whnf)
        all_goals (try dsimp only)
        refine call_one (Nodes_ok n (by omega)) (.cons (Looks.int _ _ _) .nil) rfl fun σc hgc => ?_
        repeat' (first
          | ((with_reducible refine Side.intro ?_) <;> (first
          | (simp only [List.append_nil, List.nil_append, List.map_nil]; first | exact List.nodup_nil | exact nodup_bid1 _ | exact nodup_bid2 (by assumption))
          | ((first | refine fresh_tup ?_ | skip); (repeat (first | exact fresh_bk _ |  exact FreshA.sl _ _ FreshA_bs | exact FreshA.sl _ _ FreshA_is | exact FreshA.nils | exact FreshA.nilp | exact FreshA.int _ _ | exact FreshA.bool _ | exact FreshA.str _ | exact fresh_nil | refine fresh_cons ?_ ?_ | with_reducible refine fresh_aggR ?_ | with_reducible refine fresh_agg ?_ | with_reducible exact fresh_nilA | with_reducible refine fresh_consA ?_ ?_)); done)
          ))
          | ((conv => whnf) <;> (first
          | (with_reducible refine and_same ?_)
          | (with_reducible refine and_side ?_ ?_)
          | ((with_reducible apply Br.yes) ; (focus omega))
          | (with_reducible refine NOut.lit ?_)
          ))
          )
        all_goals (conv => whnf)
        all_goals (try dsimp only)
        all_goals exact ret_bool rfl
theorem TreeBack_ok (ks : List Int) (pages room : Int) (l : List (Int × Int × Int)) (b : List UInt8) (hk : ks.length ≤ 1048576) (hl : l.length ≤ 1048576) (hb : b.length ≤ 1048576) : AOKn Try.prog F.joistlaw14_TreeBack [.sl 1 (is ks) false, .int .i64 pages, .int .i64 room, .sl 3 (bk l) false, .sl 1 (bs b) false] fun y => y = .bool true := by
  have hkl := is_length ks
  have hll := bk_length l
  have hbl := bs_length b
  refine AOKn.by_steps mixed fc_joistlaw14_TreeBack_ok (by simp [fc_joistlaw14_TreeBack]) ?_
  skip
  all_goals (conv => whnf)
  all_goals (try dsimp only)
  refine small_call fun σ1 hg1 => ?_
  by_cases h300 : 300 < l.length ∨ 8192 < b.length
  · repeat' (first
      | ((with_reducible refine Side.intro ?_) <;> (first
      | (simp only [List.append_nil, List.nil_append, List.map_nil]; first | exact List.nodup_nil | exact nodup_bid1 _ | exact nodup_bid2 (by assumption))
      | ((first | refine fresh_tup ?_ | skip); (repeat (first | exact fresh_bk _ |  exact FreshA.sl _ _ FreshA_bs | exact FreshA.sl _ _ FreshA_is | exact FreshA.nils | exact FreshA.nilp | exact FreshA.int _ _ | exact FreshA.bool _ | exact FreshA.str _ | exact fresh_nil | refine fresh_cons ?_ ?_ | with_reducible refine fresh_aggR ?_ | with_reducible refine fresh_agg ?_ | with_reducible exact fresh_nilA | with_reducible refine fresh_consA ?_ ?_)); done)
      ))
      | ((conv => whnf) <;> (first
      | (with_reducible refine and_same ?_)
      | (with_reducible refine and_side ?_ ?_)
      | ((with_reducible apply Br.yes) ; (focus omega))
      | (with_reducible refine Br.mk (fun _ => ?_) (fun _ => ?_))
      | (with_reducible refine NOut.lit ?_)
      | (with_reducible refine lenR_sl ?_)
      ))
      )
    all_goals (conv => whnf)
    all_goals (try dsimp only)
    all_goals first
      | exact ret_bool rfl
      | (exfalso; omega)
  · repeat' (first
      | ((conv => whnf) <;> (first
      | (with_reducible refine and_same ?_)
      | ((with_reducible apply Br.no) ; (focus omega))
      | (with_reducible refine lenR_sl ?_)
      ))
      )
    all_goals (conv => whnf)
    all_goals (try dsimp only)
    refine call_sl1 (From_ok ks (by omega)) (.cons (Looks.isv _ _ _) .nil) rfl fun σ2 x hg2 hx hnx => ?_
    cases hF : frB ks
    · skip
      all_goals (conv => whnf)
      all_goals (try dsimp only)
      refine call_sl1 (Write_ok pages room l (by omega)) (.cons (Looks.int _ _ _) (.cons (Looks.int _ _ _) (.cons (Looks.bk _ _ _) .nil))) rfl fun σ3 y hg3 hy hny => ?_
      by_cases hE : wrE pages room l = 0
      · obtain ⟨r1, r2⟩ := rd_wr hE
        have hWl := wrL_len hE
        obtain ⟨hRt, he1, he2⟩ := wrE_ok hE
        have hyl : (bs (wrL pages room l)).length = 128 * room.toNat := by rw [bs_length, hWl]
        have hrt0 : (0 : Int) ≤ room := by have := ndN_pos l.length; omega
        rw [hE]
        repeat' (first
          | ((conv => whnf) <;> (first
          | (with_reducible refine and_same ?_)
          | (with_reducible refine Br.yes rfl ?_)
          ))
          )
        all_goals (conv => whnf)
        all_goals (try dsimp only)
        refine call_sl1 (Read_ok pages (wrL pages room l) (by omega)) (.cons (Looks.int _ _ _) (.cons (Looks.ownbs hy) .nil)) rfl fun σ4 m hg4 hm hnm => ?_
        rw [r1]
        rw [r2] at hm
        replace hy := hy.keepN hg4
        skip
        all_goals (conv => whnf)
        all_goals (try dsimp only)
        refine call_one (Same14_ok l l (by omega) (by omega)) (.cons (Looks.bk _ _ _) (.cons (Looks.ownbk hm) .nil)) rfl fun σ5 hg5 => ?_
        rw [decide_eq_true rfl]
        replace hy := hy.keepN hg5
        repeat' (first
          | ((conv => whnf) <;> (first
          | (with_reducible refine and_same ?_)
          | ((with_reducible apply Br.yes) ; (focus omega))
          | ((with_reducible apply Br.no) ; (focus omega))
          | ((with_reducible apply lenR_own) ; (focus assumption))
          ))
          )
        all_goals (conv => whnf)
        all_goals (try dsimp only)
        refine call_sl1 (Read_ok pages b (by omega)) (.cons (Looks.int _ _ _) (.cons (Looks.bs _ _ _) .nil)) rfl fun σ6 m2 hg6 hm2 hnm2 => ?_
        cases hB : rdB pages b
        · have hrl : rdL pages b = [] := by rw [rdL, hB]; rfl
          rw [hrl] at hm2
          have hm0 : (bk []).length = 0 := rfl
          repeat' (first
            | ((with_reducible refine Side.intro ?_) <;> (first
            | (simp only [List.append_nil, List.nil_append, List.map_nil]; first | exact List.nodup_nil | exact nodup_bid1 _ | exact nodup_bid2 (by assumption))
            | ((first | refine fresh_tup ?_ | skip); (repeat (first | exact fresh_bk _ |  exact FreshA.sl _ _ FreshA_bs | exact FreshA.sl _ _ FreshA_is | exact FreshA.nils | exact FreshA.nilp | exact FreshA.int _ _ | exact FreshA.bool _ | exact FreshA.str _ | exact fresh_nil | refine fresh_cons ?_ ?_ | with_reducible refine fresh_aggR ?_ | with_reducible refine fresh_agg ?_ | with_reducible exact fresh_nilA | with_reducible refine fresh_consA ?_ ?_)); done)
            ))
            | ((conv => whnf) <;> (first
            | (with_reducible refine and_same ?_)
            | (with_reducible refine and_side ?_ ?_)
            | (with_reducible refine Br.yes rfl ?_)
            | ((with_reducible apply lenR_own) ; (focus assumption))
            | (with_reducible refine NOut.lit ?_)
            ))
            )
          all_goals (conv => whnf)
          all_goals (try dsimp only)
          exact ret_bool rfl
        · obtain ⟨q1, q2, q3⟩ := rdB_wr hB
          repeat' (first
            | ((with_reducible refine Side.intro ?_) <;> (first
            | omega
            ))
            | ((conv => whnf) <;> (first
            | (with_reducible refine and_same ?_)
            | (with_reducible refine and_side ?_ ?_)
            | ((with_reducible apply Br.yes) ; (focus omega))
            | (with_reducible refine lenR_sl ?_)
            ))
            )
          all_goals (conv => whnf)
          all_goals (try dsimp only)
          refine call_sl1 (Write_ok pages ((b.length / 128 : Nat) : Int) (rdL pages b) (by have := rdL_len pages b; omega)) (.cons (Looks.int _ _ _) (.cons (.same (by rw [hbl]; rfl)) (.cons (Looks.ownbk hm2) .nil))) rfl fun σ7 d hg7 hd hnd => ?_
          rw [q1]
          rw [q2] at hd
          repeat' (first
            | ((with_reducible refine Side.intro ?_) <;> (first
            | (simp only [List.append_nil, List.nil_append, List.map_nil]; first | exact List.nodup_nil | exact nodup_bid1 _ | exact nodup_bid2 (by assumption))
            | ((first | refine fresh_tup ?_ | skip); (repeat (first | exact fresh_bk _ |  exact FreshA.sl _ _ FreshA_bs | exact FreshA.sl _ _ FreshA_is | exact FreshA.nils | exact FreshA.nilp | exact FreshA.int _ _ | exact FreshA.bool _ | exact FreshA.str _ | exact fresh_nil | refine fresh_cons ?_ ?_ | with_reducible refine fresh_aggR ?_ | with_reducible refine fresh_agg ?_ | with_reducible exact fresh_nilA | with_reducible refine fresh_consA ?_ ?_)); done)
            ))
            | ((conv => whnf) <;> (first
            | (with_reducible refine and_same ?_)
            | (with_reducible refine and_side ?_ ?_)
            | (with_reducible refine Br.yes rfl ?_)
            | ((with_reducible apply rowsR_own) ; (focus assumption))
            | (with_reducible refine NOut.lit ?_)
            | (with_reducible refine rowsR_sl ?_)
            | ((with_reducible apply bytesR_intro) ; (focus (first | rfl | (simp only [bs_take, bs_drop, bs_append]; rfl))))
            ))
            )
          all_goals (conv => whnf)
          all_goals (try dsimp only)
          all_goals first
            | exact ret_bool rfl
            | (exfalso; exact absurd rfl ‹¬ _›)
      · repeat' (first
          | ((conv => whnf) <;> (first
          | (with_reducible refine and_same ?_)
          | ((with_reducible apply Br.no) ; (focus omega))
          ))
          )
        all_goals (conv => whnf)
        all_goals (try dsimp only)
        refine call_sl1 (Read_ok pages b (by omega)) (.cons (Looks.int _ _ _) (.cons (Looks.bs _ _ _) .nil)) rfl fun σ6 m2 hg6 hm2 hnm2 => ?_
        cases hB : rdB pages b
        · have hrl : rdL pages b = [] := by rw [rdL, hB]; rfl
          rw [hrl] at hm2
          have hm0 : (bk []).length = 0 := rfl
          repeat' (first
            | ((with_reducible refine Side.intro ?_) <;> (first
            | (simp only [List.append_nil, List.nil_append, List.map_nil]; first | exact List.nodup_nil | exact nodup_bid1 _ | exact nodup_bid2 (by assumption))
            | ((first | refine fresh_tup ?_ | skip); (repeat (first | exact fresh_bk _ |  exact FreshA.sl _ _ FreshA_bs | exact FreshA.sl _ _ FreshA_is | exact FreshA.nils | exact FreshA.nilp | exact FreshA.int _ _ | exact FreshA.bool _ | exact FreshA.str _ | exact fresh_nil | refine fresh_cons ?_ ?_ | with_reducible refine fresh_aggR ?_ | with_reducible refine fresh_agg ?_ | with_reducible exact fresh_nilA | with_reducible refine fresh_consA ?_ ?_)); done)
            ))
            | ((conv => whnf) <;> (first
            | (with_reducible refine and_same ?_)
            | (with_reducible refine and_side ?_ ?_)
            | (with_reducible refine Br.yes rfl ?_)
            | ((with_reducible apply lenR_own) ; (focus assumption))
            | (with_reducible refine NOut.lit ?_)
            ))
            )
          all_goals (conv => whnf)
          all_goals (try dsimp only)
          exact ret_bool rfl
        · obtain ⟨q1, q2, q3⟩ := rdB_wr hB
          repeat' (first
            | ((with_reducible refine Side.intro ?_) <;> (first
            | omega
            ))
            | ((conv => whnf) <;> (first
            | (with_reducible refine and_same ?_)
            | (with_reducible refine and_side ?_ ?_)
            | ((with_reducible apply Br.yes) ; (focus omega))
            | (with_reducible refine lenR_sl ?_)
            ))
            )
          all_goals (conv => whnf)
          all_goals (try dsimp only)
          refine call_sl1 (Write_ok pages ((b.length / 128 : Nat) : Int) (rdL pages b) (by have := rdL_len pages b; omega)) (.cons (Looks.int _ _ _) (.cons (.same (by rw [hbl]; rfl)) (.cons (Looks.ownbk hm2) .nil))) rfl fun σ7 d hg7 hd hnd => ?_
          rw [q1]
          rw [q2] at hd
          repeat' (first
            | ((with_reducible refine Side.intro ?_) <;> (first
            | (simp only [List.append_nil, List.nil_append, List.map_nil]; first | exact List.nodup_nil | exact nodup_bid1 _ | exact nodup_bid2 (by assumption))
            | ((first | refine fresh_tup ?_ | skip); (repeat (first | exact fresh_bk _ |  exact FreshA.sl _ _ FreshA_bs | exact FreshA.sl _ _ FreshA_is | exact FreshA.nils | exact FreshA.nilp | exact FreshA.int _ _ | exact FreshA.bool _ | exact FreshA.str _ | exact fresh_nil | refine fresh_cons ?_ ?_ | with_reducible refine fresh_aggR ?_ | with_reducible refine fresh_agg ?_ | with_reducible exact fresh_nilA | with_reducible refine fresh_consA ?_ ?_)); done)
            ))
            | ((conv => whnf) <;> (first
            | (with_reducible refine and_same ?_)
            | (with_reducible refine and_side ?_ ?_)
            | (with_reducible refine Br.yes rfl ?_)
            | ((with_reducible apply rowsR_own) ; (focus assumption))
            | (with_reducible refine NOut.lit ?_)
            | (with_reducible refine rowsR_sl ?_)
            | ((with_reducible apply bytesR_intro) ; (focus (first | rfl | (simp only [bs_take, bs_drop, bs_append]; rfl))))
            ))
            )
          all_goals (conv => whnf)
          all_goals (try dsimp only)
          all_goals first
            | exact ret_bool rfl
            | (exfalso; exact absurd rfl ‹¬ _›)
    · have hR := fr_right hF
      have hfl := frL_len ks
      repeat' (first
        | ((conv => whnf) <;> (first
        | (with_reducible refine lenR_sl ?_)
        ))
        )
      all_goals (conv => whnf)
      all_goals (try dsimp only)
      refine call_one (Right_ok ks.length (frL ks) (by omega)) (.cons (.same (by rw [hkl]; rfl)) (.cons (Looks.ownbk hx) .nil)) rfl fun σ2' hg2' => ?_
      rw [hR]
      skip
      all_goals (conv => whnf)
      all_goals (try dsimp only)
      refine call_sl1 (Write_ok pages room l (by omega)) (.cons (Looks.int _ _ _) (.cons (Looks.int _ _ _) (.cons (Looks.bk _ _ _) .nil))) rfl fun σ3 y hg3 hy hny => ?_
      by_cases hE : wrE pages room l = 0
      · obtain ⟨r1, r2⟩ := rd_wr hE
        have hWl := wrL_len hE
        obtain ⟨hRt, he1, he2⟩ := wrE_ok hE
        have hyl : (bs (wrL pages room l)).length = 128 * room.toNat := by rw [bs_length, hWl]
        have hrt0 : (0 : Int) ≤ room := by have := ndN_pos l.length; omega
        rw [hE]
        repeat' (first
          | ((conv => whnf) <;> (first
          | (with_reducible refine and_same ?_)
          | (with_reducible refine Br.yes rfl ?_)
          ))
          )
        all_goals (conv => whnf)
        all_goals (try dsimp only)
        refine call_sl1 (Read_ok pages (wrL pages room l) (by omega)) (.cons (Looks.int _ _ _) (.cons (Looks.ownbs hy) .nil)) rfl fun σ4 m hg4 hm hnm => ?_
        rw [r1]
        rw [r2] at hm
        replace hy := hy.keepN hg4
        skip
        all_goals (conv => whnf)
        all_goals (try dsimp only)
        refine call_one (Same14_ok l l (by omega) (by omega)) (.cons (Looks.bk _ _ _) (.cons (Looks.ownbk hm) .nil)) rfl fun σ5 hg5 => ?_
        rw [decide_eq_true rfl]
        replace hy := hy.keepN hg5
        repeat' (first
          | ((conv => whnf) <;> (first
          | (with_reducible refine and_same ?_)
          | ((with_reducible apply Br.yes) ; (focus omega))
          | ((with_reducible apply Br.no) ; (focus omega))
          | ((with_reducible apply lenR_own) ; (focus assumption))
          ))
          )
        all_goals (conv => whnf)
        all_goals (try dsimp only)
        refine call_sl1 (Read_ok pages b (by omega)) (.cons (Looks.int _ _ _) (.cons (Looks.bs _ _ _) .nil)) rfl fun σ6 m2 hg6 hm2 hnm2 => ?_
        cases hB : rdB pages b
        · have hrl : rdL pages b = [] := by rw [rdL, hB]; rfl
          rw [hrl] at hm2
          have hm0 : (bk []).length = 0 := rfl
          repeat' (first
            | ((with_reducible refine Side.intro ?_) <;> (first
            | (simp only [List.append_nil, List.nil_append, List.map_nil]; first | exact List.nodup_nil | exact nodup_bid1 _ | exact nodup_bid2 (by assumption))
            | ((first | refine fresh_tup ?_ | skip); (repeat (first | exact fresh_bk _ |  exact FreshA.sl _ _ FreshA_bs | exact FreshA.sl _ _ FreshA_is | exact FreshA.nils | exact FreshA.nilp | exact FreshA.int _ _ | exact FreshA.bool _ | exact FreshA.str _ | exact fresh_nil | refine fresh_cons ?_ ?_ | with_reducible refine fresh_aggR ?_ | with_reducible refine fresh_agg ?_ | with_reducible exact fresh_nilA | with_reducible refine fresh_consA ?_ ?_)); done)
            ))
            | ((conv => whnf) <;> (first
            | (with_reducible refine and_same ?_)
            | (with_reducible refine and_side ?_ ?_)
            | (with_reducible refine Br.yes rfl ?_)
            | ((with_reducible apply lenR_own) ; (focus assumption))
            | (with_reducible refine NOut.lit ?_)
            ))
            )
          all_goals (conv => whnf)
          all_goals (try dsimp only)
          exact ret_bool rfl
        · obtain ⟨q1, q2, q3⟩ := rdB_wr hB
          repeat' (first
            | ((with_reducible refine Side.intro ?_) <;> (first
            | omega
            ))
            | ((conv => whnf) <;> (first
            | (with_reducible refine and_same ?_)
            | (with_reducible refine and_side ?_ ?_)
            | ((with_reducible apply Br.yes) ; (focus omega))
            | (with_reducible refine lenR_sl ?_)
            ))
            )
          all_goals (conv => whnf)
          all_goals (try dsimp only)
          refine call_sl1 (Write_ok pages ((b.length / 128 : Nat) : Int) (rdL pages b) (by have := rdL_len pages b; omega)) (.cons (Looks.int _ _ _) (.cons (.same (by rw [hbl]; rfl)) (.cons (Looks.ownbk hm2) .nil))) rfl fun σ7 d hg7 hd hnd => ?_
          rw [q1]
          rw [q2] at hd
          repeat' (first
            | ((with_reducible refine Side.intro ?_) <;> (first
            | (simp only [List.append_nil, List.nil_append, List.map_nil]; first | exact List.nodup_nil | exact nodup_bid1 _ | exact nodup_bid2 (by assumption))
            | ((first | refine fresh_tup ?_ | skip); (repeat (first | exact fresh_bk _ |  exact FreshA.sl _ _ FreshA_bs | exact FreshA.sl _ _ FreshA_is | exact FreshA.nils | exact FreshA.nilp | exact FreshA.int _ _ | exact FreshA.bool _ | exact FreshA.str _ | exact fresh_nil | refine fresh_cons ?_ ?_ | with_reducible refine fresh_aggR ?_ | with_reducible refine fresh_agg ?_ | with_reducible exact fresh_nilA | with_reducible refine fresh_consA ?_ ?_)); done)
            ))
            | ((conv => whnf) <;> (first
            | (with_reducible refine and_same ?_)
            | (with_reducible refine and_side ?_ ?_)
            | (with_reducible refine Br.yes rfl ?_)
            | ((with_reducible apply rowsR_own) ; (focus assumption))
            | (with_reducible refine NOut.lit ?_)
            | (with_reducible refine rowsR_sl ?_)
            | ((with_reducible apply bytesR_intro) ; (focus (first | rfl | (simp only [bs_take, bs_drop, bs_append]; rfl))))
            ))
            )
          all_goals (conv => whnf)
          all_goals (try dsimp only)
          all_goals first
            | exact ret_bool rfl
            | (exfalso; exact absurd rfl ‹¬ _›)
      · repeat' (first
          | ((conv => whnf) <;> (first
          | (with_reducible refine and_same ?_)
          | ((with_reducible apply Br.no) ; (focus omega))
          ))
          )
        all_goals (conv => whnf)
        all_goals (try dsimp only)
        refine call_sl1 (Read_ok pages b (by omega)) (.cons (Looks.int _ _ _) (.cons (Looks.bs _ _ _) .nil)) rfl fun σ6 m2 hg6 hm2 hnm2 => ?_
        cases hB : rdB pages b
        · have hrl : rdL pages b = [] := by rw [rdL, hB]; rfl
          rw [hrl] at hm2
          have hm0 : (bk []).length = 0 := rfl
          repeat' (first
            | ((with_reducible refine Side.intro ?_) <;> (first
            | (simp only [List.append_nil, List.nil_append, List.map_nil]; first | exact List.nodup_nil | exact nodup_bid1 _ | exact nodup_bid2 (by assumption))
            | ((first | refine fresh_tup ?_ | skip); (repeat (first | exact fresh_bk _ |  exact FreshA.sl _ _ FreshA_bs | exact FreshA.sl _ _ FreshA_is | exact FreshA.nils | exact FreshA.nilp | exact FreshA.int _ _ | exact FreshA.bool _ | exact FreshA.str _ | exact fresh_nil | refine fresh_cons ?_ ?_ | with_reducible refine fresh_aggR ?_ | with_reducible refine fresh_agg ?_ | with_reducible exact fresh_nilA | with_reducible refine fresh_consA ?_ ?_)); done)
            ))
            | ((conv => whnf) <;> (first
            | (with_reducible refine and_same ?_)
            | (with_reducible refine and_side ?_ ?_)
            | (with_reducible refine Br.yes rfl ?_)
            | ((with_reducible apply lenR_own) ; (focus assumption))
            | (with_reducible refine NOut.lit ?_)
            ))
            )
          all_goals (conv => whnf)
          all_goals (try dsimp only)
          exact ret_bool rfl
        · obtain ⟨q1, q2, q3⟩ := rdB_wr hB
          repeat' (first
            | ((with_reducible refine Side.intro ?_) <;> (first
            | omega
            ))
            | ((conv => whnf) <;> (first
            | (with_reducible refine and_same ?_)
            | (with_reducible refine and_side ?_ ?_)
            | ((with_reducible apply Br.yes) ; (focus omega))
            | (with_reducible refine lenR_sl ?_)
            ))
            )
          all_goals (conv => whnf)
          all_goals (try dsimp only)
          refine call_sl1 (Write_ok pages ((b.length / 128 : Nat) : Int) (rdL pages b) (by have := rdL_len pages b; omega)) (.cons (Looks.int _ _ _) (.cons (.same (by rw [hbl]; rfl)) (.cons (Looks.ownbk hm2) .nil))) rfl fun σ7 d hg7 hd hnd => ?_
          rw [q1]
          rw [q2] at hd
          repeat' (first
            | ((with_reducible refine Side.intro ?_) <;> (first
            | (simp only [List.append_nil, List.nil_append, List.map_nil]; first | exact List.nodup_nil | exact nodup_bid1 _ | exact nodup_bid2 (by assumption))
            | ((first | refine fresh_tup ?_ | skip); (repeat (first | exact fresh_bk _ |  exact FreshA.sl _ _ FreshA_bs | exact FreshA.sl _ _ FreshA_is | exact FreshA.nils | exact FreshA.nilp | exact FreshA.int _ _ | exact FreshA.bool _ | exact FreshA.str _ | exact fresh_nil | refine fresh_cons ?_ ?_ | with_reducible refine fresh_aggR ?_ | with_reducible refine fresh_agg ?_ | with_reducible exact fresh_nilA | with_reducible refine fresh_consA ?_ ?_)); done)
            ))
            | ((conv => whnf) <;> (first
            | (with_reducible refine and_same ?_)
            | (with_reducible refine and_side ?_ ?_)
            | (with_reducible refine Br.yes rfl ?_)
            | ((with_reducible apply rowsR_own) ; (focus assumption))
            | (with_reducible refine NOut.lit ?_)
            | (with_reducible refine rowsR_sl ?_)
            | ((with_reducible apply bytesR_intro) ; (focus (first | rfl | (simp only [bs_take, bs_drop, bs_append]; rfl))))
            ))
            )
          all_goals (conv => whnf)
          all_goals (try dsimp only)
          all_goals first
            | exact ret_bool rfl
            | (exfalso; exact absurd rfl ‹¬ _›)
end Go.Proofs.Ythalikgchafjiaa

namespace Go.Proofs.Ythalikgchafjiaa
open Go Go.Proofs.Ythalikgchafjiaa.V
theorem readsExtent {B : BulkF} (hB : Bulky B) : Reads Try.prog B 42 (fun p : Int × Int × Int => [.int .i64 p.1, .int .i64 p.2.1, .int .i64 p.2.2]) (fun _ => 1) (fun _ => True) := by
  have h := Reads.struct3 (n1 := 1) (n2 := 1) (n3 := 1) hB Try.underlying42 (by kernel_rfl) (.i64 hB (by kernel_rfl)) (.i64 hB (by kernel_rfl)) (.i64 hB (by kernel_rfl)) rfl (by kernel_rfl) rfl (by kernel_rfl) rfl (by kernel_rfl)
  exact h.iso (fun p => (p.1, p.2.1, p.2.2.1)) (fun _ => rfl) (fun p _ => by omega) (fun _ _ => trivial)
theorem readsEx {B : BulkF} (hB : Bulky B) : ReadsA Try.prog B 23 (fun U : List (Int × Int × Int) => .sl 3 (bk U) false) (fun U => U.length) (fun _ => True) := by
  refine .slice Try.underlying23 ?_
  refine Reads.iso (Reads.slice hB (sz := 3) Try.underlying23 (by kernel_rfl) (readsExtent hB) (fun _ => rfl)) id (fun _ => rfl) (fun l _ => ?_) (fun _ _ => trivial)
  rw [sum_ones]
  exact Nat.le_succ _
end Go.Proofs.Ythalikgchafjiaa

