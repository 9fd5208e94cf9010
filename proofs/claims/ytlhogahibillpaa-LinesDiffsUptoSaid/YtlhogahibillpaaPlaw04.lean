import Derived.Test.YtlhogahibillpaaPref04
import Derived.Test.YtlhogahibillpaaPlaw01
namespace Go.Proofs.Ytlhogahibillpaa
open Go Go.Proofs.Ytlhogahibillpaa.V
set_option maxRecDepth 20000
attribute [local irreducible] CallS AOK AOKn ALoop Side Ref.ok
theorem Few_ok (L : List (Int × List UInt8)) (hL : L.length ≤ 4611686018427) : AOKn Try.prog F.joistlaw04_Few [.sl 2 (chg false L) false] fun y => y = .bool (decide ((∀ p, p ∈ L → p.2.length ≤ 1024) ∧ L.length ≤ 300)) := by
  have hm := chg_length false L
  refine AOKn.by_steps mixed fc_joistlaw04_Few_ok (by simp [fc_joistlaw04_Few]) ?_
  skip
  all_goals (conv => whnf)
  all_goals (try dsimp only)
  refine loop_at (α := Nat) (fun a => [(3, .int .i64 a)]) (fun a => [])
      (fun a => a ≤ L.length ∧ ∀ j p, j < a → L[j]? = some p → p.2.length ≤ 1024) (fun a => L.length - a) 0 ⟨by omega, by simp⟩ rfl rfl ?_
  rintro k ⟨hk, hok⟩
  repeat' (first
    | ((with_reducible refine Side.intro ?_) <;> (first
    | omega
    | (simp only [List.append_nil, List.nil_append, List.map_nil]; first | exact List.nodup_nil | exact nodup_bid1 _ | exact nodup_bid2 (by assumption))
    | ((first | refine fresh_tup ?_ | skip); (repeat (first |  exact FreshA.sl _ _ FreshA_bs | exact FreshA.sl _ _ FreshA_is | exact FreshA.nils | exact FreshA.nilp | exact FreshA.int _ _ | exact FreshA.bool _ | exact FreshA.str _ | exact fresh_nil | refine fresh_cons ?_ ?_ | with_reducible refine fresh_aggR ?_ | with_reducible refine fresh_agg ?_ | with_reducible exact fresh_nilA | with_reducible refine fresh_consA ?_ ?_)); done)
    ))
    | ((conv => whnf) <;> (first
    | (with_reducible refine and_same ?_)
    | (with_reducible refine and_side ?_ ?_)
    | (with_reducible refine Br.mk (fun _ => ?_) (fun _ => ?_))
    | (with_reducible refine ia_sl ?_ ?_)
    | (with_reducible refine NOut.lit ?_)
    | (with_reducible refine lenR_sl ?_)
    ))
    )
  all_goals (conv => whnf)
  all_goals (try dsimp only)
  · obtain ⟨p, hp, hpk⟩ := getN (l := L) (k := k) (by omega)
    have hpl := bs_length p.2
    repeat' (first
      | ((with_reducible refine Side.intro ?_) <;> (first
      | (simp only [List.append_nil, List.nil_append, List.map_nil]; first | exact List.nodup_nil | exact nodup_bid1 _ | exact nodup_bid2 (by assumption))
      | ((first | refine fresh_tup ?_ | skip); (repeat (first |  exact FreshA.sl _ _ FreshA_bs | exact FreshA.sl _ _ FreshA_is | exact FreshA.nils | exact FreshA.nilp | exact FreshA.int _ _ | exact FreshA.bool _ | exact FreshA.str _ | exact fresh_nil | refine fresh_cons ?_ ?_ | with_reducible refine fresh_aggR ?_ | with_reducible refine fresh_agg ?_ | with_reducible exact fresh_nilA | with_reducible refine fresh_consA ?_ ?_)); done)
      ))
      | ((conv => whnf) <;> (first
      | (with_reducible refine and_same ?_)
      | (with_reducible refine and_side ?_ ?_)
      | ((with_reducible apply Br.yes) ; (focus omega))
      | (with_reducible refine Br.mk (fun _ => ?_) (fun _ => ?_))
      | ((with_reducible apply nthR_chg1) ; (focus assumption))
      | (with_reducible refine NOut.lit ?_)
      | (with_reducible refine lenR_sl ?_)
      ))
      )
    all_goals (conv => whnf)
    all_goals (try dsimp only)
    · exact ret_bool (decide_eq_false fun e => by have := e.1 p (List.mem_of_getElem? hpk); omega).symm
    · refine ⟨k + 1, rfl, rfl, ⟨by omega, fun j q hj hq => ?_⟩, by omega⟩
      by_cases e : j = k
      · subst e; rw [hpk] at hq; cases hq; omega
      · exact hok j q (by omega) hq
  · refine ret_bool (decide_eq_true ⟨fun p hp => ?_, by omega⟩).symm
    obtain ⟨j, hj⟩ := List.mem_iff_getElem?.1 hp
    exact hok j p (by have := (List.getElem?_eq_some_iff.1 hj).1; omega) hj
  · exact ret_bool (decide_eq_false fun e => by have := e.2; omega).symm
theorem untagLL_chg (fr : Bool) (L : List (Int × List UInt8)) : untagLL (chg fr L) = chg false L := by
  induction L with
  | nil => rfl
  | cons p L ih =>
    have e : chg fr (p :: L) = [.int .i64 p.1, .sl 1 (bs p.2) fr] :: chg fr L := rfl
    rw [e, untagLL, ih]
    simp [untagL, untag, untagLL_bs, chg]
theorem Looks.ownchg {σ : AH} {x : AV} {fr : Bool} {L : List (Int × List UInt8)} (h : Own σ 2 x (chg fr L)) : Looks σ x (.sl 2 (chg false L) false) := by
  have := Looks.own h
  rwa [untagLL_chg] at this
theorem looks_chg (σ : AH) (fr : Bool) (L : List (Int × List UInt8)) : Looks σ (.sl 2 (chg fr L) false) (.sl 2 (chg false L) false) := .same (by simp [derefV, derefC, AV.flat, untag, untagLL_chg])
def B0 : List UInt8 := (List.replicate 128 0).set 64 1
theorem diffs0 : diffs (List.replicate 128 0) B0 2 = [(1, B0.drop 64)] := by decide +kernel
theorem small_ok : AOKn Try.prog F.joistlaw04_small [] fun y => y = .bool true := by
  refine AOKn.by_steps mixed fc_joistlaw04_small_ok (by simp [fc_joistlaw04_small]) ?_
  have e128 : List.replicate (Int.toNat 128) [AV.int .u8 0] = bs (List.replicate 128 0) := bs_replicate 128
  have e64 : List.replicate (Int.toNat 64) [AV.int .u8 0] = bs (List.replicate 64 0) := bs_replicate 64
  repeat' (first
    | ((with_reducible refine Side.intro ?_) <;> (first
    | omega
    | exact Nat.le_of_ble_eq_true rfl
    | exact rfl
    ))
    | ((conv => whnf) <;> (first
    | (with_reducible refine and_same ?_)
    | (with_reducible refine and_side ?_ ?_)
    | ((with_reducible apply blkAt_intro) ; (focus (first
    | exact rfl
    )) ; (focus (first | rfl | assumption | omega)) ; (try dsimp only))
    | (with_reducible refine IaW.of ?_)
    ))
    )
  all_goals (conv => whnf)
  all_goals (try dsimp only)
  have l0 : (List.replicate 128 (0 : UInt8)).length = 128 := by simp
  have l1 : B0.length = 128 := by simp [B0]
  have e1 : (List.replicate (Int.toNat 128) [AV.int .u8 0]).set (0 + Int.toNat 64) [.int .u8 1] = bs B0 := by
    rw [e128]; exact bs_set _ _ 1
  rw [e1, e128]
  have k0 : Int.toNat 128 = (bs (List.replicate 128 0)).length := by rw [bs_length, l0]; rfl
  have k1 : Int.toNat 128 = (bs B0).length := by rw [bs_length, l1]; rfl
  have k2 : Int.toNat 64 = (bs (List.replicate 64 0)).length := by rw [bs_length, List.length_replicate]; rfl
  refine (lines_Diff_ok (List.replicate 128 0) B0 (by simp) (by omega)).call (.cons (Looks.ownbs (.mk' (sp := []) get_new k0 (by rw [List.append_nil]; rfl))) (.cons (Looks.ownbs (.mk' (sp := []) (get_old (get_set get_new)) k1 (by rw [List.append_nil]; rfl))) .nil)) ?_
  rintro _ x H1 rfl hg1 hG1
  rw [if_neg (by simp [l0, l1]), l0, diffs0] at hG1
  obtain ⟨l, _, rfl, hl, he, hlb, _, _⟩ := hG1.two
  obtain rfl := he.same_inv rfl
  replace hl := hl.own_inv
  have hb : Own H1 1 (.rsl ([] : AH).length 0 0 (Int.toNat 128) none) (bs B0) := Own.keepN hg1 (.mk' (sp := []) (get_old (get_set get_new)) k1 (by rw [List.append_nil]; rfl))
  clear hg1 hG1
  repeat' (first
    | ((with_reducible refine Side.intro ?_) <;> (first
    | omega
    ))
    | ((conv => whnf) <;> (first
    | (with_reducible refine and_side ?_ ?_)
    ))
    )
  all_goals (conv => whnf)
  all_goals (try dsimp only)
  rw [e64]
  refine (lines_Diff_ok (List.replicate 64 0) B0 (by simp) (by omega)).call (.cons (Looks.ownbs (.mk' (sp := []) get_new k2 (by rw [List.append_nil]; rfl))) (.cons (Looks.ownbs (hb.keepN (by (repeat (first
        | exact Gr.refl _ _
        | refine Gr.addN ?_ _
        ))))) .nil)) ?_
  rintro _ x H2 rfl hg1 hG1
  rw [if_pos (by simp [l1])] at hG1
  obtain ⟨l', _, rfl, hl', he, _, _, _⟩ := hG1.two
  obtain rfl := he.same_inv rfl
  obtain rfl := hl'.same_inv rfl
  replace hl := Own.keepN (Gr.trans (by (repeat (first
        | exact Gr.refl _ _
        | refine Gr.addN ?_ _
        ))) hg1) hl
  replace hb := Own.keepN (Gr.trans (by (repeat (first
        | exact Gr.refl _ _
        | refine Gr.addN ?_ _
        ))) hg1) hb
  clear hg1 hG1
  repeat' (first
    | ((with_reducible refine Side.intro ?_) <;> (first
    | omega
    ))
    | ((conv => whnf) <;> (first
    | (with_reducible refine and_side ?_ ?_)
    ))
    )
  all_goals (conv => whnf)
  all_goals (try dsimp only)
  rw [e128]
  refine (lines_Apply_ok (List.replicate 128 0) [(1, B0.drop 64)] (by simp) (by simp)).call (.cons (Looks.ownbs (.mk' (sp := []) get_new k0 (by rw [List.append_nil]; rfl))) (.cons (Looks.ownchg (hl.keepN (by (repeat (first
        | exact Gr.refl _ _
        | refine Gr.addN ?_ _
        ))))) .nil)) ?_
  rintro _ x H3 rfl hg1 hG1
  have hfit : (List.replicate 128 (0 : UInt8)).length % 64 = 0 ∧ ∀ p, p ∈ [((1 : Int), B0.drop 64)] → Fits ((List.replicate 128 (0 : UInt8)).length / 64) p := by
    refine ⟨by rw [l0], ?_⟩
    intro p hp
    simp only [List.mem_singleton] at hp
    subst hp
    exact ⟨by simp, by rw [l0]; decide, by rw [List.length_drop, l1]⟩
  have hlay : layL (List.replicate 128 0) [(1, B0.drop 64)] = B0 := by decide +kernel
  rw [if_pos hfit, hlay] at hG1
  obtain ⟨c, _, rfl, hc, he, _, _, _⟩ := hG1.two
  obtain rfl := he.same_inv rfl
  replace hc := hc.own_inv
  replace hl := Own.keepN (Gr.trans (by (repeat (first
        | exact Gr.refl _ _
        | refine Gr.addN ?_ _
        ))) hg1) hl
  replace hb := Own.keepN (Gr.trans (by (repeat (first
        | exact Gr.refl _ _
        | refine Gr.addN ?_ _
        ))) hg1) hb
  clear hg1 hG1
  obtain ⟨idl, genl, spl, rfl, hbl⟩ := hl.ne (by simp [chg])
  have c1 : (chg true [((1 : Int), B0.drop 64)]).length = 1 := rfl
  have c2 : (bs ((1 : Int), B0.drop 64).2).length = 64 := by rw [bs_length, List.length_drop, l1]
  repeat' (first
    | ((with_reducible refine Side.intro ?_) <;> (first
    | omega
    ))
    | ((conv => whnf) <;> (first
    | (with_reducible refine and_same ?_)
    | (with_reducible refine Br.yes rfl ?_)
    | ((with_reducible apply blkAt_intro) ; (focus (first
    | ((repeat (first
    | assumption
    )); done)
    )) ; (focus (first | rfl | assumption | omega)) ; (try dsimp only))
    | ((with_reducible apply lenR_own) ; (focus assumption))
    | ((with_reducible apply rowsR_own) ; (focus assumption))
    | ((with_reducible apply ia_own) ; (focus assumption))
    | (with_reducible refine lenR_sl ?_)
    | ((with_reducible apply bytesR_intro) ; (focus (first | rfl | (simp only [bs_take, bs_drop, bs_append]; rfl))))
    | (with_reducible intro _)
    ))
    )
  all_goals (conv => whnf)
  all_goals (try dsimp only)
  refine (lines_Right_ok 2 [(1, B0.drop 64)] (by simp)).call (.cons (Looks.int _ _ _) (.cons (Looks.ownchg hl) .nil)) ?_
  rintro _ x H4 rfl hg1 hG1
  obtain rfl := hG1.flat_inv rfl (by intros; simp)
  replace hl := Own.keepN hg1 hl
  have r1 : rightB 2 [((1 : Int), B0.drop 64)] = true := by decide +kernel
  have r2 : rightB 1 [((1 : Int), B0.drop 64)] = false := by decide +kernel
  rw [r1]
  skip
  all_goals (conv => whnf)
  all_goals (try dsimp only)
  refine (lines_Right_ok 1 [(1, B0.drop 64)] (by simp)).call (.cons (Looks.int _ _ _) (.cons (Looks.ownchg hl) .nil)) ?_
  rintro _ x H5 rfl hg2 hG2
  obtain rfl := hG2.flat_inv rfl (by intros; simp)
  rw [r2]
  repeat' (first
    | ((with_reducible refine Side.intro ?_) <;> (first
    | (simp only [List.append_nil, List.nil_append, List.map_nil]; first | exact List.nodup_nil | exact nodup_bid1 _ | exact nodup_bid2 (by assumption))
    | ((first | refine fresh_tup ?_ | skip); (repeat (first |  exact FreshA.sl _ _ FreshA_bs | exact FreshA.sl _ _ FreshA_is | exact FreshA.nils | exact FreshA.nilp | exact FreshA.int _ _ | exact FreshA.bool _ | exact FreshA.str _ | exact fresh_nil | refine fresh_cons ?_ ?_ | with_reducible refine fresh_aggR ?_ | with_reducible refine fresh_agg ?_ | with_reducible exact fresh_nilA | with_reducible refine fresh_consA ?_ ?_)); done)
    ))
    | ((conv => whnf) <;> (first
    | (with_reducible refine and_side ?_ ?_)
    | (with_reducible refine NOut.lit ?_)
    ))
    )
  all_goals (conv => whnf)
  all_goals (try dsimp only)
  exact ret_bool rfl
/-! ### The plain law -/
theorem ln_length {t : List UInt8} {i : Nat} (h : (i + 1) * 64 ≤ t.length) : (ln t i).length = 64 := by
  simp only [ln, List.length_drop, List.length_take]; omega
theorem layL_append (s : List UInt8) (l m : List (Int × List UInt8)) : layL s (l ++ m) = layL (layL s l) m := by simp [layL]
theorem diffs_fits {s t : List UInt8} (hl : s.length = t.length) {n : Nat} (hn : n ≤ s.length / 64) : ∀ p, p ∈ diffs s t n → Fits (s.length / 64) p := by
  intro p hp
  simp only [diffs, List.mem_map, List.mem_filter, List.mem_range] at hp
  obtain ⟨i, ⟨h1, _⟩, rfl⟩ := hp
  exact ⟨by simp, by simp; omega, by simp only; exact ln_length (by omega)⟩
theorem layL_diffs {s t : List UInt8} (hl : s.length = t.length) : ∀ n, n ≤ s.length / 64 → layL s (diffs s t n) = t.take (n * 64) ++ s.drop (n * 64)
  | 0, _ => by simp [diffs, layL]
  | n + 1, h => by
    rw [diffs_succ, layL_append, layL_diffs hl n (by omega)]
    have e1 : t.take ((n + 1) * 64) = t.take (n * 64) ++ ln t n := by
      unfold ln
      rw [List.drop_take, show (n + 1) * 64 - n * 64 = 64 from by omega, show (n + 1) * 64 = n * 64 + 64 from by omega, List.take_add]
    have e2 : s.drop (n * 64) = ln s n ++ s.drop ((n + 1) * 64) := by
      unfold ln
      rw [List.drop_take, show (n + 1) * 64 = n * 64 + 64 from by omega, ← List.drop_drop, show n * 64 + 64 - n * 64 = 64 from by omega, List.take_append_drop]
    have ht : (t.take (n * 64)).length = n * 64 := by rw [List.length_take]; omega
    split
    · simp only [layL, List.foldl_cons, List.foldl_nil, lay1, Int.ofNat_eq_natCast, Int.toNat_natCast]
      rw [List.take_append_of_le_length (by omega), List.take_of_length_le (by omega), List.drop_append, List.drop_of_length_le (by omega), ht, List.drop_drop, e1]
      simp only [List.nil_append]
      congr 2
      omega
    · rename_i hne
      simp only [ne_eq, Decidable.not_not] at hne
      rw [show layL (t.take (n * 64) ++ s.drop (n * 64)) [] = t.take (n * 64) ++ s.drop (n * 64) from rfl, e1, e2, hne, List.append_assoc]
theorem layL_full {s t : List UInt8} (hl : s.length = t.length) (h64 : s.length % 64 = 0) : layL s (diffs s t (s.length / 64)) = t := by
  rw [layL_diffs hl _ (Nat.le_refl _), show s.length / 64 * 64 = s.length from by omega, List.drop_length, List.append_nil, List.take_of_length_le (by omega)]
theorem diffs_self (t : List UInt8) (n : Nat) : diffs t t n = [] := by
  simp [diffs]
theorem okAt_diffs {s t : List UInt8} (hl : s.length = t.length) {n : Nat} (hn : n ≤ s.length / 64) : ∀ j, j < (diffs s t n).length → okAt ((s.length / 64 : Nat) : Int) (diffs s t n) j = true := by
  have hsorted : ∀ n, (diffs s t n).Pairwise fun p q => p.1 < q.1 := by
    intro n
    unfold diffs
    rw [List.pairwise_map]
    refine List.Pairwise.filter _ ?_
    refine List.Pairwise.imp ?_ (List.pairwise_lt_range (n := n))
    intro a b h
    simp only [Int.ofNat_eq_natCast]
    omega
  intro j hj
  have hg := List.getElem?_eq_getElem hj
  have hf := diffs_fits hl hn _ (List.getElem_mem hj)
  unfold okAt
  rw [hg]
  simp only [Bool.and_eq_true, decide_eq_true_eq]
  refine ⟨hf, ?_⟩
  cases j with
  | zero => rfl
  | succ i =>
    simp only [List.getElem?_eq_getElem (show i < (diffs s t n).length from by omega), decide_eq_true_eq]
    exact List.pairwise_iff_getElem.1 (hsorted n) i (i + 1) (by omega) hj (by omega)
theorem right_diffs {s t : List UInt8} (hl : s.length = t.length) : rightB ((s.length / 64 : Nat) : Int) (diffs s t (s.length / 64)) = true :=
  rightB_true (okAt_diffs hl (Nat.le_refl _))
/-! ### The walk -/
theorem LinesBack_ok (s t : List UInt8) (hs : s.length ≤ 1048576) (ht : t.length ≤ 1048576) : AOKn Try.prog F.joistlaw04_LinesBack [.sl 1 (bs s) false, .sl 1 (bs t) false] fun y => y = .bool true := by
  have hn := bs_length s
  have hm := bs_length t
  refine AOKn.by_steps mixed fc_joistlaw04_LinesBack_ok (by simp [fc_joistlaw04_LinesBack]) ?_
  skip
  all_goals (conv => whnf)
  all_goals (try dsimp only)
  refine small_ok.call .nil ?_
  rintro _ x σ0 rfl _ hG
  obtain rfl := hG.flat_inv rfl (by intros; simp)
  skip
  all_goals (conv => whnf)
  all_goals (try dsimp only)
  refine (lines_Diff_ok s t (by omega) (by omega)).call (.cons (.bs _ _ _) (.cons (.bs _ _ _) .nil)) ?_
  rintro _ x σ1 rfl hg hG
  by_cases hc : s.length ≠ t.length ∨ s.length % 64 ≠ 0
  · rw [if_pos hc] at hG
    obtain ⟨l, _, rfl, hl, he, _⟩ := hG.two
    obtain rfl := he.same_inv rfl
    obtain rfl := hl.same_inv rfl
    repeat' (first
      | ((with_reducible refine Side.intro ?_) <;> (first
      | omega
      | (simp only [List.append_nil, List.nil_append, List.map_nil]; first | exact List.nodup_nil | exact nodup_bid1 _ | exact nodup_bid2 (by assumption))
      | ((first | refine fresh_tup ?_ | skip); (repeat (first |  exact FreshA.sl _ _ FreshA_bs | exact FreshA.sl _ _ FreshA_is | exact FreshA.nils | exact FreshA.nilp | exact FreshA.int _ _ | exact FreshA.bool _ | exact FreshA.str _ | exact fresh_nil | refine fresh_cons ?_ ?_ | with_reducible refine fresh_aggR ?_ | with_reducible refine fresh_agg ?_ | with_reducible exact fresh_nilA | with_reducible refine fresh_consA ?_ ?_)); done)
      ))
      | ((conv => whnf) <;> (first
      | (with_reducible refine and_same ?_)
      | (with_reducible refine and_side ?_ ?_)
      | (with_reducible refine Br.yes rfl ?_)
      | ((with_reducible apply Br.yes) ; (focus omega))
      | (with_reducible refine Br.mk (fun _ => ?_) (fun _ => ?_))
      | (with_reducible refine NOut.lit ?_)
      | (with_reducible refine lenR_sl ?_)
      | (with_reducible refine lenR_nils ?_)
      ))
      )
    all_goals (conv => whnf)
    all_goals (try dsimp only)
    all_goals exact ret_bool rfl
  · rw [if_neg hc] at hG
    obtain ⟨l, _, rfl, hl, he, _⟩ := hG.two
    obtain rfl := he.same_inv rfl
    replace hl := hl.own_inv
    repeat' (first
      | ((conv => whnf) <;> (first
      | (with_reducible refine and_same ?_)
      | ((with_reducible apply Br.no) ; (focus omega))
      ))
      )
    all_goals (conv => whnf)
    all_goals (try dsimp only)
    have hd : (diffs s t (s.length / 64)).length ≤ s.length / 64 := diffs_le s t _
    refine (lines_Apply_ok s (diffs s t (s.length / 64)) (by omega) (by omega)).call (.cons (.bs _ _ _) (.cons (Looks.ownchg hl) .nil)) ?_
    rintro _ x σ2 rfl hg2 hG2
    rw [if_pos ⟨by omega, diffs_fits (by omega) (Nat.le_refl _)⟩, layL_full (by omega) (by omega)] at hG2
    obtain ⟨c, _, rfl, hc2, he, _⟩ := hG2.two
    obtain rfl := he.same_inv rfl
    replace hc2 := hc2.own_inv
    replace hl := hl.keepN hg2
    skip
    all_goals (conv => whnf)
    all_goals (try dsimp only)
    refine (lines_Diff_ok t t (by omega) (by omega)).call (.cons (Looks.ownbs hc2) (.cons (.bs _ _ _) .nil)) ?_
    rintro _ x σ3 rfl hg3 hG3
    rw [if_neg (by omega), diffs_self] at hG3
    obtain ⟨m, _, rfl, hm2, he, _⟩ := hG3.two
    obtain rfl := he.same_inv rfl
    replace hm2 := hm2.own_inv
    replace hl := hl.keepN hg3
    replace hc2 := hc2.keepN hg3
    repeat' (first
      | ((with_reducible refine Side.intro ?_) <;> (first
      | omega
      ))
      | ((conv => whnf) <;> (first
      | (with_reducible refine and_same ?_)
      | (with_reducible refine and_side ?_ ?_)
      | (with_reducible refine Br.yes rfl ?_)
      | ((with_reducible apply Br.yes) ; (focus omega))
      | ((with_reducible apply rowsR_own) ; (focus assumption))
      | (with_reducible refine lenR_sl ?_)
      | (with_reducible refine rowsR_sl ?_)
      | ((with_reducible apply bytesR_intro) ; (focus (first | rfl | (simp only [bs_take, bs_drop, bs_append]; rfl))))
      ))
      )
    all_goals (conv => whnf)
    all_goals (try dsimp only)
    have er : ((s.length / 64 : Nat) : Int) = (s.length : Int) / 64 := by omega
    refine (lines_Right_ok ((s.length : Int) / 64) (diffs s t (s.length / 64)) (by omega)).call (.cons (by rw [hn]; exact Looks.int _ _ _) (.cons (Looks.ownchg hl) .nil)) ?_
    rintro _ x σ4 rfl hg4 hG4
    obtain rfl := hG4.flat_inv rfl (by intros; simp)
    rw [← er, right_diffs (by omega)]
    replace hm2 := hm2.keepN hg4
    repeat' (first
      | ((with_reducible refine Side.intro ?_) <;> (first
      | (simp only [List.append_nil, List.nil_append, List.map_nil]; first | exact List.nodup_nil | exact nodup_bid1 _ | exact nodup_bid2 (by assumption))
      | ((first | refine fresh_tup ?_ | skip); (repeat (first |  exact FreshA.sl _ _ FreshA_bs | exact FreshA.sl _ _ FreshA_is | exact FreshA.nils | exact FreshA.nilp | exact FreshA.int _ _ | exact FreshA.bool _ | exact FreshA.str _ | exact fresh_nil | refine fresh_cons ?_ ?_ | with_reducible refine fresh_aggR ?_ | with_reducible refine fresh_agg ?_ | with_reducible exact fresh_nilA | with_reducible refine fresh_consA ?_ ?_)); done)
      ))
      | ((conv => whnf) <;> (first
      | (with_reducible refine and_same ?_)
      | (with_reducible refine and_side ?_ ?_)
      | (with_reducible refine Br.yes rfl ?_)
      | ((with_reducible apply lenR_own) ; (focus assumption))
      | (with_reducible refine NOut.lit ?_)
      ))
      )
    all_goals (conv => whnf)
    all_goals (try dsimp only)
    exact ret_bool rfl
/-! ### LinesTwice, LinesMerges: the plain laws -/
/-- Where a change lies. -/
def hits (p : Int × List UInt8) (i : Nat) : Prop := p.1.toNat * 64 ≤ i ∧ i < p.1.toNat * 64 + 64
instance (p : Int × List UInt8) (i : Nat) : Decidable (hits p i) := by unfold hits; infer_instance
def ov (L : List (Int × List UInt8)) (i : Nat) (d : Option UInt8) : Option UInt8 := L.foldl (fun d p => if hits p i then p.2[i - p.1.toNat * 64]? else d) d
theorem lay1_get {s : List UInt8} {p : Int × List UInt8} (h : Fits (s.length / 64) p) (i : Nat) : (lay1 s p)[i]? = if hits p i then p.2[i - p.1.toNat * 64]? else s[i]? := by
  obtain ⟨h1, h2, h3⟩ := h
  have e1 : (s.take (p.1.toNat * 64)).length = p.1.toNat * 64 := by rw [List.length_take]; omega
  unfold lay1
  by_cases c1 : i < p.1.toNat * 64
  · rw [if_neg (by unfold hits; omega), List.getElem?_append_left (by simp; omega), List.getElem?_append_left (by omega), List.getElem?_take_of_lt c1]
  · by_cases c2 : i < p.1.toNat * 64 + 64
    · rw [if_pos (by unfold hits; omega), List.getElem?_append_left (by simp; omega), List.getElem?_append_right (by omega), e1]
    · rw [if_neg (by unfold hits; omega), List.getElem?_append_right (by simp; omega), List.getElem?_drop]
      congr 1
      simp only [List.length_append, e1, h3]
      omega
theorem layL_get : ∀ {L : List (Int × List UInt8)} {s : List UInt8}, (∀ p, p ∈ L → Fits (s.length / 64) p) → ∀ i, (layL s L)[i]? = ov L i (s[i]?)
  | [], s, _, i => rfl
  | p :: L, s, h, i => by
    have hp := h p (by simp)
    have := layL_get (L := L) (s := lay1 s p) (fun q hq => by rw [lay1_length hp]; exact h q (by simp [hq])) i
    rw [lay1_get hp] at this
    exact this
theorem ov_const : ∀ (L : List (Int × List UInt8)) (i : Nat), (∀ d d', ov L i d = ov L i d') ∨ (∀ d, ov L i d = d)
  | [], i => .inr fun d => rfl
  | p :: L, i => by
    rcases ov_const L i with h | h
    · exact .inl fun d d' => h _ _
    · by_cases hp : hits p i
      · exact .inl fun d d' => by simp only [ov, List.foldl_cons, if_pos hp]
      · exact .inr fun d => by
          have := h d
          simp only [ov, List.foldl_cons, if_neg hp] at this ⊢; exact this
theorem ov_val {i : Nat} {v : Option UInt8} : ∀ {L : List (Int × List UInt8)} {d : Option UInt8}, (∀ p, p ∈ L → hits p i → p.2[i - p.1.toNat * 64]? = v) → ((∃ p, p ∈ L ∧ hits p i) ∨ d = v) → ov L i d = v
  | [], d, _, h => by
    rcases h with ⟨p, hp, _⟩ | h
    · simp at hp
    · exact h
  | p :: L, d, ha, h => by
    have := ov_val (i := i) (v := v) (L := L) (d := if hits p i then p.2[i - p.1.toNat * 64]? else d) (fun q hq => ha q (by simp [hq])) (by
      by_cases hp : hits p i
      · exact .inr (by rw [if_pos hp]; exact ha p (by simp) hp)
      · rw [if_neg hp]
        rcases h with ⟨q, hq, hh⟩ | h
        · rcases List.mem_cons.1 hq with rfl | hq
          · exact absurd hh hp
          · exact .inl ⟨q, hq, hh⟩
        · exact .inr h)
    exact this
theorem layL_twice {s : List UInt8} {L : List (Int × List UInt8)} (h : ∀ p, p ∈ L → Fits (s.length / 64) p) : layL (layL s L) L = layL s L := by
  have hl := layL_length (s := s) (t := s) rfl h
  apply List.ext_getElem?
  intro i
  rw [layL_get (by rw [hl]; exact h), layL_get h]
  rcases ov_const L i with e | e
  · exact e _ _
  · rw [e]
theorem mem_diffs {s t : List UInt8} {n : Nat} {p : Int × List UInt8} : p ∈ diffs s t n ↔ ∃ i, i < n ∧ ln s i ≠ ln t i ∧ p = (((i : Nat) : Int), ln t i) := by
  simp only [diffs, List.mem_map, List.mem_filter, List.mem_range, decide_eq_true_eq]
  constructor
  · rintro ⟨i, ⟨h1, h2⟩, rfl⟩; exact ⟨i, h1, h2, rfl⟩
  · rintro ⟨i, h1, h2, rfl⟩; exact ⟨i, ⟨h1, h2⟩, rfl⟩
theorem ln_get {t : List UInt8} {i j : Nat} (h1 : j * 64 ≤ i) (h2 : i < j * 64 + 64) : (ln t j)[i - j * 64]? = t[i]? := by
  unfold ln
  rw [List.getElem?_drop, show j * 64 + (i - j * 64) = i from by omega, List.getElem?_take_of_lt (by omega)]
/-- In whatever order. -/
theorem layL_any {s t : List UInt8} (hl : s.length = t.length) (h64 : s.length % 64 = 0) {L : List (Int × List UInt8)} (hL : ∀ p, p ∈ L ↔ p ∈ diffs s t (s.length / 64)) : layL s L = t := by
  have hf : ∀ p, p ∈ L → Fits (s.length / 64) p := fun p hp => diffs_fits hl (Nat.le_refl _) p ((hL p).1 hp)
  apply List.ext_getElem?
  intro i
  rw [layL_get hf]
  by_cases hi : i < s.length
  · refine ov_val ?_ ?_
    · intro p hp hh
      obtain ⟨j, h1, h2, rfl⟩ := mem_diffs.1 ((hL p).1 hp)
      simp only [hits, Int.toNat_natCast] at hh
      simp only [Int.toNat_natCast]
      exact ln_get hh.1 hh.2
    · by_cases he : ln s (i / 64) = ln t (i / 64)
      · right
        rw [← ln_get (t := s) (j := i / 64) (by omega) (by omega), he, ln_get (by omega) (by omega)]
      · left
        refine ⟨_, (hL _).2 (mem_diffs.2 ⟨i / 64, by omega, he, rfl⟩), ?_⟩
        simp only [hits, Int.toNat_natCast]
        omega
  · rw [List.getElem?_eq_none (by omega : s.length ≤ i), List.getElem?_eq_none (by omega : t.length ≤ i)]
    refine ov_val ?_ (.inr rfl)
    intro p hp hh
    obtain ⟨h1, h2, h3⟩ := hf p hp
    simp only [hits] at hh
    omega
theorem LinesTwice_ok (s : List UInt8) (L : List (Int × List UInt8)) (hs : s.length ≤ 1048576) (hL : L.length ≤ 1048576) : AOKn Try.prog F.joistlaw04_LinesTwice [.sl 1 (bs s) false, .sl 2 (chg false L) false] fun y => y = .bool true := by
  have hn := bs_length s
  have hm := chg_length false L
  refine AOKn.by_steps mixed fc_joistlaw04_LinesTwice_ok (by simp [fc_joistlaw04_LinesTwice]) ?_
  skip
  all_goals (conv => whnf)
  all_goals (try dsimp only)
  refine small_ok.call .nil ?_
  rintro _ x σ0 rfl _ hG
  obtain rfl := hG.flat_inv rfl (by intros; simp)
  skip
  all_goals (conv => whnf)
  all_goals (try dsimp only)
  refine (Few_ok L (by omega)).call (.cons (looks_chg _ _ _) .nil) ?_
  rintro _ x σ1 rfl hg hG
  obtain rfl := hG.flat_inv rfl (by intros; simp)
  obtain ⟨few, hfew⟩ : ∃ few, few = decide ((∀ p, p ∈ L → p.2.length ≤ 1024) ∧ L.length ≤ 300) := ⟨_, rfl⟩
  rw [← hfew]
  skip
  all_goals (conv => whnf)
  all_goals (try dsimp only)
  refine (lines_Apply_ok s L (by omega) (by omega)).call (.cons (.bs _ _ _) (.cons (looks_chg _ _ _) .nil)) ?_
  rintro _ x σ2 rfl hg2 hG2
  by_cases hc : s.length % 64 = 0 ∧ ∀ p, p ∈ L → Fits (s.length / 64) p
  · rw [if_pos hc] at hG2
    obtain ⟨b, _, rfl, hb, he, _⟩ := hG2.two
    obtain rfl := he.same_inv rfl
    replace hb := hb.own_inv
    have hbl : (layL s L).length = s.length := layL_length rfl hc.2
    have hbl2 := bs_length (layL s L)
    cases few
    · repeat' (first
        | ((with_reducible refine Side.intro ?_) <;> (first
        | (simp only [List.append_nil, List.nil_append, List.map_nil]; first | exact List.nodup_nil | exact nodup_bid1 _ | exact nodup_bid2 (by assumption))
        | ((first | refine fresh_tup ?_ | skip); (repeat (first |  exact FreshA.sl _ _ FreshA_bs | exact FreshA.sl _ _ FreshA_is | exact FreshA.nils | exact FreshA.nilp | exact FreshA.int _ _ | exact FreshA.bool _ | exact FreshA.str _ | exact fresh_nil | refine fresh_cons ?_ ?_ | with_reducible refine fresh_aggR ?_ | with_reducible refine fresh_agg ?_ | with_reducible exact fresh_nilA | with_reducible refine fresh_consA ?_ ?_)); done)
        ))
        | ((conv => whnf) <;> (first
        | (with_reducible refine and_same ?_)
        | (with_reducible refine and_side ?_ ?_)
        | (with_reducible refine Br.mk (fun _ => ?_) (fun _ => ?_))
        | ((with_reducible apply lenR_own) ; (focus assumption))
        | (with_reducible refine NOut.lit ?_)
        ))
        )
      all_goals (conv => whnf)
      all_goals (try dsimp only)
      all_goals exact ret_bool rfl
    · repeat' (first
        | ((conv => whnf) <;> (first
        | (with_reducible refine and_same ?_)
        | ((with_reducible apply Br.no) ; (focus omega))
        ))
        )
      all_goals (conv => whnf)
      all_goals (try dsimp only)
      refine (lines_Apply_ok (layL s L) L (by omega) (by omega)).call (.cons (Looks.ownbs hb) (.cons (looks_chg _ _ _) .nil)) ?_
      rintro _ x σ3 rfl hg3 hG3
      rw [if_pos (by rw [hbl]; exact hc), layL_twice hc.2] at hG3
      obtain ⟨c, _, rfl, hc3, he, _⟩ := hG3.two
      obtain rfl := he.same_inv rfl
      replace hc3 := hc3.own_inv
      replace hb := hb.keepN hg3
      repeat' (first
        | ((with_reducible refine Side.intro ?_) <;> (first
        | omega
        ))
        | ((conv => whnf) <;> (first
        | (with_reducible refine and_side ?_ ?_)
        | ((with_reducible apply appendR_lit) ; (focus (first
        | ((repeat (first
        | exact get_new
        | exact get_set get_new
        )); done)
        )) ; (focus (first | rfl | assumption)) ; (focus rfl) ; (focus rfl) ; (focus rfl) ; (focus (first | exact Nat.zero_le _ | omega | (simp; done) | (simp; omega))) ; (try dsimp only))
        | (with_reducible refine AppC.frz ?_)
        | (with_reducible refine rowsR_sl ?_)
        ))
        )
      all_goals (conv => whnf)
      all_goals (try dsimp only)
      refine (lines_Apply_ok s (L ++ L) (by omega) (by rw [List.length_append]; omega)).call (.cons (.bs _ _ _) (.cons (Looks.ownchg (fr := false) (.mk' (sp := []) (get_set (get_set get_new)) (by simp only [chg_length, List.length_append]; omega) ?_)) .nil)) ?_
      · simp only [chg_append, List.append_nil, List.replicate_zero, List.take_nil, List.nil_append]
        rw [List.take_of_length_le (by simp)]
      rintro _ x σ4 rfl hg4 hG4
      have hLL : s.length % 64 = 0 ∧ ∀ p, p ∈ L ++ L → Fits (s.length / 64) p := ⟨hc.1, fun p hp => by rcases List.mem_append.1 hp with h | h <;> exact hc.2 p h⟩
      rw [if_pos hLL, layL_append, layL_twice hc.2] at hG4
      obtain ⟨d, _, rfl, hd4, he, _⟩ := hG4.two
      obtain rfl := he.same_inv rfl
      replace hd4 := hd4.own_inv
      replace hb := hb.keepN (Gr.trans (by (repeat (first
            | exact Gr.refl _ _
            | refine Gr.setNew ?_ (by first | exact Nat.le_refl _ | (simp only [newB_length, List.length_set, List.length_append, List.length_singleton]; omega) | omega) _
            | refine Gr.addN ?_ _
            ))) hg4)
      replace hc3 := hc3.keepN (Gr.trans (by (repeat (first
            | exact Gr.refl _ _
            | refine Gr.setNew ?_ (by first | exact Nat.le_refl _ | (simp only [newB_length, List.length_set, List.length_append, List.length_singleton]; omega) | omega) _
            | refine Gr.addN ?_ _
            ))) hg4)
      repeat' (first
        | ((with_reducible refine Side.intro ?_) <;> (first
        | (simp only [List.append_nil, List.nil_append, List.map_nil]; first | exact List.nodup_nil | exact nodup_bid1 _ | exact nodup_bid2 (by assumption))
        | ((first | refine fresh_tup ?_ | skip); (repeat (first |  exact FreshA.sl _ _ FreshA_bs | exact FreshA.sl _ _ FreshA_is | exact FreshA.nils | exact FreshA.nilp | exact FreshA.int _ _ | exact FreshA.bool _ | exact FreshA.str _ | exact fresh_nil | refine fresh_cons ?_ ?_ | with_reducible refine fresh_aggR ?_ | with_reducible refine fresh_agg ?_ | with_reducible exact fresh_nilA | with_reducible refine fresh_consA ?_ ?_)); done)
        ))
        | ((conv => whnf) <;> (first
        | (with_reducible refine and_same ?_)
        | (with_reducible refine and_side ?_ ?_)
        | (with_reducible refine Br.yes rfl ?_)
        | ((with_reducible apply Br.yes) ; (focus omega))
        | ((with_reducible apply lenR_own) ; (focus assumption))
        | ((with_reducible apply rowsR_own) ; (focus assumption))
        | (with_reducible refine NOut.lit ?_)
        | (with_reducible refine lenR_sl ?_)
        | ((with_reducible apply bytesR_intro) ; (focus (first | rfl | (simp only [bs_take, bs_drop, bs_append]; rfl))))
        ))
        )
      all_goals (conv => whnf)
      all_goals (try dsimp only)
      exact ret_bool rfl
  · rw [if_neg hc] at hG2
    obtain ⟨b, _, rfl, hb, he, _⟩ := hG2.two
    obtain rfl := he.same_inv rfl
    obtain rfl := hb.same_inv rfl
    cases few
    · repeat' (first
        | ((with_reducible refine Side.intro ?_) <;> (first
        | (simp only [List.append_nil, List.nil_append, List.map_nil]; first | exact List.nodup_nil | exact nodup_bid1 _ | exact nodup_bid2 (by assumption))
        | ((first | refine fresh_tup ?_ | skip); (repeat (first |  exact FreshA.sl _ _ FreshA_bs | exact FreshA.sl _ _ FreshA_is | exact FreshA.nils | exact FreshA.nilp | exact FreshA.int _ _ | exact FreshA.bool _ | exact FreshA.str _ | exact fresh_nil | refine fresh_cons ?_ ?_ | with_reducible refine fresh_aggR ?_ | with_reducible refine fresh_agg ?_ | with_reducible exact fresh_nilA | with_reducible refine fresh_consA ?_ ?_)); done)
        ))
        | ((conv => whnf) <;> (first
        | (with_reducible refine and_same ?_)
        | (with_reducible refine and_side ?_ ?_)
        | (with_reducible refine Br.yes rfl ?_)
        | (with_reducible refine NOut.lit ?_)
        | (with_reducible refine lenR_nils ?_)
        ))
        )
      all_goals (conv => whnf)
      all_goals (try dsimp only)
      all_goals exact ret_bool rfl
    · repeat' (first
        | ((with_reducible refine Side.intro ?_) <;> (first
        | (simp only [List.append_nil, List.nil_append, List.map_nil]; first | exact List.nodup_nil | exact nodup_bid1 _ | exact nodup_bid2 (by assumption))
        | ((first | refine fresh_tup ?_ | skip); (repeat (first |  exact FreshA.sl _ _ FreshA_bs | exact FreshA.sl _ _ FreshA_is | exact FreshA.nils | exact FreshA.nilp | exact FreshA.int _ _ | exact FreshA.bool _ | exact FreshA.str _ | exact fresh_nil | refine fresh_cons ?_ ?_ | with_reducible refine fresh_aggR ?_ | with_reducible refine fresh_agg ?_ | with_reducible exact fresh_nilA | with_reducible refine fresh_consA ?_ ?_)); done)
        ))
        | ((conv => whnf) <;> (first
        | (with_reducible refine and_same ?_)
        | (with_reducible refine and_side ?_ ?_)
        | (with_reducible refine Br.yes rfl ?_)
        | ((with_reducible apply Br.yes) ; (focus omega))
        | (with_reducible refine NOut.lit ?_)
        | (with_reducible refine lenR_nils ?_)
        ))
        )
      all_goals (conv => whnf)
      all_goals (try dsimp only)
      all_goals exact ret_bool rfl
def hasB (Y : List (Int × List UInt8)) (v : Int) (k : Nat) : Bool := (Y.take k).any fun p => p.1 == v
theorem hasB_succ {Y : List (Int × List UInt8)} {v : Int} {k : Nat} {p : Int × List UInt8} (h : Y[k]? = some p) : hasB Y v (k + 1) = (hasB Y v k || p.1 == v) := by
  unfold hasB; rw [List.take_add_one, h]; simp
theorem merges_found {s t u : List UInt8} {n : Nat} {p : Int × List UInt8} (hp : p ∈ diffs s u n) : (hasB (diffs s t n) p.1 (diffs s t n).length || hasB (diffs t u n) p.1 (diffs t u n).length) = true := by
  obtain ⟨i, h1, h2, rfl⟩ := mem_diffs.1 hp
  unfold hasB
  rw [List.take_length, List.take_length, Bool.or_eq_true]
  by_cases h : ln s i = ln t i
  · right
    exact List.any_eq_true.2 ⟨_, mem_diffs.2 ⟨i, h1, by rw [← h]; exact h2, rfl⟩, by simp⟩
  · left
    exact List.any_eq_true.2 ⟨_, mem_diffs.2 ⟨i, h1, h, rfl⟩, by simp⟩
theorem LinesMerges_ok (s t u : List UInt8) (hs : s.length ≤ 1048576) (ht : t.length ≤ 1048576) (hu : u.length ≤ 1048576) : AOKn Try.prog F.joistlaw04_LinesMerges [.sl 1 (bs s) false, .sl 1 (bs t) false, .sl 1 (bs u) false] fun y => y = .bool true := by
  have hn := bs_length s
  refine AOKn.by_steps mixed fc_joistlaw04_LinesMerges_ok (by simp [fc_joistlaw04_LinesMerges]) ?_
  skip
  all_goals (conv => whnf)
  all_goals (try dsimp only)
  refine small_ok.call .nil ?_
  rintro _ x σ0 rfl _ hG
  obtain rfl := hG.flat_inv rfl (by intros; simp)
  skip
  all_goals (conv => whnf)
  all_goals (try dsimp only)
  refine (lines_Diff_ok s u (by omega) (by omega)).call (.cons (.bs _ _ _) (.cons (.bs _ _ _) .nil)) ?_
  rintro _ r1 σ1 hr1 hg1 hG1
  obtain ⟨x, ex, rfl, hx, hex⟩ : ∃ x ex, r1 = .tup [x, .int .i64 ex] ∧ Own σ1 2 x (if ex = 0 then chg true (diffs s u (s.length / 64)) else []) ∧ (ex = 0 → s.length = u.length ∧ s.length % 64 = 0) := by
    subst hr1
    split at hG1
    · obtain ⟨x, _, rfl, hx, he, _⟩ := hG1.two
      obtain rfl := he.same_inv rfl
      obtain rfl := hx.same_inv rfl
      exact ⟨_, 1, rfl, Own.nil _ _, by omega⟩
    · obtain ⟨x, _, rfl, hx, he, _⟩ := hG1.two
      obtain rfl := he.same_inv rfl
      exact ⟨_, 0, rfl, by simpa using hx.own_inv, fun _ => by omega⟩
  clear hr1 hG1
  skip
  all_goals (conv => whnf)
  all_goals (try dsimp only)
  refine (lines_Diff_ok s t (by omega) (by omega)).call (.cons (.bs _ _ _) (.cons (.bs _ _ _) .nil)) ?_
  rintro _ r1 σ2 hr1 hg2 hG1
  obtain ⟨y, ey, rfl, hy, hey⟩ : ∃ x ex, r1 = .tup [x, .int .i64 ex] ∧ Own σ2 2 x (if ex = 0 then chg true (diffs s t (s.length / 64)) else []) ∧ (ex = 0 → s.length = t.length ∧ s.length % 64 = 0) := by
    subst hr1
    split at hG1
    · obtain ⟨x, _, rfl, hx, he, _⟩ := hG1.two
      obtain rfl := he.same_inv rfl
      obtain rfl := hx.same_inv rfl
      exact ⟨_, 1, rfl, Own.nil _ _, by omega⟩
    · obtain ⟨x, _, rfl, hx, he, _⟩ := hG1.two
      obtain rfl := he.same_inv rfl
      exact ⟨_, 0, rfl, by simpa using hx.own_inv, fun _ => by omega⟩
  clear hr1 hG1
  replace hx := hx.keepN hg2
  skip
  all_goals (conv => whnf)
  all_goals (try dsimp only)
  refine (lines_Diff_ok t u (by omega) (by omega)).call (.cons (.bs _ _ _) (.cons (.bs _ _ _) .nil)) ?_
  rintro _ r1 σ3 hr1 hg3 hG1
  obtain ⟨z, ez, rfl, hz, hez⟩ : ∃ x ex, r1 = .tup [x, .int .i64 ex] ∧ Own σ3 2 x (if ex = 0 then chg true (diffs t u (t.length / 64)) else []) ∧ (ex = 0 → t.length = u.length ∧ t.length % 64 = 0) := by
    subst hr1
    split at hG1
    · obtain ⟨x, _, rfl, hx, he, _⟩ := hG1.two
      obtain rfl := he.same_inv rfl
      obtain rfl := hx.same_inv rfl
      exact ⟨_, 1, rfl, Own.nil _ _, by omega⟩
    · obtain ⟨x, _, rfl, hx, he, _⟩ := hG1.two
      obtain rfl := he.same_inv rfl
      exact ⟨_, 0, rfl, by simpa using hx.own_inv, fun _ => by omega⟩
  clear hr1 hG1
  replace hx := hx.keepN hg3
  replace hy := hy.keepN hg3
  by_cases hc : ex = 0 ∧ ey = 0 ∧ ez = 0
  · obtain ⟨rfl, rfl, rfl⟩ := hc
    obtain ⟨l1, l2⟩ := hex rfl
    obtain ⟨l3, _⟩ := hey rfl
    rw [if_pos rfl] at hx hy hz
    have ht64 : t.length / 64 = s.length / 64 := by omega
    rw [ht64] at hz
    obtain ⟨X, hX⟩ : ∃ X, X = diffs s u (s.length / 64) := ⟨_, rfl⟩
    obtain ⟨Y, hY⟩ : ∃ X, X = diffs s t (s.length / 64) := ⟨_, rfl⟩
    obtain ⟨Z, hZ⟩ : ∃ X, X = diffs t u (s.length / 64) := ⟨_, rfl⟩
    have bX : X.length ≤ s.length / 64 := by rw [hX]; exact diffs_le _ _ _
    have bY : Y.length ≤ s.length / 64 := by rw [hY]; exact diffs_le _ _ _
    have bZ : Z.length ≤ s.length / 64 := by rw [hZ]; exact diffs_le _ _ _
    rw [← hX] at hx
    rw [← hY] at hy
    rw [← hZ] at hz
    have cX := chg_length true X
    have cY := chg_length true Y
    have cZ := chg_length true Z
    repeat' (first
      | ((conv => whnf) <;> (first
      | (with_reducible refine and_same ?_)
      | ((with_reducible apply Br.no) ; (focus omega))
      ))
      )
    all_goals (conv => whnf)
    all_goals (try dsimp only)
    refine loop_at (α := Nat) (fun a => [(14, .int .i64 a)]) (fun a => σ3) (fun a => a ≤ X.length) (fun a => X.length - a) 0 (by omega) rfl rfl ?_
    intro i hi
    repeat' (first
      | ((conv => whnf) <;> (first
      | (with_reducible refine and_same ?_)
      | ((with_reducible apply Br.yes) ; (focus omega))
      | (with_reducible refine Br.mk (fun _ => ?_) (fun _ => ?_))
      | ((with_reducible apply lenR_own) ; (focus assumption))
      ))
      )
    all_goals (conv => whnf)
    all_goals (try dsimp only)
    · obtain ⟨p, hp, hpk⟩ := getN (l := X) (k := i) (by omega)
      skip
      all_goals (conv => whnf)
      all_goals (try dsimp only)
      refine loop_at (α := Nat × Bool) (fun a => [(15, .bool a.2), (16, .int .i64 a.1)]) (fun a => σ3) (fun a => a.1 ≤ Y.length ∧ a.2 = hasB Y p.1 a.1) (fun a => Y.length - a.1) (0, false) ⟨by omega, rfl⟩ rfl rfl ?_
      rintro ⟨k, b⟩ ⟨hk, hb⟩
      dsimp only at hk hb ⊢
      repeat' (first
        | ((conv => whnf) <;> (first
        | (with_reducible refine and_same ?_)
        | (with_reducible refine Br.mk (fun _ => ?_) (fun _ => ?_))
        | ((with_reducible apply lenR_own) ; (focus assumption))
        ))
        )
      all_goals (conv => whnf)
      all_goals (try dsimp only)
      · obtain ⟨q, hq, hqk⟩ := getN (l := Y) (k := k) (by omega)
        have hs := hasB_succ (v := p.1) hqk
        cases b
        · repeat' (first
            | ((with_reducible refine Side.intro ?_) <;> (first
            | omega
            ))
            | ((conv => whnf) <;> (first
            | (with_reducible refine and_same ?_)
            | ((with_reducible apply Br.yes) ; (focus omega))
            | (with_reducible refine Br.mk (fun _ => ?_) (fun _ => ?_))
            | ((with_reducible apply blkAt_intro) ; (focus (first
            | ((repeat (first
            | assumption
            )); done)
            )) ; (focus (first | rfl | assumption | omega)) ; (try dsimp only))
            | ((with_reducible apply nthR_chg1) ; (focus assumption))
            | ((with_reducible apply ia_own) ; (focus assumption))
            | (with_reducible refine nthR_z ?_)
            | ((with_reducible apply nthR_left) ; (focus (first | omega | (simp only [List.length_append, List.length_cons, List.length_nil, List.length_take, List.length_drop, bs_length]; omega))))
            | (with_reducible intro _)
            ))
            )
          all_goals (conv => whnf)
          all_goals (try dsimp only)
          · exact ⟨(k + 1, true), rfl, rfl, ⟨by omega, by rw [hs]; simp; right; omega⟩, by omega⟩
          · exact ⟨(k + 1, false), rfl, rfl, ⟨by omega, by rw [hs, ← hb]; simp; omega⟩, by omega⟩
        · repeat' (first
            | ((conv => whnf) <;> (first
            | (with_reducible refine and_same ?_)
            | ((with_reducible apply Br.yes) ; (focus omega))
            ))
            )
          all_goals (conv => whnf)
          all_goals (try dsimp only)
          exact ⟨(k + 1, true), rfl, rfl, ⟨by omega, by rw [hs, ← hb]; rfl⟩, by omega⟩
      · have hkY : k = Y.length := by omega
        subst hkY
        refine loop_at (α := Nat × Bool) (fun a => [(15, .bool a.2), (17, .int .i64 a.1)]) (fun a => σ3) (fun a => a.1 ≤ Z.length ∧ a.2 = (hasB Y p.1 Y.length || hasB Z p.1 a.1)) (fun a => Z.length - a.1) (0, b) ⟨by omega, by rw [hb]; simp [hasB]⟩ rfl rfl ?_
        rintro ⟨k, c⟩ ⟨hk, hc⟩
        dsimp only at hk hc ⊢
        repeat' (first
          | ((conv => whnf) <;> (first
          | (with_reducible refine and_same ?_)
          | (with_reducible refine Br.mk (fun _ => ?_) (fun _ => ?_))
          | ((with_reducible apply lenR_own) ; (focus assumption))
          ))
          )
        all_goals (conv => whnf)
        all_goals (try dsimp only)
        · obtain ⟨q, hq, hqk⟩ := getN (l := Z) (k := k) (by omega)
          have hs := hasB_succ (v := p.1) hqk
          cases c
          · repeat' (first
              | ((with_reducible refine Side.intro ?_) <;> (first
              | omega
              ))
              | ((conv => whnf) <;> (first
              | (with_reducible refine and_same ?_)
              | ((with_reducible apply Br.yes) ; (focus omega))
              | (with_reducible refine Br.mk (fun _ => ?_) (fun _ => ?_))
              | ((with_reducible apply blkAt_intro) ; (focus (first
              | ((repeat (first
              | assumption
              )); done)
              )) ; (focus (first | rfl | assumption | omega)) ; (try dsimp only))
              | ((with_reducible apply nthR_chg1) ; (focus assumption))
              | ((with_reducible apply ia_own) ; (focus assumption))
              | (with_reducible refine nthR_z ?_)
              | ((with_reducible apply nthR_left) ; (focus (first | omega | (simp only [List.length_append, List.length_cons, List.length_nil, List.length_take, List.length_drop, bs_length]; omega))))
              | (with_reducible intro _)
              ))
              )
            all_goals (conv => whnf)
            all_goals (try dsimp only)
            · exact ⟨(k + 1, true), rfl, rfl, ⟨by omega, by rw [hs]; simp; right; right; omega⟩, by omega⟩
            · refine ⟨(k + 1, false), rfl, rfl, ⟨by omega, ?_⟩, by omega⟩
              dsimp only
              rw [hs, ← Bool.or_assoc, ← hc]
              simp; omega
          · repeat' (first
              | ((conv => whnf) <;> (first
              | (with_reducible refine and_same ?_)
              | ((with_reducible apply Br.yes) ; (focus omega))
              ))
              )
            all_goals (conv => whnf)
            all_goals (try dsimp only)
            refine ⟨(k + 1, true), rfl, rfl, ⟨by omega, ?_⟩, by omega⟩
            dsimp only
            rw [hs, ← Bool.or_assoc, ← hc]
            rfl
        · have hkZ : k = Z.length := by omega
          subst hkZ
          have hfound := merges_found (t := t) (p := p) (hX ▸ List.mem_of_getElem? hpk)
          rw [← hY, ← hZ] at hfound
          rw [hfound] at hc
          subst hc
          repeat' (first
            | ((conv => whnf) <;> (first
            | (with_reducible refine and_same ?_)
            | ((with_reducible apply Br.yes) ; (focus omega))
            ))
            )
          all_goals (conv => whnf)
          all_goals (try dsimp only)
          exact ⟨i + 1, rfl, rfl, by omega, by omega⟩
    · refine loop_at (α := Nat × AH × AV) (fun a => [(18, a.2.2), (19, .int .i64 ((a.1 : Int) - 1))]) (fun a => a.2.1) (fun a => a.1 ≤ X.length ∧ Own a.2.1 2 x (chg true X) ∧ Own a.2.1 2 a.2.2 (chg true (X.drop a.1).reverse) ∧ (∀ id, a.2.2.bid = some id → x.bid ≠ some id)) (fun a => a.1)
        (X.length, σ3, .nils) ⟨by omega, hx, by rw [List.drop_length]; exact Own.nil _ _, by intro id h; cases h⟩ (by simp [Fr.upd, Fr.pick, cX]) rfl ?_
      rintro ⟨k, σ, acc⟩ ⟨hk, hx2, hacc, hne⟩
      dsimp only at hk hx2 hacc hne ⊢
      repeat' (first
        | ((with_reducible refine Side.intro ?_) <;> (first
        | omega
        ))
        | ((conv => whnf) <;> (first
        | (with_reducible refine and_same ?_)
        | (with_reducible refine Br.mk (fun _ => ?_) (fun _ => ?_))
        | ((with_reducible apply blkAt_intro) ; (focus (first
        | ((repeat (first
        | assumption
        )); done)
        )) ; (focus (first | rfl | assumption | omega)) ; (try dsimp only))
        | ((with_reducible apply ia_own) ; (focus assumption))
        | (with_reducible refine nthR_z ?_)
        | ((with_reducible apply nthR_left) ; (focus (first | omega | (simp only [List.length_append, List.length_cons, List.length_nil, List.length_take, List.length_drop, bs_length]; omega))))
        | (with_reducible intro _)
        ))
        )
      all_goals (conv => whnf)
      all_goals (try dsimp only)
      · obtain ⟨p, hp⟩ : ∃ p, X[((k : Int) - 1).toNat]? = some p := ⟨_, List.getElem?_eq_getElem (by omega)⟩
        repeat' (first
          | ((with_reducible refine Side.intro ?_) <;> (first
          | omega
          | exact Nat.le_of_ble_eq_true rfl
          | exact rfl
          ))
          | ((conv => whnf) <;> (first
          | (with_reducible refine and_same ?_)
          | (with_reducible refine and_side ?_ ?_)
          | ((with_reducible apply blkAt_intro) ; (focus (first
          | ((repeat (first
          | exact get_new
          )); done)
          )) ; (focus (first | rfl | assumption | omega)) ; (try dsimp only))
          | ((with_reducible apply nthR_chg1) ; (focus assumption))
          | (with_reducible refine AppC.frz ?_)
          | (with_reducible refine rowsR_rsl ?_)
          ))
          )
        all_goals (conv => whnf)
        all_goals (try dsimp only)
        refine appendR_own (rows := chg true (X.drop k).reverse) (hacc.keepN (by (repeat (first
              | exact Gr.refl _ _
              | refine Gr.addN ?_ _
              )))) (by rw [chg_length, List.length_reverse, List.length_drop, List.length_take]; omega) ?_
        intro acc' σ' ho' hg' hb'
        repeat' (first
          | ((conv => whnf) <;> (first
          | (with_reducible refine and_same ?_)
          | ((with_reducible apply Br.yes) ; (focus omega))
          ))
          )
        all_goals (conv => whnf)
        all_goals (try dsimp only)
        have hxH := hx2.keepN (Gr.newN (Gr.refl σ none) 2 [[AV.int .i64 p.1, .sl 1 (bs p.2) true]] true)
        have hxl : ∀ id, x.bid = some id → id < σ.length := fun id h => hx2.lt h
        refine ⟨(k - 1, σ', acc'), by simp only [show (((k - 1 : Nat) : Int) - 1) = (k : Int) - 1 - 1 from by omega]; rfl, rfl, ⟨by omega, ?_, ?_, ?_⟩, by omega⟩
        · refine Own.keep hg' hxH ?_
          cases hxb : x.bid with
          | none => exact .inl rfl
          | some id => exact .inr fun e => hne id e hxb
        · dsimp only
          have e1 : X.drop (k - 1) = p :: X.drop k := by
            have hlt : k - 1 < X.length := by omega
            have e2 : ((k : Int) - 1).toNat = k - 1 := by omega
            rw [e2, List.getElem?_eq_getElem hlt] at hp
            cases hp
            rw [List.drop_eq_getElem_cons hlt, show k - 1 + 1 = k from by omega]
          rw [e1, List.reverse_cons, chg_append]
          exact ho'
        · intro id hid hxid
          rcases hb' with e | e
          · rw [e] at hid; exact hne id hid hxid
          · rw [e] at hid
            cases hid
            have := hxl _ hxid
            rw [newB_length] at this
            omega
      · have hk0 : k = 0 := by omega
        subst hk0
        rw [List.drop_zero] at hacc
        have hL : ∀ p, p ∈ X.reverse ↔ p ∈ diffs s u (s.length / 64) := fun p => by rw [List.mem_reverse, hX]
        refine (lines_Apply_ok s X.reverse (by omega) (by rw [List.length_reverse]; omega)).call (.cons (.bs _ _ _) (.cons (Looks.ownchg hacc) .nil)) ?_
        rintro _ r σ5 rfl hg5 hG5
        rw [if_pos ⟨l2, fun p hp => diffs_fits l1 (Nat.le_refl _) p ((hL p).1 hp)⟩, layL_any l1 l2 hL] at hG5
        obtain ⟨d, _, rfl, hd, he, _⟩ := hG5.two
        obtain rfl := he.same_inv rfl
        replace hd := hd.own_inv
        repeat' (first
          | ((with_reducible refine Side.intro ?_) <;> (first
          | (simp only [List.append_nil, List.nil_append, List.map_nil]; first | exact List.nodup_nil | exact nodup_bid1 _ | exact nodup_bid2 (by assumption))
          | ((first | refine fresh_tup ?_ | skip); (repeat (first |  exact FreshA.sl _ _ FreshA_bs | exact FreshA.sl _ _ FreshA_is | exact FreshA.nils | exact FreshA.nilp | exact FreshA.int _ _ | exact FreshA.bool _ | exact FreshA.str _ | exact fresh_nil | refine fresh_cons ?_ ?_ | with_reducible refine fresh_aggR ?_ | with_reducible refine fresh_agg ?_ | with_reducible exact fresh_nilA | with_reducible refine fresh_consA ?_ ?_)); done)
          ))
          | ((conv => whnf) <;> (first
          | (with_reducible refine and_same ?_)
          | (with_reducible refine and_side ?_ ?_)
          | (with_reducible refine Br.yes rfl ?_)
          | ((with_reducible apply rowsR_own) ; (focus assumption))
          | (with_reducible refine NOut.lit ?_)
          | (with_reducible refine rowsR_sl ?_)
          | ((with_reducible apply bytesR_intro) ; (focus (first | rfl | (simp only [bs_take, bs_drop, bs_append]; rfl))))
          ))
          )
        all_goals (conv => whnf)
        all_goals (try dsimp only)
        exact ret_bool rfl
  · repeat' (first
      | ((with_reducible refine Side.intro ?_) <;> (first
      | (simp only [List.append_nil, List.nil_append, List.map_nil]; first | exact List.nodup_nil | exact nodup_bid1 _ | exact nodup_bid2 (by assumption))
      | ((first | refine fresh_tup ?_ | skip); (repeat (first |  exact FreshA.sl _ _ FreshA_bs | exact FreshA.sl _ _ FreshA_is | exact FreshA.nils | exact FreshA.nilp | exact FreshA.int _ _ | exact FreshA.bool _ | exact FreshA.str _ | exact fresh_nil | refine fresh_cons ?_ ?_ | with_reducible refine fresh_aggR ?_ | with_reducible refine fresh_agg ?_ | with_reducible exact fresh_nilA | with_reducible refine fresh_consA ?_ ?_)); done)
      ))
      | ((conv => whnf) <;> (first
      | (with_reducible refine and_same ?_)
      | (with_reducible refine and_side ?_ ?_)
      | ((with_reducible apply Br.yes) ; (focus omega))
      | (with_reducible refine Br.mk (fun _ => ?_) (fun _ => ?_))
      | (with_reducible refine NOut.lit ?_)
      ))
      )
    all_goals (conv => whnf)
    all_goals (try dsimp only)
    all_goals exact ret_bool rfl
theorem LinesApplies_ok (s : List UInt8) (L M : List (Int × List UInt8)) (n : Int) (hs : s.length ≤ 1048576) (hL : L.length ≤ 1048576) (hM : M.length ≤ 1048576) :
    AOKn Try.prog F.joistlaw04_LinesApplies [.sl 1 (bs s) false, .sl 2 (chg false L) false, .sl 2 (chg false M) false, .int .i64 n] fun y => y = .bool true := by
  have hn := bs_length s
  refine AOKn.by_steps mixed fc_joistlaw04_LinesApplies_ok (by simp [fc_joistlaw04_LinesApplies]) ?_
  skip
  all_goals (conv => whnf)
  all_goals (try dsimp only)
  refine small_ok.call .nil ?_
  rintro _ x σ0 rfl _ hG
  obtain rfl := hG.flat_inv rfl (by intros; simp)
  skip
  all_goals (conv => whnf)
  all_goals (try dsimp only)
  refine (Few_ok L (by omega)).call (.cons (looks_chg _ _ _) .nil) ?_
  rintro _ x σ1 rfl hg hG
  obtain rfl := hG.flat_inv rfl (by intros; simp)
  generalize decide ((∀ p, p ∈ L → p.2.length ≤ 1024) ∧ L.length ≤ 300) = one
  skip
  all_goals (conv => whnf)
  all_goals (try dsimp only)
  refine (Few_ok M (by omega)).call (.cons (looks_chg _ _ _) .nil) ?_
  rintro _ x σ2 rfl hg2 hG2
  obtain rfl := hG2.flat_inv rfl (by intros; simp)
  generalize decide ((∀ p, p ∈ M → p.2.length ≤ 1024) ∧ M.length ≤ 300) = two
  cases one
  · repeat' (first
      | ((with_reducible refine Side.intro ?_) <;> (first
      | (simp only [List.append_nil, List.nil_append, List.map_nil]; first | exact List.nodup_nil | exact nodup_bid1 _ | exact nodup_bid2 (by assumption))
      | ((first | refine fresh_tup ?_ | skip); (repeat (first |  exact FreshA.sl _ _ FreshA_bs | exact FreshA.sl _ _ FreshA_is | exact FreshA.nils | exact FreshA.nilp | exact FreshA.int _ _ | exact FreshA.bool _ | exact FreshA.str _ | exact fresh_nil | refine fresh_cons ?_ ?_ | with_reducible refine fresh_aggR ?_ | with_reducible refine fresh_agg ?_ | with_reducible exact fresh_nilA | with_reducible refine fresh_consA ?_ ?_)); done)
      ))
      | ((conv => whnf) <;> (first
      | (with_reducible refine and_side ?_ ?_)
      | (with_reducible refine NOut.lit ?_)
      ))
      )
    all_goals (conv => whnf)
    all_goals (try dsimp only)
    exact ret_bool rfl
  cases two
  · repeat' (first
      | ((with_reducible refine Side.intro ?_) <;> (first
      | (simp only [List.append_nil, List.nil_append, List.map_nil]; first | exact List.nodup_nil | exact nodup_bid1 _ | exact nodup_bid2 (by assumption))
      | ((first | refine fresh_tup ?_ | skip); (repeat (first |  exact FreshA.sl _ _ FreshA_bs | exact FreshA.sl _ _ FreshA_is | exact FreshA.nils | exact FreshA.nilp | exact FreshA.int _ _ | exact FreshA.bool _ | exact FreshA.str _ | exact fresh_nil | refine fresh_cons ?_ ?_ | with_reducible refine fresh_aggR ?_ | with_reducible refine fresh_agg ?_ | with_reducible exact fresh_nilA | with_reducible refine fresh_consA ?_ ?_)); done)
      ))
      | ((conv => whnf) <;> (first
      | (with_reducible refine and_side ?_ ?_)
      | (with_reducible refine NOut.lit ?_)
      ))
      )
    all_goals (conv => whnf)
    all_goals (try dsimp only)
    exact ret_bool rfl
  skip
  all_goals (conv => whnf)
  all_goals (try dsimp only)
  refine Lent_val _ s false (by omega) _ ?_
  have hin : Own (σ2 ++ [{ sz := 1, els := bs (s ++ [77]), gen := 0, wr := true, pure := true }]) 1 (.rsl σ2.length 0 0 s.length none) (bs s) := .mk' (sp := bs [77]) get_new (by rw [bs_length]) (by rw [bs_append])
  skip
  all_goals (conv => whnf)
  all_goals (try dsimp only)
  refine (apply_up (lines_Apply_ok s L (by omega) (by omega))).call (.cons (Looks.ownbs hin) (.cons (looks_chg _ _ _) .nil)) ?_
  rintro _ y1 σ3 rfl hg3 hG3
  obtain ⟨x, _, rfl, hx, he, hxb, _⟩ := hG3.two
  obtain rfl := he.same_inv rfl
  replace hx := hx.own_inv
  have hblk := hg3.2 _ _ (get_new (σ := σ2)) (by simp)
  replace hin := hin.keepN hg3
  have hxl : ∀ id, x.bid = some id → σ2.length < id := fun id h => by have := hxb id h; simp at this; omega
  skip
  all_goals (conv => whnf)
  all_goals (try dsimp only)
  refine Kept_val _ s _ _ [] _ (by omega) hblk _ ?_
  skip
  all_goals (conv => whnf)
  all_goals (try dsimp only)
  refine (apply_up (ref_Apply_ok s L (by omega) (by omega))).call (.cons (.bs _ _ _) (.cons (looks_chg _ _ _) .nil)) ?_
  rintro _ y2 σ4 rfl hg4 hG4
  obtain ⟨y, _, rfl, hy, he2, _⟩ := hG4.two
  obtain rfl := he2.same_inv rfl
  replace hy := hy.own_inv
  replace hx := hx.keepN hg4
  replace hin := hin.keepN hg4
  obtain ⟨hxc, hxo, hx1⟩ := hx.one
  repeat' (first
    | ((with_reducible refine Side.intro ?_) <;> (first
    | omega
    | exact Nat.le_of_ble_eq_true rfl
    | exact rfl
    ))
    | ((conv => whnf) <;> (first
    | (with_reducible refine and_side ?_ ?_)
    | (with_reducible refine Br.yes rfl ?_)
    | ((with_reducible apply rowsR_own) ; (focus assumption))
    | ((with_reducible apply bytesR_intro) ; (focus (first | rfl | (simp only [bs_take, bs_drop, bs_append]; rfl))))
    ))
    )
  all_goals (conv => whnf)
  all_goals (try dsimp only)
  rw [hxc]
  refine Owned_own (newB σ4 1 (List.map (fun x => [x]) [x, .rsl σ2.length 0 0 s.length none]) _) [x, .rsl σ2.length 0 0 s.length none] σ4.length 0 _ true false get_new ?_ ?_ ?_ (by simp) _ ?_
  · intro j z hj
    match j, hj with
    | 0, hj => simp at hj; subst hj; exact ⟨_, hx.keepN (by (repeat (first
          | exact Gr.refl _ _
          | refine Gr.addN ?_ _
          )))⟩
    | 1, hj => simp at hj; subst hj; exact ⟨_, hin.keepN (by (repeat (first
          | exact Gr.refl _ _
          | refine Gr.addN ?_ _
          )))⟩
  · have hne : x.bid = none ∨ x.bid ≠ some σ2.length := by
      cases hb : x.bid with
      | none => exact .inl rfl
      | some id => exact .inr (fun e => by cases e; have := hxl _ hb; omega)
    intro j k z w hj hk hjk
    match j, k, hj, hk with
    | 0, 0, _, _ => omega
    | 0, 1, hj, hk => simp at hj hk; subst hj; subst hk; exact hne
    | 1, 0, hj, hk =>
      simp at hj hk; subst hj; subst hk
      rcases hne with q | q
      · right; rw [q]; simp [AV.bid]
      · right; exact fun e => q e.symm
    | 1, 1, _, _ => omega
  · intro j z hj
    match j, hj with
    | 0, hj =>
      simp at hj; subst hj
      intro e
      have := hx.lt e
      omega
    | 1, hj =>
      simp at hj; subst hj
      intro e
      have h1 := hin.lt (id := σ2.length) rfl
      simp [AV.bid] at e
      omega
  intro σ5 hσ5
  repeat' (first
    | ((conv => whnf) <;> (first
    | (with_reducible refine and_same ?_)
    | (with_reducible refine Br.yes rfl ?_)
    ))
    )
  all_goals (conv => whnf)
  all_goals (try dsimp only)
  refine (lines_Right_ok n L (by omega)).call (.cons (Looks.int _ _ _) (.cons (looks_chg _ _ _) .nil)) ?_
  rintro _ r1 σ6 rfl _ hG6
  obtain rfl := hG6.flat_inv rfl (by intros; simp)
  skip
  all_goals (conv => whnf)
  all_goals (try dsimp only)
  refine (ref_Right_ok n L (by omega)).call (.cons (Looks.int _ _ _) (.cons (looks_chg _ _ _) .nil)) ?_
  rintro _ r1 σ7 rfl _ hG7
  obtain rfl := hG7.flat_inv rfl (by intros; simp)
  repeat' (first
    | ((conv => whnf) <;> (first
    | (with_reducible refine Br.yes rfl ?_)
    ))
    )
  all_goals (conv => whnf)
  all_goals (try dsimp only)
  refine lines_Same_val _ L M false false (by omega) (by omega) _ fun σ8 _ => ?_
  skip
  all_goals (conv => whnf)
  all_goals (try dsimp only)
  refine (ref_Same_ok L M (by omega) (by omega)).call (.cons (looks_chg _ _ _) (.cons (looks_chg _ _ _) .nil)) ?_
  rintro _ r1 σ9 rfl _ hG9
  obtain rfl := hG9.flat_inv rfl (by intros; simp)
  repeat' (first
    | ((conv => whnf) <;> (first
    | (with_reducible refine Br.yes rfl ?_)
    ))
    )
  all_goals (conv => whnf)
  all_goals (try dsimp only)
  refine lines_Same_val _ L L false false (by omega) (by omega) _ fun σ10 _ => ?_
  rw [decide_eq_true rfl]
  repeat' (first
    | ((with_reducible refine Side.intro ?_) <;> (first
    | (simp only [List.append_nil, List.nil_append, List.map_nil]; first | exact List.nodup_nil | exact nodup_bid1 _ | exact nodup_bid2 (by assumption))
    | ((first | refine fresh_tup ?_ | skip); (repeat (first |  exact FreshA.sl _ _ FreshA_bs | exact FreshA.sl _ _ FreshA_is | exact FreshA.nils | exact FreshA.nilp | exact FreshA.int _ _ | exact FreshA.bool _ | exact FreshA.str _ | exact fresh_nil | refine fresh_cons ?_ ?_ | with_reducible refine fresh_aggR ?_ | with_reducible refine fresh_agg ?_ | with_reducible exact fresh_nilA | with_reducible refine fresh_consA ?_ ?_)); done)
    ))
    | ((conv => whnf) <;> (first
    | (with_reducible refine and_side ?_ ?_)
    | (with_reducible refine NOut.lit ?_)
    ))
    )
  all_goals (conv => whnf)
  all_goals (try dsimp only)
  exact ret_bool rfl
end Go.Proofs.Ytlhogahibillpaa
