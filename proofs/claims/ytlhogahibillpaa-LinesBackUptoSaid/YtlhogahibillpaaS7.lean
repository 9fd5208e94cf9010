import Derived.Test.YtlhogahibillpaaS4
import Derived.Test.YtlhogahibillpaaS5
namespace Go.Proofs.Ytlhogahibillpaa
open Go Go.Proofs.Ytlhogahibillpaa.V
set_option maxRecDepth 20000
attribute [local irreducible] CallS AOK AOKn ALoop Side Ref.ok
/-- A change that fits. -/
def Fits (n : Nat) (p : Int × List UInt8) : Prop := 0 ≤ p.1 ∧ p.1 < n ∧ p.2.length = 64
instance (n : Nat) (p : Int × List UInt8) : Decidable (Fits n p) := by unfold Fits; infer_instance
def lay1 (s : List UInt8) (p : Int × List UInt8) : List UInt8 := s.take (p.1.toNat * 64) ++ p.2 ++ s.drop (p.1.toNat * 64 + 64)
def layL (s : List UInt8) (l : List (Int × List UInt8)) : List UInt8 := l.foldl lay1 s
theorem lay1_length {s : List UInt8} {p : Int × List UInt8} (h : Fits (s.length / 64) p) : (lay1 s p).length = s.length := by
  obtain ⟨h1, h2, h3⟩ := h
  simp only [lay1, List.length_append, List.length_take, List.length_drop, h3]
  omega
theorem layL_length {s : List UInt8} : ∀ {l : List (Int × List UInt8)} {t : List UInt8}, t.length = s.length → (∀ p, p ∈ l → Fits (s.length / 64) p) → (layL t l).length = s.length
  | [], t, ht, _ => ht
  | p :: l, t, ht, h => by
    refine layL_length (l := l) (t := lay1 t p) ?_ (fun q hq => h q (by simp [hq]))
    rw [lay1_length (by rw [ht]; exact h p (by simp)), ht]
theorem nthR_chg {fr : Bool} {l : List (Int × List UInt8)} {n : Nat} {K : List AV → Prop} (hn : n < l.length) (hk : ∀ p, l[n]? = some p → K [.int .i64 p.1, .sl 1 (bs p.2) fr]) : nthR (chg fr l) n K := by
  have h := List.getElem?_eq_getElem hn
  exact nthR_intro (x := [.int .i64 l[n].1, .sl 1 (bs l[n].2) fr]) (by simp [chg, h]) (hk _ h)
theorem looks_chg1 (σ : AH) (i : Int) (s : List UInt8) (fr : Bool) : Looks σ (.agg [.int .i64 i, .sl 1 (bs s) fr]) (.agg [.int .i64 i, .sl 1 (bs s) false]) := by
  refine .same ?_
  simp [derefV, derefCs, derefC, AV.flat, untag, untagLL_bs]
theorem line_own (σ : AH) (id gen n : Nat) (b : Blk) (i : Int) (h0 : 0 ≤ i) (h1 : (i+1)*64 ≤ n) (hl: n ≤ 4611686018427387904) (hb : σ[id]? = some b) (hg : b.gen = gen) (hs : b.sz = 1) (Q : AV → AH → Prop) (h : Q (.rsl id gen (i*64).toNat 64 none) σ) : CallS Try.prog F.lines_line [.rsl id gen 0 n none, .int .i64 i] σ Q := by
  refine call_of_body mixed fc_lines_line_ok (by simp [fc_lines_line]) ?_
  repeat' (first
    | ((with_reducible refine Side.intro ?_) <;> (first | with_reducible rfl | omega | assumption | exact Nat.le_of_ble_eq_true rfl | (simp only [bs_length, List.length_append, List.length_cons, List.length_nil, List.length_take, List.length_drop, List.length_set, List.length_replicate]; omega) | exact .inl (by omega) | exact .inr (.inl ⟨rfl, by (simp only [bs_length, List.length_append, List.length_cons, List.length_nil, List.length_take, List.length_drop, List.length_set, List.length_replicate]; omega)⟩) | exact Ref.ok_refl _ _ | ((first | refine fresh_tup ?_ | skip); (repeat (first | exact FreshA.nils | exact FreshA.nilp | exact FreshA.int _ _ | exact FreshA.bool _ | exact FreshA.str _ | exact fresh_nil | refine fresh_cons ?_ ?_)); done) | exact rfl | (simp; done)))
    | ((conv => whnf) <;> (first
        | (with_reducible refine and_same ?_)
        | (with_reducible refine and_side ?_ ?_)
        | (with_reducible refine Br.yes (by omega) ?_)
        | (with_reducible refine Br.no (by omega) ?_)
        | (with_reducible refine Br.mk (fun _ => ?_) (fun _ => ?_))
        | (with_reducible refine Both.mk ?_ ?_)
        | ((with_reducible apply blkAt_intro) ; (focus (first | exact rfl | (repeat (first | assumption | exact get_new | exact get_set (by assumption) | exact get_set get_new | apply get_old | (apply get_set_ne; (focus (first | omega | (simp only [newB_length, List.length_set, List.length_append, List.length_singleton]; omega)))))); done)) ; (focus (first | rfl | assumption | omega)) ; (try dsimp only))
        | ((with_reducible apply appendR_lit) ; (focus (first | exact rfl | (repeat (first | assumption | exact get_new | exact get_set (by assumption) | exact get_set get_new | apply get_old | (apply get_set_ne; (focus (first | omega | (simp only [newB_length, List.length_set, List.length_append, List.length_singleton]; omega)))))); done)) ; (focus (first | rfl | assumption)) ; (focus rfl) ; (focus rfl) ; (focus rfl) ; (focus (first | exact Nat.zero_le _ | omega | (simp; done) | (simp; omega))) ; (try dsimp only))
        | (with_reducible refine appendR_nil ?_ ?_)
        | (with_reducible refine lenR_own (by assumption) ?_)
        | (with_reducible refine rowsR_own (by assumption) ?_)
        | (with_reducible refine lenR_sl ?_)
        | (with_reducible refine lenR_nils ?_)
        | (with_reducible refine lenR_rsl ?_)
        | (with_reducible refine rowsR_sl ?_)
        | (with_reducible refine rowsR_nils ?_)
        | (with_reducible refine rowsR_rsl ?_)
        | (with_reducible refine lenR_slx ?_)
        | (with_reducible refine rowsR_slx ?_)
        | (with_reducible refine appendR_slx ?_ ?_ ?_)
        | (with_reducible refine bytesR_intro (by first | rfl | (simp only [bs_take, bs_drop, bs_append]; rfl)) ?_)
        | (with_reducible refine nthR_bs (by first | omega | (simp only [List.length_append, List.length_cons, List.length_nil, List.length_take, List.length_drop, bs_length]; omega)) (fun _ _ => ?_))
        | (with_reducible intro _))))
  all_goals (conv => whnf)
  all_goals (try dsimp only)
  have e : ((i + 1) * 64).toNat - (i * 64).toNat = 64 := by omega
  simpa only [packA, e, Nat.zero_add, Option.map_none] using h
theorem lay_rows (s : List UInt8) (p : Int × List UInt8) (sp : List (List AV)) (h : (p.1 * 64).toNat + 64 ≤ s.length) (h3 : p.2.length = 64) :
    (bs s ++ sp).take (p.1 * 64).toNat ++ (bs p.2).take 64 ++ (bs s ++ sp).drop ((p.1 * 64).toNat + 64) = bs (lay1 s p) ++ sp := by
  have e : (p.1 * 64).toNat = p.1.toNat * 64 := by omega
  have hl := bs_length s
  rw [e] at h ⊢
  rw [List.take_append_of_le_length (by omega), List.drop_append_of_le_length (by omega), List.take_of_length_le (l := bs p.2) (by rw [bs_length]; omega), bs_take, bs_drop, ← List.append_assoc, bs_append, bs_append]
  rfl
theorem lines_Apply_ok (s : List UInt8) (L : List (Int × List UInt8)) (hs : s.length ≤ 4611686018427) (hL : L.length ≤ 4611686018427) : AOKn Try.prog F.lines_Apply [.sl 1 (bs s) false, .sl 2 (chg false L) false]
    fun y => y = if s.length % 64 = 0 ∧ ∀ p, p ∈ L → Fits (s.length / 64) p then .tup [.sl 1 (bs (layL s L)) true, .int .i64 0] else .tup [.nils, .int .i64 1] := by
  have hn := bs_length s
  have hm := chg_length false L
  unfold AOKn
  refine AOK.by_steps mixed fc_lines_Apply_ok (by simp [fc_lines_Apply]) ?_
  repeat' (first
    | ((with_reducible refine Side.intro ?_) <;> (first | with_reducible rfl | omega | assumption | exact Nat.le_of_ble_eq_true rfl | (simp only [bs_length, List.length_append, List.length_cons, List.length_nil, List.length_take, List.length_drop, List.length_set, List.length_replicate]; omega) | exact .inl (by omega) | exact .inr (.inl ⟨rfl, by (simp only [bs_length, List.length_append, List.length_cons, List.length_nil, List.length_take, List.length_drop, List.length_set, List.length_replicate]; omega)⟩) | exact Ref.ok_refl _ _ | ((first | refine fresh_tup ?_ | skip); (repeat (first | exact FreshA.nils | exact FreshA.nilp | exact FreshA.int _ _ | exact FreshA.bool _ | exact FreshA.str _ | exact fresh_nil | refine fresh_cons ?_ ?_)); done) | exact rfl | (simp; done)))
    | ((conv => whnf) <;> (first
        | (with_reducible refine and_same ?_)
        | (with_reducible refine and_side ?_ ?_)
        | (with_reducible refine Br.yes (by omega) ?_)
        | (with_reducible refine Br.no (by omega) ?_)
        | (with_reducible refine Br.mk (fun _ => ?_) (fun _ => ?_))
        | (with_reducible refine Both.mk ?_ ?_)
        | ((with_reducible apply blkAt_intro) ; (focus (first | exact rfl | (repeat (first | assumption | exact get_new | exact get_set (by assumption) | exact get_set get_new | apply get_old | (apply get_set_ne; (focus (first | omega | (simp only [newB_length, List.length_set, List.length_append, List.length_singleton]; omega)))))); done)) ; (focus (first | rfl | assumption | omega)) ; (try dsimp only))
        | ((with_reducible apply appendR_lit) ; (focus (first | exact rfl | (repeat (first | assumption | exact get_new | exact get_set (by assumption) | exact get_set get_new | apply get_old | (apply get_set_ne; (focus (first | omega | (simp only [newB_length, List.length_set, List.length_append, List.length_singleton]; omega)))))); done)) ; (focus (first | rfl | assumption)) ; (focus rfl) ; (focus rfl) ; (focus rfl) ; (focus (first | exact Nat.zero_le _ | omega | (simp; done) | (simp; omega))) ; (try dsimp only))
        | (with_reducible refine appendR_nil ?_ ?_)
        | (with_reducible refine lenR_own (by assumption) ?_)
        | (with_reducible refine rowsR_own (by assumption) ?_)
        | (with_reducible refine lenR_sl ?_)
        | (with_reducible refine lenR_nils ?_)
        | (with_reducible refine lenR_rsl ?_)
        | (with_reducible refine rowsR_sl ?_)
        | (with_reducible refine rowsR_nils ?_)
        | (with_reducible refine rowsR_rsl ?_)
        | (with_reducible refine lenR_slx ?_)
        | (with_reducible refine rowsR_slx ?_)
        | (with_reducible refine appendR_slx ?_ ?_ ?_)
        | (with_reducible refine bytesR_intro (by first | rfl | (simp only [bs_take, bs_drop, bs_append]; rfl)) ?_)
        | (with_reducible refine nthR_bs (by first | omega | (simp only [List.length_append, List.length_cons, List.length_nil, List.length_take, List.length_drop, bs_length]; omega)) (fun _ _ => ?_))
        | (with_reducible intro _))))
  all_goals (conv => whnf)
  all_goals (try dsimp only)
  · rename_i h
    exact ⟨_, .one (.refl _), by rw [if_neg (by omega)]⟩
  · rename_i h64
    refine (bytes_Clone_ok s (by omega)).call (.cons (.bs _ _ _) .nil) ?_
    rintro _ x σ1 rfl hg hG
    obtain ⟨hx, hxb⟩ := hG.sl_inv
    repeat' (first
      | ((with_reducible refine Side.intro ?_) <;> (first | with_reducible rfl | omega | assumption | exact Nat.le_of_ble_eq_true rfl | (simp only [bs_length, List.length_append, List.length_cons, List.length_nil, List.length_take, List.length_drop, List.length_set, List.length_replicate]; omega) | exact .inl (by omega) | exact .inr (.inl ⟨rfl, by (simp only [bs_length, List.length_append, List.length_cons, List.length_nil, List.length_take, List.length_drop, List.length_set, List.length_replicate]; omega)⟩) | exact Ref.ok_refl _ _ | ((first | refine fresh_tup ?_ | skip); (repeat (first | exact FreshA.nils | exact FreshA.nilp | exact FreshA.int _ _ | exact FreshA.bool _ | exact FreshA.str _ | exact fresh_nil | refine fresh_cons ?_ ?_)); done) | exact rfl | (simp; done)))
      | ((conv => whnf) <;> (first
          | (with_reducible refine and_same ?_)
          | (with_reducible refine and_side ?_ ?_)
          | (with_reducible refine Br.yes (by omega) ?_)
          | (with_reducible refine Br.no (by omega) ?_)
          | (with_reducible refine Br.mk (fun _ => ?_) (fun _ => ?_))
          | (with_reducible refine Both.mk ?_ ?_)
          | ((with_reducible apply blkAt_intro) ; (focus (first | exact rfl | (repeat (first | assumption | exact get_new | exact get_set (by assumption) | exact get_set get_new | apply get_old | (apply get_set_ne; (focus (first | omega | (simp only [newB_length, List.length_set, List.length_append, List.length_singleton]; omega)))))); done)) ; (focus (first | rfl | assumption | omega)) ; (try dsimp only))
          | ((with_reducible apply appendR_lit) ; (focus (first | exact rfl | (repeat (first | assumption | exact get_new | exact get_set (by assumption) | exact get_set get_new | apply get_old | (apply get_set_ne; (focus (first | omega | (simp only [newB_length, List.length_set, List.length_append, List.length_singleton]; omega)))))); done)) ; (focus (first | rfl | assumption)) ; (focus rfl) ; (focus rfl) ; (focus rfl) ; (focus (first | exact Nat.zero_le _ | omega | (simp; done) | (simp; omega))) ; (try dsimp only))
          | (with_reducible refine appendR_nil ?_ ?_)
          | (with_reducible refine lenR_own (by assumption) ?_)
          | (with_reducible refine rowsR_own (by assumption) ?_)
          | (with_reducible refine lenR_sl ?_)
          | (with_reducible refine lenR_nils ?_)
          | (with_reducible refine lenR_rsl ?_)
          | (with_reducible refine rowsR_sl ?_)
          | (with_reducible refine rowsR_nils ?_)
          | (with_reducible refine rowsR_rsl ?_)
          | (with_reducible refine lenR_slx ?_)
          | (with_reducible refine rowsR_slx ?_)
          | (with_reducible refine appendR_slx ?_ ?_ ?_)
          | (with_reducible refine bytesR_intro (by first | rfl | (simp only [bs_take, bs_drop, bs_append]; rfl)) ?_)
          | (with_reducible refine nthR_bs (by first | omega | (simp only [List.length_append, List.length_cons, List.length_nil, List.length_take, List.length_drop, bs_length]; omega)) (fun _ _ => ?_))
          | (with_reducible intro _))))
    all_goals (conv => whnf)
    all_goals (try dsimp only)
    refine loop_by (α := Nat × AH) (fun a => [(0, .sl 1 (bs s) false), (6, x), (15, .sl 2 (chg false L) false), (16, .int .i64 L.length), (17, .int .i64 a.1)]) (fun a => a.2)
      (fun a => a.1 ≤ L.length ∧ (∀ p, p ∈ L.take a.1 → Fits (s.length / 64) p) ∧ Own a.2 1 x (bs (layL s (L.take a.1)))) (fun a => L.length - a.1) ?_ (0, σ1) ⟨by omega, by simp, by simpa [layL] using hx⟩ (by rw [hm]; rfl) rfl
    rintro ⟨k, σ⟩ ⟨hk, hfit, hown⟩
    dsimp only at hk hfit hown ⊢
    repeat' (first
      | ((with_reducible refine Side.intro ?_) <;> (first | with_reducible rfl | omega | assumption | exact Nat.le_of_ble_eq_true rfl | (simp only [bs_length, List.length_append, List.length_cons, List.length_nil, List.length_take, List.length_drop, List.length_set, List.length_replicate]; omega) | exact .inl (by omega) | exact .inr (.inl ⟨rfl, by (simp only [bs_length, List.length_append, List.length_cons, List.length_nil, List.length_take, List.length_drop, List.length_set, List.length_replicate]; omega)⟩) | exact Ref.ok_refl _ _ | ((first | refine fresh_tup ?_ | skip); (repeat (first | exact FreshA.nils | exact FreshA.nilp | exact FreshA.int _ _ | exact FreshA.bool _ | exact FreshA.str _ | exact fresh_nil | refine fresh_cons ?_ ?_)); done) | exact rfl | (simp; done)))
      | ((conv => whnf) <;> (first
          | (with_reducible refine and_same ?_)
          | (with_reducible refine and_side ?_ ?_)
          | (with_reducible refine Br.yes (by omega) ?_)
          | (with_reducible refine Br.no (by omega) ?_)
          | (with_reducible refine Br.mk (fun _ => ?_) (fun _ => ?_))
          | (with_reducible refine Both.mk ?_ ?_)
          | ((with_reducible apply blkAt_intro) ; (focus (first | exact rfl | (repeat (first | assumption | exact get_new | exact get_set (by assumption) | exact get_set get_new | apply get_old | (apply get_set_ne; (focus (first | omega | (simp only [newB_length, List.length_set, List.length_append, List.length_singleton]; omega)))))); done)) ; (focus (first | rfl | assumption | omega)) ; (try dsimp only))
          | ((with_reducible apply appendR_lit) ; (focus (first | exact rfl | (repeat (first | assumption | exact get_new | exact get_set (by assumption) | exact get_set get_new | apply get_old | (apply get_set_ne; (focus (first | omega | (simp only [newB_length, List.length_set, List.length_append, List.length_singleton]; omega)))))); done)) ; (focus (first | rfl | assumption)) ; (focus rfl) ; (focus rfl) ; (focus rfl) ; (focus (first | exact Nat.zero_le _ | omega | (simp; done) | (simp; omega))) ; (try dsimp only))
          | (with_reducible refine appendR_nil ?_ ?_)
          | (with_reducible refine lenR_own (by assumption) ?_)
          | (with_reducible refine rowsR_own (by assumption) ?_)
          | (with_reducible refine lenR_sl ?_)
          | (with_reducible refine lenR_nils ?_)
          | (with_reducible refine lenR_rsl ?_)
          | (with_reducible refine rowsR_sl ?_)
          | (with_reducible refine rowsR_nils ?_)
          | (with_reducible refine rowsR_rsl ?_)
          | (with_reducible refine lenR_slx ?_)
          | (with_reducible refine rowsR_slx ?_)
          | (with_reducible refine appendR_slx ?_ ?_ ?_)
          | (with_reducible refine bytesR_intro (by first | rfl | (simp only [bs_take, bs_drop, bs_append]; rfl)) ?_)
          | (with_reducible refine nthR_bs (by first | omega | (simp only [List.length_append, List.length_cons, List.length_nil, List.length_take, List.length_drop, bs_length]; omega)) (fun _ _ => ?_))
          | (with_reducible intro _))))
    all_goals (conv => whnf)
    all_goals (try dsimp only)
    · refine nthR_chg (by omega) fun p hp => ?_
      repeat' (first
        | ((with_reducible refine Side.intro ?_) <;> (first | with_reducible rfl | omega | assumption | exact Nat.le_of_ble_eq_true rfl | (simp only [bs_length, List.length_append, List.length_cons, List.length_nil, List.length_take, List.length_drop, List.length_set, List.length_replicate]; omega) | exact .inl (by omega) | exact .inr (.inl ⟨rfl, by (simp only [bs_length, List.length_append, List.length_cons, List.length_nil, List.length_take, List.length_drop, List.length_set, List.length_replicate]; omega)⟩) | exact Ref.ok_refl _ _ | ((first | refine fresh_tup ?_ | skip); (repeat (first | exact FreshA.nils | exact FreshA.nilp | exact FreshA.int _ _ | exact FreshA.bool _ | exact FreshA.str _ | exact fresh_nil | refine fresh_cons ?_ ?_)); done) | exact rfl | (simp; done)))
        | ((conv => whnf) <;> (first
            | (with_reducible refine and_same ?_)
            | (with_reducible refine and_side ?_ ?_)
            | (with_reducible refine Br.yes (by omega) ?_)
            | (with_reducible refine Br.no (by omega) ?_)
            | (with_reducible refine Br.mk (fun _ => ?_) (fun _ => ?_))
            | (with_reducible refine Both.mk ?_ ?_)
            | ((with_reducible apply blkAt_intro) ; (focus (first | exact rfl | (repeat (first | assumption | exact get_new | exact get_set (by assumption) | exact get_set get_new | apply get_old | (apply get_set_ne; (focus (first | omega | (simp only [newB_length, List.length_set, List.length_append, List.length_singleton]; omega)))))); done)) ; (focus (first | rfl | assumption | omega)) ; (try dsimp only))
            | ((with_reducible apply appendR_lit) ; (focus (first | exact rfl | (repeat (first | assumption | exact get_new | exact get_set (by assumption) | exact get_set get_new | apply get_old | (apply get_set_ne; (focus (first | omega | (simp only [newB_length, List.length_set, List.length_append, List.length_singleton]; omega)))))); done)) ; (focus (first | rfl | assumption)) ; (focus rfl) ; (focus rfl) ; (focus rfl) ; (focus (first | exact Nat.zero_le _ | omega | (simp; done) | (simp; omega))) ; (try dsimp only))
            | (with_reducible refine appendR_nil ?_ ?_)
            | (with_reducible refine lenR_own (by assumption) ?_)
            | (with_reducible refine rowsR_own (by assumption) ?_)
            | (with_reducible refine lenR_sl ?_)
            | (with_reducible refine lenR_nils ?_)
            | (with_reducible refine lenR_rsl ?_)
            | (with_reducible refine rowsR_sl ?_)
            | (with_reducible refine rowsR_nils ?_)
            | (with_reducible refine rowsR_rsl ?_)
            | (with_reducible refine lenR_slx ?_)
            | (with_reducible refine rowsR_slx ?_)
            | (with_reducible refine appendR_slx ?_ ?_ ?_)
            | (with_reducible refine bytesR_intro (by first | rfl | (simp only [bs_take, bs_drop, bs_append]; rfl)) ?_)
            | (with_reducible refine nthR_bs (by first | omega | (simp only [List.length_append, List.length_cons, List.length_nil, List.length_take, List.length_drop, bs_length]; omega)) (fun _ _ => ?_))
            | (with_reducible intro _))))
      all_goals (conv => whnf)
      all_goals (try dsimp only)
      have hpk : L[k]? = some p := by simpa using hp
      refine (fits_ok ((s.length / 64 : Nat) : Int) p.1 p.2).call (.cons (by rw [hn]; exact Looks.int _ _ _) (.cons (looks_chg1 _ _ _ _) .nil)) ?_
      rintro _ y σ2 rfl hg2 hG2
      obtain rfl := hG2.flat_inv rfl (by intros; simp)
      by_cases hf : Fits (s.length / 64) p
      · rw [decide_eq_true (by obtain ⟨h1, h2, h3⟩ := hf; exact ⟨h1, by omega, h3⟩)]
        have hlen : (layL s (L.take k)).length = s.length := layL_length rfl hfit
        have hown2 := hown.keepN ((Gr.box σ _ _).trans hg2)
        rcases hown2 with ⟨rfl, h0⟩ | ⟨id, gen, sp, rfl, hb⟩
        · exfalso
          have := congrArg List.length h0
          obtain ⟨q1, q2, q3⟩ := hf
          simp only [bs_length, List.length_nil] at this
          omega
        · have hc : σ2[σ.length]? = some { sz := 2, els := [[AV.int .i64 p.1, .sl 1 (bs p.2) false]], gen := 0, wr := true, pure := true } := hg2.2 _ _ (get_set get_new) (by simp)
          repeat' (first
            | ((with_reducible refine Side.intro ?_) <;> (first | with_reducible rfl | omega | assumption | exact Nat.le_of_ble_eq_true rfl | (simp only [bs_length, List.length_append, List.length_cons, List.length_nil, List.length_take, List.length_drop, List.length_set, List.length_replicate]; omega) | exact .inl (by omega) | exact .inr (.inl ⟨rfl, by (simp only [bs_length, List.length_append, List.length_cons, List.length_nil, List.length_take, List.length_drop, List.length_set, List.length_replicate]; omega)⟩) | exact Ref.ok_refl _ _ | ((first | refine fresh_tup ?_ | skip); (repeat (first | exact FreshA.nils | exact FreshA.nilp | exact FreshA.int _ _ | exact FreshA.bool _ | exact FreshA.str _ | exact fresh_nil | refine fresh_cons ?_ ?_)); done) | exact rfl | (simp; done)))
            | ((conv => whnf) <;> (first
                | (with_reducible refine and_same ?_)
                | (with_reducible refine and_side ?_ ?_)
                | (with_reducible refine Br.yes (by omega) ?_)
                | (with_reducible refine Br.no (by omega) ?_)
                | (with_reducible refine Br.mk (fun _ => ?_) (fun _ => ?_))
                | (with_reducible refine Both.mk ?_ ?_)
                | ((with_reducible apply blkAt_intro) ; (focus (first | exact rfl | (repeat (first | assumption | exact get_new | exact get_set (by assumption) | exact get_set get_new | apply get_old | (apply get_set_ne; (focus (first | omega | (simp only [newB_length, List.length_set, List.length_append, List.length_singleton]; omega)))))); done)) ; (focus (first | rfl | assumption | omega)) ; (try dsimp only))
                | ((with_reducible apply appendR_lit) ; (focus (first | exact rfl | (repeat (first | assumption | exact get_new | exact get_set (by assumption) | exact get_set get_new | apply get_old | (apply get_set_ne; (focus (first | omega | (simp only [newB_length, List.length_set, List.length_append, List.length_singleton]; omega)))))); done)) ; (focus (first | rfl | assumption)) ; (focus rfl) ; (focus rfl) ; (focus rfl) ; (focus (first | exact Nat.zero_le _ | omega | (simp; done) | (simp; omega))) ; (try dsimp only))
                | (with_reducible refine appendR_nil ?_ ?_)
                | (with_reducible refine lenR_own (by assumption) ?_)
                | (with_reducible refine rowsR_own (by assumption) ?_)
                | (with_reducible refine lenR_sl ?_)
                | (with_reducible refine lenR_nils ?_)
                | (with_reducible refine lenR_rsl ?_)
                | (with_reducible refine rowsR_sl ?_)
                | (with_reducible refine rowsR_nils ?_)
                | (with_reducible refine rowsR_rsl ?_)
                | (with_reducible refine lenR_slx ?_)
                | (with_reducible refine rowsR_slx ?_)
                | (with_reducible refine appendR_slx ?_ ?_ ?_)
                | (with_reducible refine bytesR_intro (by first | rfl | (simp only [bs_take, bs_drop, bs_append]; rfl)) ?_)
                | (with_reducible refine nthR_bs (by first | omega | (simp only [List.length_append, List.length_cons, List.length_nil, List.length_take, List.length_drop, bs_length]; omega)) (fun _ _ => ?_))
                | (with_reducible intro _))))
          all_goals (conv => whnf)
          all_goals (try dsimp only)
          obtain ⟨q1, q2, q3⟩ := hf
          have hl1 : ((bs (layL s (L.take k))).length) = s.length := by rw [bs_length, hlen]
          refine line_own σ2 id gen _ _ p.1 q1 (by omega) (by omega) hb rfl rfl _ ?_
          repeat' (first
            | ((with_reducible refine Side.intro ?_) <;> (first | with_reducible rfl | omega | assumption | exact Nat.le_of_ble_eq_true rfl | (simp only [bs_length, List.length_append, List.length_cons, List.length_nil, List.length_take, List.length_drop, List.length_set, List.length_replicate]; omega) | exact .inl (by omega) | exact .inr (.inl ⟨rfl, by (simp only [bs_length, List.length_append, List.length_cons, List.length_nil, List.length_take, List.length_drop, List.length_set, List.length_replicate]; omega)⟩) | exact Ref.ok_refl _ _ | ((first | refine fresh_tup ?_ | skip); (repeat (first | exact FreshA.nils | exact FreshA.nilp | exact FreshA.int _ _ | exact FreshA.bool _ | exact FreshA.str _ | exact fresh_nil | refine fresh_cons ?_ ?_)); done) | exact rfl | (simp; done)))
            | ((conv => whnf) <;> (first
                | (with_reducible refine and_same ?_)
                | (with_reducible refine and_side ?_ ?_)
                | (with_reducible refine Br.yes (by omega) ?_)
                | (with_reducible refine Br.no (by omega) ?_)
                | (with_reducible refine Br.mk (fun _ => ?_) (fun _ => ?_))
                | (with_reducible refine Both.mk ?_ ?_)
                | ((with_reducible apply blkAt_intro) ; (focus (first | exact rfl | (repeat (first | assumption | exact get_new | exact get_set (by assumption) | exact get_set get_new | apply get_old | (apply get_set_ne; (focus (first | omega | (simp only [newB_length, List.length_set, List.length_append, List.length_singleton]; omega)))))); done)) ; (focus (first | rfl | assumption | omega)) ; (try dsimp only))
                | ((with_reducible apply appendR_lit) ; (focus (first | exact rfl | (repeat (first | assumption | exact get_new | exact get_set (by assumption) | exact get_set get_new | apply get_old | (apply get_set_ne; (focus (first | omega | (simp only [newB_length, List.length_set, List.length_append, List.length_singleton]; omega)))))); done)) ; (focus (first | rfl | assumption)) ; (focus rfl) ; (focus rfl) ; (focus rfl) ; (focus (first | exact Nat.zero_le _ | omega | (simp; done) | (simp; omega))) ; (try dsimp only))
                | (with_reducible refine appendR_nil ?_ ?_)
                | (with_reducible refine lenR_own (by assumption) ?_)
                | (with_reducible refine rowsR_own (by assumption) ?_)
                | (with_reducible refine lenR_sl ?_)
                | (with_reducible refine lenR_nils ?_)
                | (with_reducible refine lenR_rsl ?_)
                | (with_reducible refine rowsR_sl ?_)
                | (with_reducible refine rowsR_nils ?_)
                | (with_reducible refine rowsR_rsl ?_)
                | (with_reducible refine lenR_slx ?_)
                | (with_reducible refine rowsR_slx ?_)
                | (with_reducible refine appendR_slx ?_ ?_ ?_)
                | (with_reducible refine bytesR_intro (by first | rfl | (simp only [bs_take, bs_drop, bs_append]; rfl)) ?_)
                | (with_reducible refine nthR_bs (by first | omega | (simp only [List.length_append, List.length_cons, List.length_nil, List.length_take, List.length_drop, bs_length]; omega)) (fun _ _ => ?_))
                | (with_reducible intro _))))
          all_goals (conv => whnf)
          all_goals (try dsimp only)
          refine ⟨(k + 1, _), rfl, rfl, ⟨by omega, ?_, ?_⟩, by omega⟩
          · intro q hq
            rw [List.take_add_one, hpk] at hq
            simp only [Option.toList_some, List.mem_append, List.mem_singleton] at hq
            rcases hq with hq | rfl
            · exact hfit q hq
            · exact ⟨q1, q2, q3⟩
          · dsimp only
            have e1 : (layL s (L.take (k + 1))) = lay1 (layL s (L.take k)) p := by
              rw [List.take_add_one, hpk]
              simp [layL]
            have e2 := lay_rows (layL s (L.take k)) p sp (by omega) q3
            rw [e1]
            have e3 : (bs (layL s (L.take k))).length = (bs (lay1 (layL s (L.take k)) p)).length := by
              rw [bs_length, bs_length, lay1_length (by rw [hlen]; exact ⟨q1, q2, q3⟩)]
            have e4 : (bs p.2).length = 64 := by rw [bs_length, q3]
            rw [e4, Nat.min_self, e2, e3]
            exact .inr ⟨id, gen, sp, rfl, get_set hb⟩
      · rw [decide_eq_false (by intro q; exact hf ⟨q.1, by omega, q.2.2⟩)]
        repeat' (first
          | ((with_reducible refine Side.intro ?_) <;> (first | with_reducible rfl | omega | assumption | exact Nat.le_of_ble_eq_true rfl | (simp only [bs_length, List.length_append, List.length_cons, List.length_nil, List.length_take, List.length_drop, List.length_set, List.length_replicate]; omega) | exact .inl (by omega) | exact .inr (.inl ⟨rfl, by (simp only [bs_length, List.length_append, List.length_cons, List.length_nil, List.length_take, List.length_drop, List.length_set, List.length_replicate]; omega)⟩) | exact Ref.ok_refl _ _ | ((first | refine fresh_tup ?_ | skip); (repeat (first | exact FreshA.nils | exact FreshA.nilp | exact FreshA.int _ _ | exact FreshA.bool _ | exact FreshA.str _ | exact fresh_nil | refine fresh_cons ?_ ?_)); done) | exact rfl | (simp; done)))
          | ((conv => whnf) <;> (first
              | (with_reducible refine and_same ?_)
              | (with_reducible refine and_side ?_ ?_)
              | (with_reducible refine Br.yes (by omega) ?_)
              | (with_reducible refine Br.no (by omega) ?_)
              | (with_reducible refine Br.mk (fun _ => ?_) (fun _ => ?_))
              | (with_reducible refine Both.mk ?_ ?_)
              | ((with_reducible apply blkAt_intro) ; (focus (first | exact rfl | (repeat (first | assumption | exact get_new | exact get_set (by assumption) | exact get_set get_new | apply get_old | (apply get_set_ne; (focus (first | omega | (simp only [newB_length, List.length_set, List.length_append, List.length_singleton]; omega)))))); done)) ; (focus (first | rfl | assumption | omega)) ; (try dsimp only))
              | ((with_reducible apply appendR_lit) ; (focus (first | exact rfl | (repeat (first | assumption | exact get_new | exact get_set (by assumption) | exact get_set get_new | apply get_old | (apply get_set_ne; (focus (first | omega | (simp only [newB_length, List.length_set, List.length_append, List.length_singleton]; omega)))))); done)) ; (focus (first | rfl | assumption)) ; (focus rfl) ; (focus rfl) ; (focus rfl) ; (focus (first | exact Nat.zero_le _ | omega | (simp; done) | (simp; omega))) ; (try dsimp only))
              | (with_reducible refine appendR_nil ?_ ?_)
              | (with_reducible refine lenR_own (by assumption) ?_)
              | (with_reducible refine rowsR_own (by assumption) ?_)
              | (with_reducible refine lenR_sl ?_)
              | (with_reducible refine lenR_nils ?_)
              | (with_reducible refine lenR_rsl ?_)
              | (with_reducible refine rowsR_sl ?_)
              | (with_reducible refine rowsR_nils ?_)
              | (with_reducible refine rowsR_rsl ?_)
              | (with_reducible refine lenR_slx ?_)
              | (with_reducible refine rowsR_slx ?_)
              | (with_reducible refine appendR_slx ?_ ?_ ?_)
              | (with_reducible refine bytesR_intro (by first | rfl | (simp only [bs_take, bs_drop, bs_append]; rfl)) ?_)
              | (with_reducible refine nthR_bs (by first | omega | (simp only [List.length_append, List.length_cons, List.length_nil, List.length_take, List.length_drop, bs_length]; omega)) (fun _ _ => ?_))
              | (with_reducible intro _))))
        all_goals (conv => whnf)
        all_goals (try dsimp only)
        exact ⟨_, .one (.refl _), by rw [if_neg (fun q => hf (q.2 p (List.mem_of_getElem? hpk)))]⟩
    · have hkL : k = L.length := by omega
      subst hkL
      rw [List.take_length] at hfit hown
      rcases hown with ⟨rfl, h⟩ | ⟨id, gen, sp, rfl, hb⟩
      · repeat' (first
          | ((with_reducible refine Side.intro ?_) <;> (first | with_reducible rfl | omega | assumption | exact Nat.le_of_ble_eq_true rfl | (simp only [bs_length, List.length_append, List.length_cons, List.length_nil, List.length_take, List.length_drop, List.length_set, List.length_replicate]; omega) | exact .inl (by omega) | exact .inr (.inl ⟨rfl, by (simp only [bs_length, List.length_append, List.length_cons, List.length_nil, List.length_take, List.length_drop, List.length_set, List.length_replicate]; omega)⟩) | exact Ref.ok_refl _ _ | ((first | refine fresh_tup ?_ | skip); (repeat (first | exact FreshA.nils | exact FreshA.nilp | exact FreshA.int _ _ | exact FreshA.bool _ | exact FreshA.str _ | exact fresh_nil | refine fresh_cons ?_ ?_)); done) | exact rfl | (simp; done)))
          | ((conv => whnf) <;> (first
              | (with_reducible refine and_same ?_)
              | (with_reducible refine and_side ?_ ?_)
              | (with_reducible refine Br.yes (by omega) ?_)
              | (with_reducible refine Br.no (by omega) ?_)
              | (with_reducible refine Br.mk (fun _ => ?_) (fun _ => ?_))
              | (with_reducible refine Both.mk ?_ ?_)
              | ((with_reducible apply blkAt_intro) ; (focus (first | exact rfl | (repeat (first | assumption | exact get_new | exact get_set (by assumption) | exact get_set get_new | apply get_old | (apply get_set_ne; (focus (first | omega | (simp only [newB_length, List.length_set, List.length_append, List.length_singleton]; omega)))))); done)) ; (focus (first | rfl | assumption | omega)) ; (try dsimp only))
              | ((with_reducible apply appendR_lit) ; (focus (first | exact rfl | (repeat (first | assumption | exact get_new | exact get_set (by assumption) | exact get_set get_new | apply get_old | (apply get_set_ne; (focus (first | omega | (simp only [newB_length, List.length_set, List.length_append, List.length_singleton]; omega)))))); done)) ; (focus (first | rfl | assumption)) ; (focus rfl) ; (focus rfl) ; (focus rfl) ; (focus (first | exact Nat.zero_le _ | omega | (simp; done) | (simp; omega))) ; (try dsimp only))
              | (with_reducible refine appendR_nil ?_ ?_)
              | (with_reducible refine lenR_own (by assumption) ?_)
              | (with_reducible refine rowsR_own (by assumption) ?_)
              | (with_reducible refine lenR_sl ?_)
              | (with_reducible refine lenR_nils ?_)
              | (with_reducible refine lenR_rsl ?_)
              | (with_reducible refine rowsR_sl ?_)
              | (with_reducible refine rowsR_nils ?_)
              | (with_reducible refine rowsR_rsl ?_)
              | (with_reducible refine lenR_slx ?_)
              | (with_reducible refine rowsR_slx ?_)
              | (with_reducible refine appendR_slx ?_ ?_ ?_)
              | (with_reducible refine bytesR_intro (by first | rfl | (simp only [bs_take, bs_drop, bs_append]; rfl)) ?_)
              | (with_reducible refine nthR_bs (by first | omega | (simp only [List.length_append, List.length_cons, List.length_nil, List.length_take, List.length_drop, bs_length]; omega)) (fun _ _ => ?_))
              | (with_reducible intro _))))
        all_goals (conv => whnf)
        all_goals (try dsimp only)
        refine ⟨_, .tup (.cons (.nil 1 true) (.cons (.refl _) .nil)), ?_⟩
        rw [if_pos ⟨by omega, hfit⟩, h]
      · repeat' (first
          | ((with_reducible refine Side.intro ?_) <;> (first | with_reducible rfl | omega | assumption | exact Nat.le_of_ble_eq_true rfl | (simp only [bs_length, List.length_append, List.length_cons, List.length_nil, List.length_take, List.length_drop, List.length_set, List.length_replicate]; omega) | exact .inl (by omega) | exact .inr (.inl ⟨rfl, by (simp only [bs_length, List.length_append, List.length_cons, List.length_nil, List.length_take, List.length_drop, List.length_set, List.length_replicate]; omega)⟩) | exact Ref.ok_refl _ _ | ((first | refine fresh_tup ?_ | skip); (repeat (first | exact FreshA.nils | exact FreshA.nilp | exact FreshA.int _ _ | exact FreshA.bool _ | exact FreshA.str _ | exact fresh_nil | refine fresh_cons ?_ ?_)); done) | exact rfl | (simp; done)))
          | ((conv => whnf) <;> (first
              | (with_reducible refine and_same ?_)
              | (with_reducible refine and_side ?_ ?_)
              | (with_reducible refine Br.yes (by omega) ?_)
              | (with_reducible refine Br.no (by omega) ?_)
              | (with_reducible refine Br.mk (fun _ => ?_) (fun _ => ?_))
              | (with_reducible refine Both.mk ?_ ?_)
              | ((with_reducible apply blkAt_intro) ; (focus (first | exact rfl | (repeat (first | assumption | exact get_new | exact get_set (by assumption) | exact get_set get_new | apply get_old | (apply get_set_ne; (focus (first | omega | (simp only [newB_length, List.length_set, List.length_append, List.length_singleton]; omega)))))); done)) ; (focus (first | rfl | assumption | omega)) ; (try dsimp only))
              | ((with_reducible apply appendR_lit) ; (focus (first | exact rfl | (repeat (first | assumption | exact get_new | exact get_set (by assumption) | exact get_set get_new | apply get_old | (apply get_set_ne; (focus (first | omega | (simp only [newB_length, List.length_set, List.length_append, List.length_singleton]; omega)))))); done)) ; (focus (first | rfl | assumption)) ; (focus rfl) ; (focus rfl) ; (focus rfl) ; (focus (first | exact Nat.zero_le _ | omega | (simp; done) | (simp; omega))) ; (try dsimp only))
              | (with_reducible refine appendR_nil ?_ ?_)
              | (with_reducible refine lenR_own (by assumption) ?_)
              | (with_reducible refine rowsR_own (by assumption) ?_)
              | (with_reducible refine lenR_sl ?_)
              | (with_reducible refine lenR_nils ?_)
              | (with_reducible refine lenR_rsl ?_)
              | (with_reducible refine rowsR_sl ?_)
              | (with_reducible refine rowsR_nils ?_)
              | (with_reducible refine rowsR_rsl ?_)
              | (with_reducible refine lenR_slx ?_)
              | (with_reducible refine rowsR_slx ?_)
              | (with_reducible refine appendR_slx ?_ ?_ ?_)
              | (with_reducible refine bytesR_intro (by first | rfl | (simp only [bs_take, bs_drop, bs_append]; rfl)) ?_)
              | (with_reducible refine nthR_bs (by first | omega | (simp only [List.length_append, List.length_cons, List.length_nil, List.length_take, List.length_drop, bs_length]; omega)) (fun _ _ => ?_))
              | (with_reducible intro _))))
        all_goals (conv => whnf)
        all_goals (try dsimp only)
        · refine ⟨_, .one (.refl _), ?_⟩
          rw [if_pos ⟨by omega, hfit⟩, List.take_left']
          rfl
        · refine Side.intro ?_
          rw [List.take_left' rfl]
          exact fresh_cons (fresh_bs _) (fresh_cons (FreshA.int _ _) fresh_nil)
end Go.Proofs.Ytlhogahibillpaa
