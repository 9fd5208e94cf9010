import Derived.Test.YtppccaacbpkgiaaQ2
import Derived.Test.YtppccaacbpkgiaaQ1
import Derived.Test.YtppccaacbpkgiaaVJ
namespace Go.Proofs.Ytppccaacbpkgiaa
open Go Go.Proofs.Ytppccaacbpkgiaa.V
set_option maxRecDepth 20000
attribute [local irreducible] CallS AOK AOKn ALoop Side Ref.ok
def one64 : List UInt8 := List.replicate 64 1
theorem ones_ok : AOKn Try.prog F.joistlaw05_ones [] fun y => y = .sl 1 (bs one64) true := by
  refine AOKn.by_steps mixed fc_joistlaw05_ones_ok (by simp [fc_joistlaw05_ones]) ?_
  repeat' (first
    | ((with_reducible refine Side.intro ?_) <;> (first
    | omega
    ))
    | ((conv => whnf) <;> (first
    | (with_reducible refine and_side ?_ ?_)
    ))
    )
  all_goals (conv => whnf)
  all_goals (try dsimp only)
  refine loop_at (α := Nat × AH) (fun k => [(2, .int .i64 k.1)]) (fun k => k.2) (fun k => k.1 ≤ 64 ∧ k.2[0]? = some { sz := 1, els := bs (List.replicate k.1 1 ++ List.replicate (64 - k.1) 0), gen := 0, wr := true, pure := true }) (fun k => 64 - k.1) (0, _) ⟨by decide, get_new⟩ rfl rfl ?_
  rintro ⟨k, τ⟩ ⟨hk, hb⟩
  dsimp only at hk hb ⊢
  have hl : (bs (List.replicate k 1 ++ List.replicate (64 - k) 0)).length = 64 := by rw [bs_length]; simp; omega
  by_cases hlt : k < 64
  · have hgt : (List.replicate k (1 : UInt8) ++ List.replicate (64 - k) 0)[((k : Nat) : Int).toNat]? = some 0 := by
      rw [Int.toNat_natCast, List.getElem?_append_right (by simp), List.getElem?_replicate, if_pos (by simp; omega)]
    have e1 : (bs (List.replicate k (1 : UInt8) ++ List.replicate (64 - k) 0)).set (0 + ((k : Nat) : Int).toNat) [.int .u8 1] = bs (List.replicate (k + 1) 1 ++ List.replicate (64 - (k + 1)) 0) := by
      obtain ⟨m, hm⟩ : ∃ m, 64 - k = m + 1 := ⟨64 - k - 1, by omega⟩
      have := bs_set (List.replicate k (1 : UInt8) ++ List.replicate (64 - k) 0) k 1
      rw [Nat.zero_add, Int.toNat_natCast]
      refine this.trans ?_
      rw [hm, show 64 - (k + 1) = m by omega, List.set_append_right _ _ (by simp), List.replicate_succ (n := m), List.replicate_succ' (n := k)]
      simp
    repeat' (first
      | ((with_reducible refine Side.intro ?_) <;> (first
      | omega
      | exact Nat.le_of_ble_eq_true rfl
      | exact rfl
      ))
      | ((conv => whnf) <;> (first
      | (with_reducible refine and_same ?_)
      | (with_reducible refine and_side ?_ ?_)
      | ((with_reducible apply Br.yes) ; (focus omega))
      | ((with_reducible apply blkAt_step) ; (focus (first
      | ((repeat (first
      | assumption
      )); done)
      )) ; (focus (first | rfl | assumption | omega)) ; (focus (first | rfl | assumption)) ; (try dsimp only))
      | ((with_reducible apply nthR_bs1) ; (focus assumption))
      | (with_reducible refine IaW.of ?_)
      | (with_reducible refine nthR_z ?_)
      | (with_reducible refine lenR_rsl ?_)
      ))
      )
    all_goals (conv => whnf)
    all_goals (try dsimp only)
    rw [e1]
    exact ⟨(k + 1, _), rfl, rfl, ⟨hlt, get_set hb⟩, by dsimp only; omega⟩
  · have ek : k = 64 := by omega
    subst ek
    have hb64 : (bs one64).length = 64 := by rw [bs_length]; decide
    have ho : Own τ 1 (.rsl 0 0 0 64 none) (bs one64) := Own.mk' (sp := []) hb (by simp [bs_length, one64]) (by simp [one64])
    repeat' (first
      | ((with_reducible refine Side.intro ?_) <;> (first
      | ((first | refine fresh_tup ?_ | skip); (repeat (first |  exact FreshA.sl _ _ FreshA_bs | exact FreshA.sl _ _ FreshA_is | exact FreshA.nils | exact FreshA.nilp | exact FreshA.int _ _ | exact FreshA.bool _ | exact FreshA.str _ | exact fresh_nil | refine fresh_cons ?_ ?_ | with_reducible refine fresh_aggR ?_ | with_reducible refine fresh_agg ?_ | with_reducible exact fresh_nilA | with_reducible refine fresh_consA ?_ ?_)); done)
      ))
      | ((conv => whnf) <;> (first
      | (with_reducible refine and_same ?_)
      | (with_reducible refine and_side ?_ ?_)
      | ((with_reducible apply Br.no) ; (focus omega))
      | ((with_reducible apply lenR_own) ; (focus assumption))
      | ((with_reducible apply NOut.own) ; (focus assumption))
      ))
      )
    all_goals (conv => whnf)
    all_goals (try dsimp only)
    · exact ret_same rfl
    · exact Side.intro (nodup_bid1 _)
theorem markB_length (n : Nat) (s : List UInt8) : (markB n s).length = 64 := by
  unfold markB
  split
  · simp
  · exact lineB_length (by simp)
/-! ### The small case -/
def sg : LogV := ⟨1, 2, 2⟩
def z512 : List UInt8 := List.replicate 512 0
def sdv : Dv := ⟨z512, z512, [], 0, 0, false⟩
def sL1 : List (Int × List UInt8) := [(7, one64)]
def sL3 : List (Int × List UInt8) := [(0, one64), (6, one64), (7, one64)]
def sL2 : List (Int × List UInt8) := [(1, one64)]
theorem sdv_ok : DvR sdv := DvR.new (s := z512) (by decide)
theorem small1 : ∃ d Z, commitD sg sL1 sdv = (0, d) ∧ Cl d Z Z ∧ Z.length = 512 ∧ Z[511]? = some 1 ∧ Z[64]? = some 0 := by
  have hr : rightB 8 sL1 = true := by decide +kernel
  have hw : wrE sg sL1 = 0 := by decide +kernel
  have e : commitD sg sL1 sdv = comD sg sL1 sdv := by
    have hl : linesD sdv = 8 := by decide
    unfold commitD
    rw [hl, hw, if_neg, if_neg]
    · rintro (q | q)
      · exact q rfl
      · cases q
    · rintro (q | q)
      · exact q (by decide)
      · rw [hr] at q; cases q
  have hrl := recsB_lenR hr
  have hcl : Cl sdv z512 z512 := ⟨sdv_ok, rfl, rfl, (fun j v h => by cases h), rfl⟩
  have hz : z512.length = 512 := by decide
  have h1 : one64.length = 64 := by decide
  have hcL : ∀ c, c ∈ sL1 → 0 ≤ c.1 ∧ c.1 * 64 + c.2.length ≤ z512.length := by
    intro c hc
    rw [sL1, List.mem_singleton] at hc
    subst hc
    rw [hz]
    dsimp only
    omega
  have hP1 : PutOk z512 sg.First (recsB sL1) := by
    unfold PutOk
    rw [hrl, hz]
    decide
  have ho := com_outC (g := sg) (L := sL1) hcl hcL (by rw [hz]; decide) hP1 (markB_length _ _) (P := fun _ _ => True) trivial trivial trivial trivial (fun _ _ => trivial) trivial trivial
  have l1 : (c1S sg sL1 z512).length = 512 := (sto_len hP1).trans hz
  have hP2 : PutOk (c1S sg sL1 z512) sg.Mark (markB sL1.length (recsB sL1)) := by
    unfold PutOk
    rw [l1, markB_length]
    decide
  have l2 : (c2S sg sL1 z512).length = 512 := (sto_len hP2).trans l1
  have l3 : (lays (c2S sg sL1 z512) sL1).length = 512 := lays_len l2 (by rw [hz] at hcL; exact hcL)
  have hP4 : PutOk (lays (c2S sg sL1 z512) sL1) sg.Mark zer64 := by
    unfold PutOk
    rw [l3]
    decide
  rw [e]
  rcases ho with ⟨_, h0, ⟨hg, _⟩, _⟩ | ⟨h, _⟩
  · refine ⟨(comD sg sL1 sdv).2, _, by rw [← h0], hg, (sto_len hP4).trans l3, ?_, ?_⟩
    · unfold finS sto
      rw [store_at (by rw [l3]; decide), if_neg (by decide)]
      show (sto (c2S sg sL1 z512) 7 one64)[511]? = some 1
      unfold sto
      rw [store_at (by rw [l2]; decide), if_pos (by decide)]
      decide
    · unfold finS sto
      rw [store_at (by rw [l3]; decide), if_pos (by decide)]
      decide
  · exact absurd h.1 (by decide)
theorem small2 {d : Dv} (h : d.S.length = 512) : commitD sg sL3 d = (6, d) := by
  have hl : linesD d = 8 := by unfold linesD; rw [h]; rfl
  have hw : wrE sg sL3 = 6 := by decide +kernel
  unfold commitD
  rw [hl, hw, if_neg, if_pos]
  · left; decide
  · rintro (q | q)
    · exact q (by decide)
    · rw [show rightB 8 sL3 = true by decide +kernel] at q; cases q
theorem small3 {d : Dv} (h : d.S.length = 512) : commitD sg sL2 d = (1, d) := by
  have hl : linesD d = 8 := by unfold linesD; rw [h]; rfl
  have hw : wrE sg sL2 = 1 := by decide +kernel
  unfold commitD
  rw [hl, hw, if_neg, if_pos]
  · left; decide
  · rintro (q | q)
    · exact q (by decide)
    · rw [show rightB 8 sL2 = true by decide +kernel] at q; cases q
theorem bid_ne5 {σ : AH} {sz : Nat} {x : AV} {rows : List (List AV)} (hx : Own σ sz x rows) {id : Nat} (h : σ.length ≤ id) : x.bid ≠ some id := fun e => by
  have := hx.lt e
  omega
theorem chg1 {σ : AH} {X : Nat → Prop} {y : AV} {b : List UInt8} {n : Int} {id : Nat} {p : Bool} (hy : Own σ 1 y (bs b)) (hb : σ[id]? = some { sz := 2, els := [[.int .i64 n, y]], gen := 0, wr := true, pure := p }) (hne : y.bid ≠ some id) (h1 : ¬ X id) (h2 : ∀ i, X i → y.bid ≠ some i) : ChgR σ X (.rsl id 0 0 1 none) [(n, b)] := by
  refine .nest [y] (.inr ⟨id, 0, p, rfl, hb, ?_⟩) ?_ (fun i w e => ?_) (fun z hz i w => ?_)
  · intro r hr z hz
    have : crow [n] [y] = [[.int .i64 n, y]] := rfl
    simp only [List.map_cons, List.map_nil] at hr
    rw [this, List.mem_singleton] at hr
    subst hr
    simp only [List.mem_cons, List.not_mem_nil, or_false] at hz
    rcases hz with rfl | rfl
    · intro e; cases e
    · exact hne
  · exact Sep.snoc (xs := []) (D := []) (Sep.nil _) hy fun z hz => by simp at hz
  · cases e; exact h1 w
  · rw [List.mem_singleton] at hz
    subst hz
    exact h2 i w
theorem chg3 {σ : AH} {X : Nat → Prop} {y1 y2 y3 : AV} {b1 b2 b3 : List UInt8} {n1 n2 n3 : Int} {id : Nat} {p : Bool} (o1 : Own σ 1 y1 (bs b1)) (o2 : Own σ 1 y2 (bs b2)) (o3 : Own σ 1 y3 (bs b3)) (hb : σ[id]? = some { sz := 2, els := [[.int .i64 n1, y1], [.int .i64 n2, y2], [.int .i64 n3, y3]], gen := 0, wr := true, pure := p })
    (e1 : y1.bid ≠ some id) (e2 : y2.bid ≠ some id) (e3 : y3.bid ≠ some id) (d12 : y1.bid = none ∨ y1.bid ≠ y2.bid) (d13 : y1.bid = none ∨ y1.bid ≠ y3.bid) (d23 : y2.bid = none ∨ y2.bid ≠ y3.bid) (h1 : ¬ X id) (x1 : ∀ i, X i → y1.bid ≠ some i) (x2 : ∀ i, X i → y2.bid ≠ some i) (x3 : ∀ i, X i → y3.bid ≠ some i) :
    ChgR σ X (.rsl id 0 0 3 none) [(n1, b1), (n2, b2), (n3, b3)] := by
  refine .nest [y1, y2, y3] (.inr ⟨id, 0, p, rfl, hb, ?_⟩) ?_ (fun i w e => ?_) (fun z hz i w => ?_)
  · intro r hr z hz
    have : crow [n1, n2, n3] [y1, y2, y3] = [[.int .i64 n1, y1], [.int .i64 n2, y2], [.int .i64 n3, y3]] := rfl
    simp only [List.map_cons, List.map_nil] at hr
    rw [this] at hr
    simp only [List.mem_cons, List.not_mem_nil, or_false] at hr
    rcases hr with rfl | rfl | rfl
    · simp only [List.mem_cons, List.not_mem_nil, or_false] at hz
      rcases hz with rfl | rfl
      · intro e; cases e
      · exact e1
    · simp only [List.mem_cons, List.not_mem_nil, or_false] at hz
      rcases hz with rfl | rfl
      · intro e; cases e
      · exact e2
    · simp only [List.mem_cons, List.not_mem_nil, or_false] at hz
      rcases hz with rfl | rfl
      · intro e; cases e
      · exact e3
  · refine Sep.snoc (xs := [y1, y2]) (D := [b1, b2]) (Sep.snoc (xs := [y1]) (D := [b1]) (Sep.snoc (xs := []) (D := []) (Sep.nil _) o1 fun z hz => by simp at hz) o2 fun z hz => ?_) o3 fun z hz => ?_
    · rw [List.mem_singleton] at hz
      subst hz
      exact d12
    · simp only [List.mem_cons, List.not_mem_nil, or_false] at hz
      rcases hz with rfl | rfl
      · exact d13
      · exact d23
  · cases e; exact h1 w
  · simp only [List.mem_cons, List.not_mem_nil, or_false] at hz
    rcases hz with rfl | rfl | rfl
    · exact x1 i w
    · exact x2 i w
    · exact x3 i w
theorem small_ok : AOKn Try.prog F.joistlaw05_small [] fun y => y = .bool true := by
  obtain ⟨d1, Z, hc1, hcl1, hZl, hZ1, hZ2⟩ := small1
  have hLg := looks_log
  have hz : z512.length = 512 := by decide
  refine AOKn.by_steps mixed fc_joistlaw05_small_ok (by simp [fc_joistlaw05_small]) ?_
  repeat' (first
    | ((with_reducible refine Side.intro ?_) <;> (first
    | omega
    | exact Nat.le_of_ble_eq_true rfl
    | exact rfl
    ))
    | ((conv => whnf) <;> (first
    | (with_reducible refine and_same ?_)
    | (with_reducible refine and_side ?_ ?_)
    | ((with_reducible apply blkAt_step) ; (focus (first
    | exact rfl
    )) ; (focus (first | rfl | assumption | omega)) ; (focus (first | rfl | assumption)) ; (try dsimp only))
    ))
    )
  all_goals (conv => whnf)
  all_goals (try dsimp only)
  refine New_ok (s := z512) (.own (Own.mk' (sp := []) get_new (by rw [bs_length, hz]; rfl) (by rw [List.append_nil, z512, ← bs_replicate]; rfl))) (by rw [hz]; decide) _ ?_ (fun q => absurd (by decide) q)
  intro _ a σ1 hg1 hD1 hn1
  have box1 := hD1.box
  dsimp only at box1
  have vb1 : σ1[0]? = some { sz := 3, els := [logR sg], gen := 0, wr := true, pure := true } := hg1.2 0 _ (get_old (get_set get_new)) (by simp)
  have hl0 : 1 < σ1.length := by have := hg1.1; simp [newB] at this; omega
  have ha0 : ∀ id, a.has id → 1 < id := fun id w => by have := hn1 id w; simp [newB] at this; omega
  repeat' (first
    | ((with_reducible refine Side.intro ?_) <;> (first
    | exact Nat.le_of_ble_eq_true rfl
    ))
    | ((conv => whnf) <;> (first
    | (with_reducible refine and_same ?_)
    | (with_reducible refine and_side ?_ ?_)
    | ((with_reducible apply Br.no) ; (focus omega))
    | ((with_reducible apply blkAt_step) ; (focus (first
    | ((repeat (first
    | assumption
    )); done)
    )) ; (focus (first | rfl | assumption | omega)) ; (focus (first | rfl | assumption)) ; (try dsimp only))
    ))
    )
  all_goals (conv => whnf)
  all_goals (try dsimp only)
  refine call_sl ones_ok .nil fun σ2 y hg2 hy hny => ?_
  have hD2 := hD1.keepN hg2
  have vb2 := hg2.2 _ _ vb1 (by simp)
  obtain ⟨c1, c2, c3⟩ := hy.one
  repeat' (first
    | ((with_reducible apply Gr.side) ; with_reducible assumption)
    | ((with_reducible apply Gr.side) ; (repeat (first | exact Gr.refl _ _ | assumption | with_reducible refine Gr.trans ?_ (Gr.boxN _ _ _ _ _) | refine Gr.setNew ?_ (by first | exact Nat.le_refl _ | (simp only [newB_length, List.length_set, List.length_append, List.length_singleton]; omega) | omega) _ | refine Gr.addN ?_ _ | refine Gr.newN ?_ _ _ _ | exact Gr.trans (by assumption) (by assumption) | refine Gr.trans ?_ (by assumption) | refine Gr.trans (by assumption) ?_)) ; (first | done | fail))
    | ((with_reducible refine Side.intro ?_) <;> (first
    | omega
    | exact Nat.le_of_ble_eq_true rfl
    | exact rfl
    ))
    | ((conv => whnf) <;> (first
    | (with_reducible refine and_side ?_ ?_)
    ))
    )
  all_goals (conv => whnf)
  all_goals (try dsimp only)
  rotate_left
  · rw [c1]; exact Side.intro rfl
  rw [c1]
  have hI1 : ∀ p, p ∈ sL1 → inI2 p.1 := by
    intro p hp
    rw [sL1, List.mem_singleton] at hp
    subst hp
    unfold inI2
    decide
  have hI2 : ∀ p, p ∈ sL2 → inI2 p.1 := by
    intro p hp
    rw [sL2, List.mem_singleton] at hp
    subst hp
    unfold inI2
    decide
  have hI3 : ∀ p, p ∈ sL3 → inI2 p.1 := by
    intro p hp
    simp only [sL3, List.mem_cons, List.not_mem_nil, or_false] at hp
    rcases hp with rfl | rfl | rfl
    all_goals
      unfold inI2
      decide
  have na : ∀ (τ : AH) (z : AV), σ1.length ≤ τ.length → New τ z → ∀ i, a.has i → z.bid ≠ some i := fun τ z h1 h2 i w e => by
    have := hD1.lt i w
    have := h2 i e
    omega
  have n2 : ¬ a.has σ2.length := fun w => by have := hD2.lt _ w; omega
  refine Commit_ok (d := sdv) (hD2.keepN (by (repeat (first
        | exact Gr.refl _ _
        | refine Gr.addN ?_ _
        )))) sdv_ok sg sL1 (chg1 (hy.keepN (by (repeat (first
        | exact Gr.refl _ _
        | refine Gr.addN ?_ _
        )))) get_new (bid_ne5 hy (Nat.le_refl _)) n2 (na _ _ (Nat.le_refl _) hny)) (by decide) hI1 _ fun σ3 hD3 hR3 hg3 => ?_
  rw [hc1] at hD3 hR3 ⊢
  dsimp only at hD3 hR3
  have vb3 := hg3.2 _ _ ((show Gr σ2 _ none by (repeat (first
        | exact Gr.refl _ _
        | refine Gr.addN ?_ _
        ))).2 _ _ vb2 (by simp)) fun w => by have := ha0 _ w; omega
  have l3 : σ2.length ≤ σ3.length := Nat.le_trans (by simp [newB]) hg3.1
  have hL3 : d1.L.length = 512 := by rw [hcl1.L]; exact hZl
  have hS3 : d1.S.length = 512 := by rw [hcl1.S]; exact hZl
  skip
  all_goals (conv => whnf)
  all_goals (try dsimp only)
  refine Image_ok hD3 (by omega) _ fun v σ4 hg4 hv hnv => ?_
  rw [hcl1.L] at hv
  have hD4 := hD3.keepN hg4
  have vb4 := hg4.2 _ _ vb3 (by simp)
  repeat' (first
    | ((with_reducible refine Side.intro ?_) <;> (first
    | exact Nat.le_of_ble_eq_true rfl
    ))
    | ((conv => whnf) <;> (first
    | (with_reducible refine and_side ?_ ?_)
    | ((with_reducible apply blkAt_step) ; (focus (first
    | ((repeat (first
    | assumption
    )); done)
    )) ; (focus (first | rfl | assumption | omega)) ; (focus (first | rfl | assumption)) ; (try dsimp only))
    ))
    )
  all_goals (conv => whnf)
  all_goals (try dsimp only)
  refine call_sl ones_ok .nil fun σ5 y1 hg5 hy1 hny1 => ?_
  have vb5 := hg5.2 _ _ vb4 (by simp)
  obtain ⟨c11, c12, c13⟩ := hy1.one
  repeat' (first
    | ((with_reducible apply Gr.side) ; with_reducible assumption)
    | ((with_reducible refine Side.intro ?_) <;> (first
    | omega
    | exact Nat.le_of_ble_eq_true rfl
    | exact rfl
    ))
    | ((conv => whnf) <;> (first
    | (with_reducible refine and_side ?_ ?_)
    ))
    )
  all_goals (conv => whnf)
  all_goals (try dsimp only)
  refine call_sl ones_ok .nil fun σ6 y2 hg6 hy2 hny2 => ?_
  have vb6 := hg6.2 _ _ vb5 (by simp)
  have e12 := disj_new hy1 hny2
  replace hy1 := hy1.keepN hg6
  obtain ⟨c21, c22, c23⟩ := hy2.one
  repeat' (first
    | ((with_reducible apply Gr.side) ; with_reducible assumption)
    | ((with_reducible refine Side.intro ?_) <;> (first
    | omega
    | exact Nat.le_of_ble_eq_true rfl
    | exact rfl
    ))
    | ((conv => whnf) <;> (first
    | (with_reducible refine and_side ?_ ?_)
    ))
    )
  all_goals (conv => whnf)
  all_goals (try dsimp only)
  refine call_sl ones_ok .nil fun σ7 y3 hg7 hy3 hny3 => ?_
  have vb7 := hg7.2 _ _ vb6 (by simp)
  have e13 := disj_new hy1 hny3
  have e23 := disj_new hy2 hny3
  replace hy1 := hy1.keepN hg7
  replace hy2 := hy2.keepN hg7
  obtain ⟨c31, c32, c33⟩ := hy3.one
  have hv7 := ((hv.keepN hg5).keepN hg6).keepN hg7
  have hD7 := ((hD4.keepN hg5).keepN hg6).keepN hg7
  have l4 := hg4.1
  have l5 := hg5.1
  have l6 := hg6.1
  have l7 := hg7.1
  have l2 := hg2.1
  repeat' (first
    | ((with_reducible apply Gr.side) ; with_reducible assumption)
    | ((with_reducible apply Gr.side) ; (repeat (first | exact Gr.refl _ _ | assumption | with_reducible refine Gr.trans ?_ (Gr.boxN _ _ _ _ _) | refine Gr.setNew ?_ (by first | exact Nat.le_refl _ | (simp only [newB_length, List.length_set, List.length_append, List.length_singleton]; omega) | omega) _ | refine Gr.addN ?_ _ | refine Gr.newN ?_ _ _ _ | exact Gr.trans (by assumption) (by assumption) | refine Gr.trans ?_ (by assumption) | refine Gr.trans (by assumption) ?_)) ; (first | done | fail))
    | ((with_reducible refine Side.intro ?_) <;> (first
    | omega
    | exact Nat.le_of_ble_eq_true rfl
    | exact rfl
    ))
    | ((conv => whnf) <;> (first
    | (with_reducible refine and_side ?_ ?_)
    ))
    )
  all_goals (conv => whnf)
  all_goals (try dsimp only)
  rotate_left
  · rw [c31]; exact Side.intro rfl
  · rw [c21]; exact Side.intro rfl
  · rw [c11]; exact Side.intro rfl
  rw [c11, c21, c31]
  have n7 : ¬ a.has σ7.length := fun w => by have := hD7.lt _ w; omega
  refine Commit_ok (hD7.keepN (by (repeat (first
        | exact Gr.refl _ _
        | refine Gr.addN ?_ _
        )))) hR3 sg sL3 (chg3 (hy1.keepN (by (repeat (first
        | exact Gr.refl _ _
        | refine Gr.addN ?_ _
        )))) (hy2.keepN (by (repeat (first
        | exact Gr.refl _ _
        | refine Gr.addN ?_ _
        )))) (hy3.keepN (by (repeat (first
        | exact Gr.refl _ _
        | refine Gr.addN ?_ _
        )))) get_new (bid_ne5 hy1 (Nat.le_refl _)) (bid_ne5 hy2 (Nat.le_refl _)) (bid_ne5 hy3 (Nat.le_refl _)) e12 e13 e23 n7 (na _ _ (by omega) hny1) (na _ _ (by omega) hny2) (na _ _ (by omega) hny3)) (by decide) hI3 _ fun σ8 hD8 hR8 hg8 => ?_
  rw [small2 hS3] at hD8 hR8 ⊢
  dsimp only at hD8 hR8
  have g78 : GrP σ7 σ8 a.has := (GrP.of (by (repeat (first
        | exact Gr.refl _ _
        | refine Gr.addN ?_ _
        ))) _).trans hg8
  have vb8 := g78.2 _ _ vb7 fun w => by have := ha0 _ w; omega
  have hv8 := Own.keepP hv7 g78 fun i w e => by
    have := hnv i e
    have := hD1.lt i w
    omega
  have l8 := g78.1
  clear hg8
  repeat' (first
    | ((with_reducible refine Side.intro ?_) <;> (first
    | exact Nat.le_of_ble_eq_true rfl
    ))
    | ((conv => whnf) <;> (first
    | (with_reducible refine and_side ?_ ?_)
    | ((with_reducible apply blkAt_step) ; (focus (first
    | ((repeat (first
    | assumption
    )); done)
    )) ; (focus (first | rfl | assumption | omega)) ; (focus (first | rfl | assumption)) ; (try dsimp only))
    ))
    )
  all_goals (conv => whnf)
  all_goals (try dsimp only)
  refine call_sl ones_ok .nil fun σ9 y4 hg9 hy4 hny4 => ?_
  have vb9 := hg9.2 _ _ vb8 (by simp)
  obtain ⟨c41, c42, c43⟩ := hy4.one
  have hD9 := hD8.keepN hg9
  have hv9 := hv8.keepN hg9
  repeat' (first
    | ((with_reducible apply Gr.side) ; with_reducible assumption)
    | ((with_reducible apply Gr.side) ; (repeat (first | exact Gr.refl _ _ | assumption | with_reducible refine Gr.trans ?_ (Gr.boxN _ _ _ _ _) | refine Gr.setNew ?_ (by first | exact Nat.le_refl _ | (simp only [newB_length, List.length_set, List.length_append, List.length_singleton]; omega) | omega) _ | refine Gr.addN ?_ _ | refine Gr.newN ?_ _ _ _ | exact Gr.trans (by assumption) (by assumption) | refine Gr.trans ?_ (by assumption) | refine Gr.trans (by assumption) ?_)) ; (first | done | fail))
    | ((with_reducible refine Side.intro ?_) <;> (first
    | omega
    | exact Nat.le_of_ble_eq_true rfl
    | exact rfl
    ))
    | ((conv => whnf) <;> (first
    | (with_reducible refine and_side ?_ ?_)
    ))
    )
  all_goals (conv => whnf)
  all_goals (try dsimp only)
  rotate_left
  · rw [c41]; exact Side.intro rfl
  rw [c41]
  have n9 : ¬ a.has σ9.length := fun w => by have := hD9.lt _ w; omega
  have l9 := hg9.1
  refine Commit_ok (hD9.keepN (by (repeat (first
        | exact Gr.refl _ _
        | refine Gr.addN ?_ _
        )))) hR8 sg sL2 (chg1 (hy4.keepN (by (repeat (first
        | exact Gr.refl _ _
        | refine Gr.addN ?_ _
        )))) get_new (bid_ne5 hy4 (Nat.le_refl _)) n9 (na _ _ (by omega) hny4)) (by decide) hI2 _ fun σ10 hD10 hR10 hg10 => ?_
  rw [small3 hS3] at hD10 hR10 ⊢
  dsimp only at hD10 hR10
  have g9 : GrP σ9 σ10 a.has := (GrP.of (by (repeat (first
        | exact Gr.refl _ _
        | refine Gr.addN ?_ _
        ))) _).trans hg10
  have vb10 := g9.2 _ _ vb9 fun w => by have := ha0 _ w; omega
  have hv10 := Own.keepP hv9 g9 fun i w e => by
    have := hnv i e
    have := hD1.lt i w
    omega
  have hbz := bs_length Z
  have hi1 : Z[Int.toNat 511]? = some 1 := hZ1
  have hi2 : Z[Int.toNat 64]? = some 0 := hZ2
  have r6 := wRight_ok sg 6 (by omega)
  rw [show decide (rightG sg 6) = true by decide] at r6
  have r5 := wRight_ok sg 5 (by omega)
  rw [show decide (rightG sg 5) = false by decide] at r5
  have m5 := wMine_ok sg 5 (by omega)
  rw [show decide (mineG sg 5) = true by decide] at m5
  repeat' (first
    | ((with_reducible refine Side.intro ?_) <;> (first
    | omega
    | exact Nat.le_of_ble_eq_true rfl
    ))
    | ((conv => whnf) <;> (first
    | (with_reducible refine and_same ?_)
    | (with_reducible refine and_side ?_ ?_)
    | (with_reducible refine Br.yes rfl ?_)
    | ((with_reducible apply Br.yes) ; (focus omega))
    | ((with_reducible apply blkAt_step) ; (focus (first
    | ((repeat (first
    | assumption
    )); done)
    )) ; (focus (first | rfl | assumption | omega)) ; (focus (first | rfl | assumption)) ; (try dsimp only))
    | ((with_reducible apply nthR_bs1) ; (focus assumption))
    | ((with_reducible apply lenR_own) ; (focus assumption))
    | ((with_reducible apply ia_own) ; (focus assumption))
    | (with_reducible refine nthR_z ?_)
    | ((with_reducible apply nthR_left) ; (focus (first | omega | (simp only [List.length_append, List.length_cons, List.length_nil, List.length_take, List.length_drop, bs_length]; omega))))
    | (with_reducible intro _)
    ))
    )
  all_goals (conv => whnf)
  all_goals (try dsimp only)
  refine call_one r6 (.cons (hLg _ sg) (.cons (Looks.int _ _ _) .nil)) rfl fun σ11 hg11 => ?_
  have vb11 := hg11.2 _ _ vb10 (by simp)
  repeat' (first
    | ((with_reducible refine Side.intro ?_) <;> (first
    | exact Nat.le_of_ble_eq_true rfl
    ))
    | ((conv => whnf) <;> (first
    | (with_reducible refine and_side ?_ ?_)
    | ((with_reducible apply blkAt_step) ; (focus (first
    | ((repeat (first
    | assumption
    )); done)
    )) ; (focus (first | rfl | assumption | omega)) ; (focus (first | rfl | assumption)) ; (try dsimp only))
    ))
    )
  all_goals (conv => whnf)
  all_goals (try dsimp only)
  refine call_one r5 (.cons (hLg _ sg) (.cons (Looks.int _ _ _) .nil)) rfl fun σ12 hg12 => ?_
  have vb12 := hg12.2 _ _ vb11 (by simp)
  repeat' (first
    | ((with_reducible refine Side.intro ?_) <;> (first
    | exact Nat.le_of_ble_eq_true rfl
    ))
    | ((conv => whnf) <;> (first
    | (with_reducible refine and_side ?_ ?_)
    | ((with_reducible apply blkAt_step) ; (focus (first
    | ((repeat (first
    | assumption
    )); done)
    )) ; (focus (first | rfl | assumption | omega)) ; (focus (first | rfl | assumption)) ; (try dsimp only))
    ))
    )
  all_goals (conv => whnf)
  all_goals (try dsimp only)
  refine call_one m5 (.cons (hLg _ sg) (.cons (Looks.int _ _ _) .nil)) rfl fun σ13 hg13 => ?_
  repeat' (first
    | ((with_reducible refine Side.intro ?_) <;> (first
    | (simp only [List.append_nil, List.nil_append, List.map_nil]; first | exact List.nodup_nil | exact nodup_bid1 _ | exact nodup_bid2 (by assumption))
    | ((first | refine fresh_tup ?_ | skip); (repeat (first |  exact FreshA.sl _ _ FreshA_bs | exact FreshA.sl _ _ FreshA_is | exact FreshA.nils | exact FreshA.nilp | exact FreshA.int _ _ | exact FreshA.bool _ | exact FreshA.str _ | exact fresh_nil | refine fresh_cons ?_ ?_ | with_reducible refine fresh_aggR ?_ | with_reducible refine fresh_agg ?_ | with_reducible exact fresh_nilA | with_reducible refine fresh_consA ?_ ?_)); done)
    ))
    | ((conv => whnf) <;> (first
    | (with_reducible refine and_side ?_ ?_)
    | (with_reducible refine NOut.lit ?_)
    ))
    )
  all_goals (conv => whnf)
  all_goals (try dsimp only)
  exact ret_bool rfl
end Go.Proofs.Ytppccaacbpkgiaa

namespace Go.Proofs.Ytppccaacbpkgiaa
open Go Go.Proofs.Ytppccaacbpkgiaa.V
set_option maxRecDepth 20000
attribute [local irreducible] CallS AOK AOKn ALoop Side Ref.ok
/-- Blocks of changes. -/
def SpX (a : AV) (xs : List AV) (id : Nat) : Prop := a.bid = some id ∨ ∃ y, y ∈ xs ∧ y.bid = some id
theorem Spoil_callP {σ : AH} {a : AV} {L : List Int} {xs : List AV} {D : List (List UInt8)} (hb : L.length ≤ 4611686018427) (hl : xs.length = L.length) (ha : NestR σ 2 a (crow L xs)) (hs : Sep σ xs D) (Q : AV → AH → Prop) (h : ∀ σ', GrP σ σ' (SpX a xs) → Q (.tup []) σ') : CallS Try.prog F.joistlaw04_Spoil [a] σ Q := by
  have hcl := crow_length hl
  refine call_of_body mixed fc_joistlaw04_Spoil_ok (by simp [fc_joistlaw04_Spoil]) ?_
  rcases ha with ⟨rfl, _⟩ | ⟨ia, ga, p, rfl, hbk, hne⟩
  · skip
    all_goals (conv => whnf)
    all_goals (try dsimp only)
    refine loop_at (α := Unit) (fun a => [(2, .int .i64 0)]) (fun a => σ) (fun a => True) (fun a => 0) () trivial rfl rfl ?_
    rintro ⟨⟩ _
    repeat' (first
      | ((conv => whnf) <;> (first
      | (with_reducible refine and_same ?_)
      | ((with_reducible apply Br.no) ; (focus omega))
      | (with_reducible refine lenR_nils ?_)
      ))
      )
    all_goals (conv => whnf)
    all_goals (try dsimp only)
    exact h _ (.refl _ _)
  · have hne' : ∀ x, x ∈ xs → x.bid ≠ some ia := fun x hx => by
      obtain ⟨j, hj⟩ := List.mem_iff_getElem?.1 hx
      have hjl : j < L.length := by rw [← hl]; exact (List.getElem?_eq_some_iff.1 hj).1
      exact hne _ (List.mem_of_getElem? (crow_get (List.getElem?_eq_getElem hjl) hj)) x (by simp)
    skip
    all_goals (conv => whnf)
    all_goals (try dsimp only)
    refine loop_at (α := Nat × AH × List Int × Bool) (fun a => [(2, .int .i64 a.1)]) (fun a => a.2.1) (fun a => a.1 ≤ L.length ∧ a.2.2.1.length = L.length ∧ a.2.1[ia]? = some { sz := 2, els := crow a.2.2.1 xs, gen := ga, wr := true, pure := a.2.2.2 } ∧ (∀ (j : Nat) (x : AV), xs[j]? = some x → a.1 ≤ j → ∃ rows, Own a.2.1 1 x rows) ∧ GrP σ a.2.1 (SpX (.rsl ia ga 0 (crow L xs).length none) xs)) (fun a => L.length - a.1)
      (0, σ, L, p) ⟨by omega, rfl, hbk, (fun j x hj _ => by obtain ⟨d, _, ho⟩ := hs.row hj; exact ⟨_, ho⟩), .refl _ _⟩ rfl rfl ?_
    rintro ⟨i, σ1, L1, p1⟩ ⟨hi, hL1, hb1, ho1, hG⟩
    dsimp only at hi hL1 hb1 ho1 hG ⊢
    rw [hcl]
    have hcl1 := crow_length (L := L1) (xs := xs) (by rw [hl, hL1])
    by_cases hlt : i < L.length
    · obtain ⟨n, hn, hn'⟩ := getN (l := L1) (k := i) (by omega)
      obtain ⟨x, hx, hx'⟩ := getN (l := xs) (k := i) (by omega)
      have hrow := crow_get hn' hx'
      obtain ⟨rows, hxo⟩ := ho1 i x hx' (Nat.le_refl _)
      obtain ⟨ox1, ox2, ox3⟩ := hxo.one
      have hxia : x.bid ≠ some ia := hne' x (List.mem_of_getElem? hx')
      have hial := (List.getElem?_eq_some_iff.1 hb1).1
      repeat' (first
        | ((with_reducible refine Side.intro ?_) <;> (first
        | omega
        | exact Nat.le_of_ble_eq_true rfl
        ))
        | ((conv => whnf) <;> (first
        | (with_reducible refine and_same ?_)
        | (with_reducible refine and_side ?_ ?_)
        | ((with_reducible apply Br.yes) ; (focus omega))
        | ((with_reducible apply blkAt_step) ; (focus (first
        | ((repeat (first
        | assumption
        )); done)
        )) ; (focus (first | rfl | assumption | omega)) ; (focus (first | rfl | assumption)) ; (try dsimp only))
        | ((with_reducible apply nthR_row) ; (focus assumption))
        | (with_reducible refine IaW.of ?_)
        | (with_reducible refine lenR_rsl ?_)
        ))
        )
      all_goals (conv => whnf)
      all_goals (try dsimp only)
      rw [ox1]
      have hnew : Gr σ1 (newB σ1 1 ((List.replicate 1 [AV.nils]).set 0 [x]) (allFlatL ((List.replicate 1 [AV.nils]).set 0 [x]))) none := Gr.append _ _
      refine Owned_own _ [x] σ1.length 0 _ true false get_new ?_ ?_ ?_ (by simp) _ ?_
      · intro j z hj
        match j, hj with
        | 0, hj => simp at hj; subst hj; exact ⟨_, hxo.keepN hnew⟩
      · intro j k z w hj hk hjk
        match j, k, hj, hk with
        | 0, 0, _, _ => omega
      · intro j z hj
        match j, hj with
        | 0, hj =>
          simp at hj; subst hj
          intro e
          have := hxo.lt e
          omega
      intro σ2 hE
      have hb2 : σ2[ia]? = some { sz := 2, els := crow L1 xs, gen := ga, wr := true, pure := p1 } := by
        refine hE.2 _ _ (hnew.2 _ _ hb1 (by simp)) fun j z hj e => ?_
        match j, hj with
        | 0, hj => simp at hj; subst hj; exact hxia e
      have ho2 : ∀ (j : Nat) (z : AV), xs[j]? = some z → i + 1 ≤ j → ∃ rows, Own σ2 1 z rows := fun j z hj hij => by
        obtain ⟨rz, hz⟩ := ho1 j z hj (by omega)
        refine ⟨rz, Own.els hE (hz.keepN hnew) fun k w hk => ?_⟩
        match k, hk with
        | 0, hk =>
          simp at hk; subst hk
          rcases hs.dis j i z x hj hx' (by omega) with q | q
          · exact .inl q
          · exact .inr fun e => q e.symm
      have hG2 : GrP σ σ2 (SpX (.rsl ia ga 0 (crow L xs).length none) xs) := (hG.new _ _ _).trans ⟨hE.1, fun id b hb hn => hE.2 id b hb fun j z hj e => by
        match j, hj with
        | 0, hj => simp at hj; subst hj; exact hn (.inr ⟨x, List.mem_of_getElem? hx', e⟩)⟩
      repeat' (first
        | ((with_reducible refine Side.intro ?_) <;> (first
        | omega
        | exact Nat.le_of_ble_eq_true rfl
        | exact rfl
        ))
        | ((conv => whnf) <;> (first
        | (with_reducible refine and_same ?_)
        | (with_reducible refine and_side ?_ ?_)
        | ((with_reducible apply Br.yes) ; (focus omega))
        | ((with_reducible apply blkAt_step) ; (focus (first
        | ((repeat (first
        | assumption
        )); done)
        )) ; (focus (first | rfl | assumption | omega)) ; (focus (first | rfl | assumption)) ; (try dsimp only))
        | ((with_reducible apply nthR_row) ; (focus assumption))
        | (with_reducible refine IaW.of ?_)
        ))
        )
      all_goals (conv => whnf)
      all_goals (try dsimp only)
      refine ⟨(i + 1, _, L1.set i (-7), p1 && allFlat (AV.int IntKind.i64 (-7)).cells), rfl, rfl, ⟨by omega, by rw [List.length_set]; exact hL1, ?_, fun j z hj hij => ?_, hG2.setT (.inl rfl) _⟩, by omega⟩
      · dsimp only
        rw [get_set hb2, show 0 + (i : Int).toNat = i from by omega, crow_set (by rw [hl, hL1]) hx']
      · dsimp only at hij ⊢
        obtain ⟨rz, hz⟩ := ho2 j z hj hij
        exact ⟨rz, hz.keep (Gr.set _ _ _) (.inr fun e => hne' z (List.mem_of_getElem? hj) e.symm)⟩
    · repeat' (first
        | ((conv => whnf) <;> (first
        | (with_reducible refine and_same ?_)
        | ((with_reducible apply Br.no) ; (focus omega))
        | ((with_reducible apply blkAt_step) ; (focus (first
        | ((repeat (first
        | assumption
        )); done)
        )) ; (focus (first | rfl | assumption | omega)) ; (focus (first | rfl | assumption)) ; (try dsimp only))
        | (with_reducible refine lenR_rsl ?_)
        ))
        )
      all_goals (conv => whnf)
      all_goals (try dsimp only)
      exact h _ hG
end Go.Proofs.Ytppccaacbpkgiaa

namespace Go.Proofs.Ytppccaacbpkgiaa
open Go Go.Proofs.Ytppccaacbpkgiaa.V
set_option maxRecDepth 20000
attribute [local irreducible] CallS AOK AOKn ALoop Side Ref.ok
theorem all2 {x y : AV} {p : AV → Prop} (hx : p x) (hy : p y) : ∀ (j : Nat) (a : AV), [x, y][j]? = some a → p a := by
  rintro j a h
  match j with
  | 0 => simp at h; subst h; exact hx
  | 1 => simp at h; subst h; exact hy
  | j + 2 => simp at h
theorem disj2 {x y : AV} (h : x.bid = none ∨ x.bid ≠ y.bid) : ∀ (j k : Nat) (a b : AV), [x, y][j]? = some a → [x, y][k]? = some b → j ≠ k → a.bid = none ∨ a.bid ≠ b.bid := by
  rintro j k a b h1 h2 hn
  match j, k with
  | 0, 0 => exact absurd rfl hn
  | 1, 1 => exact absurd rfl hn
  | 0, 1 => simp at h1 h2; subst h1; subst h2; exact h
  | 1, 0 => simp at h1 h2; subst h1; subst h2; exact disj_symm h
  | j + 2, _ => simp at h1
  | _, k + 2 => simp at h2
theorem disj_of {x y : AV} (h : ∀ id, x.bid = some id → y.bid ≠ some id) : x.bid = none ∨ x.bid ≠ y.bid := by
  cases hx : x.bid with
  | none => exact .inl rfl
  | some i => exact .inr fun e => h i hx e.symm
def fewL (L : List (Int × List UInt8)) : Prop := (∀ p, p ∈ L → p.2.length ≤ 1024) ∧ L.length ≤ 300
theorem WalCodes_ok (g : LogV) (n k : Int) (L : List (Int × List UInt8)) (hn : inI2 n) (hk : inI2 k) (hL : L.length ≤ 1048576) (hI : ∀ p, p ∈ L → inI2 p.1) : AOKn Try.prog F.joistlaw05_WalCodes [.agg (logR g), .int .i64 n, .int .i64 k, .sl 2 (chg false L) false] fun y => y = .bool true := by
  have hLg := looks_log
  have hF := Few_ok L (by omega)
  refine AOKn.by_steps mixed fc_joistlaw05_WalCodes_ok (by simp [fc_joistlaw05_WalCodes]) ?_
  repeat' (first
    | ((with_reducible refine Side.intro ?_) <;> (first
    | exact rfl
    ))
    | ((conv => whnf) <;> (first
    | (with_reducible refine and_side ?_ ?_)
    ))
    )
  all_goals (conv => whnf)
  all_goals (try dsimp only)
  refine call_one small_ok .nil rfl fun σ1 hg1 => ?_
  have b1 : σ1[0]? = some { sz := 3, els := [logR g], gen := 0, wr := true, pure := true } := hg1.2 0 _ get_new (by simp)
  skip
  all_goals (conv => whnf)
  all_goals (try dsimp only)
  by_cases hf : (∀ p, p ∈ L → p.2.length ≤ 1024) ∧ L.length ≤ 300
  · rw [decide_eq_true hf] at hF
    refine call_one hF (.cons (looks_chg _ _ _) .nil) rfl fun σ2 hg2 => ?_
    have b2 := hg2.2 _ _ b1 (by simp)
    repeat' (first
      | ((with_reducible refine Side.intro ?_) <;> (first
      | exact Nat.le_of_ble_eq_true rfl
      ))
      | ((conv => whnf) <;> (first
      | (with_reducible refine and_side ?_ ?_)
      | ((with_reducible apply blkAt_step) ; (focus (first
      | ((repeat (first
      | assumption
      )); done)
      )) ; (focus (first | rfl | assumption | omega)) ; (focus (first | rfl | assumption)) ; (try dsimp only))
      ))
      )
    all_goals (conv => whnf)
    all_goals (try dsimp only)
    refine call_ss1 (wWrite_ok g L hL hI) (.cons (hLg _ g) (.cons (looks_chg _ _ _) .nil)) rfl fun σ3 x y hg3 hx hy hnx hny hd => ?_
    have b3 := hg3.2 _ _ b2 (by simp)
    repeat' (first
      | ((with_reducible refine Side.intro ?_) <;> (first
      | exact Nat.le_of_ble_eq_true rfl
      ))
      | ((conv => whnf) <;> (first
      | (with_reducible refine and_side ?_ ?_)
      | ((with_reducible apply blkAt_step) ; (focus (first
      | ((repeat (first
      | assumption
      )); done)
      )) ; (focus (first | rfl | assumption | omega)) ; (focus (first | rfl | assumption)) ; (try dsimp only))
      ))
      )
    all_goals (conv => whnf)
    all_goals (try dsimp only)
    refine call_ss1 (rWrite_ok g L hL hI) (.cons (hLg _ g) (.cons (looks_chg _ _ _) .nil)) rfl fun σ4 u v hg4 hu hv hnu hnv hd2 => ?_
    have b4 := hg4.2 _ _ b3 (by simp)
    replace hx := hx.keepN hg4
    replace hy := hy.keepN hg4
    obtain ⟨c1, k1, m1⟩ := hx.one
    obtain ⟨c2, k2, m2⟩ := hy.one
    have n0 : ∀ z, New σ2 z → z.bid ≠ some 0 := fun z hz e => by
      have := hz 0 e
      have := (List.getElem?_eq_some_iff.1 b2).1
      omega
    repeat' (first
      | ((with_reducible refine Side.intro ?_) <;> (first
      | omega
      | exact Nat.le_of_ble_eq_true rfl
      ))
      | ((conv => whnf) <;> (first
      | (with_reducible refine and_side ?_ ?_)
      | (with_reducible refine Br.yes rfl ?_)
      | ((with_reducible apply rowsR_own) ; (focus assumption))
      | ((with_reducible apply bytesR_intro) ; (focus (first | rfl | (simp only [bs_take, bs_drop, bs_append]; rfl))))
      ))
      )
    all_goals (conv => whnf)
    all_goals (try dsimp only)
    rw [c1, c2]
    refine Owned_own (newB σ4 1 (List.map (fun x => [x]) [x, y]) _) [x, y] σ4.length 0 _ true false get_new (all2 ⟨_, hx.keepN (by (repeat (first
          | exact Gr.refl _ _
          | refine Gr.addN ?_ _
          )))⟩ ⟨_, hy.keepN (by (repeat (first
          | exact Gr.refl _ _
          | refine Gr.addN ?_ _
          )))⟩) (disj2 (disj_of hd)) (all2 (bid_ne5 hx (Nat.le_refl _)) (bid_ne5 hy (Nat.le_refl _))) (by simp) _ ?_
    intro σ5 hE
    have b5 : σ5[0]? = some { sz := 3, els := [logR g], gen := 0, wr := true, pure := true } := hE.2 _ _ (get_old b4) (all2 (n0 x hnx) (n0 y hny))
    have r1 := wRight_ok g n hn
    have r2 := rRight_ok g n hn
    have m1 := wMine_ok g k hk
    have m2 := rMine_ok g k hk
    generalize decide (rightG g n) = B1 at r1 r2
    generalize decide (mineG g k) = B2 at m1 m2
    have bb1 : B1 = B1 := rfl
    have bb2 : B2 = B2 := rfl
    repeat' (first
      | ((with_reducible refine Side.intro ?_) <;> (first
      | exact Nat.le_of_ble_eq_true rfl
      ))
      | ((conv => whnf) <;> (first
      | (with_reducible refine and_same ?_)
      | (with_reducible refine and_side ?_ ?_)
      | (with_reducible refine Br.yes rfl ?_)
      | ((with_reducible apply blkAt_step) ; (focus (first
      | ((repeat (first
      | assumption
      )); done)
      )) ; (focus (first | rfl | assumption | omega)) ; (focus (first | rfl | assumption)) ; (try dsimp only))
      ))
      )
    all_goals (conv => whnf)
    all_goals (try dsimp only)
    refine call_one r1 (.cons (hLg _ g) (.cons (Looks.int _ _ _) .nil)) rfl fun σ6 hg6 => ?_
    have b6 := hg6.2 _ _ b5 (by simp)
    repeat' (first
      | ((with_reducible apply Gr.side) ; with_reducible assumption)
      | ((conv => whnf) <;> (first
      | (with_reducible refine and_side ?_ ?_)
      ))
      )
    all_goals (conv => whnf)
    all_goals (try dsimp only)
    refine call_one r2 (.cons (hLg _ g) (.cons (Looks.int _ _ _) .nil)) rfl fun σ7 hg7 => ?_
    have b7 := hg7.2 _ _ b6 (by simp)
    repeat' (first
      | ((with_reducible refine Side.intro ?_) <;> (first
      | exact Nat.le_of_ble_eq_true rfl
      ))
      | ((conv => whnf) <;> (first
      | (with_reducible refine and_side ?_ ?_)
      | (with_reducible refine Br.yes rfl ?_)
      | ((with_reducible apply blkAt_step) ; (focus (first
      | ((repeat (first
      | assumption
      )); done)
      )) ; (focus (first | rfl | assumption | omega)) ; (focus (first | rfl | assumption)) ; (try dsimp only))
      ))
      )
    all_goals (conv => whnf)
    all_goals (try dsimp only)
    refine call_one m1 (.cons (hLg _ g) (.cons (Looks.int _ _ _) .nil)) rfl fun σ8 hg8 => ?_
    have b8 := hg8.2 _ _ b7 (by simp)
    repeat' (first
      | ((with_reducible apply Gr.side) ; with_reducible assumption)
      | ((conv => whnf) <;> (first
      | (with_reducible refine and_side ?_ ?_)
      ))
      )
    all_goals (conv => whnf)
    all_goals (try dsimp only)
    refine call_one m2 (.cons (hLg _ g) (.cons (Looks.int _ _ _) .nil)) rfl fun σ9 hg9 => ?_
    repeat' (first
      | ((with_reducible refine Side.intro ?_) <;> (first
      | (simp only [List.append_nil, List.nil_append, List.map_nil]; first | exact List.nodup_nil | exact nodup_bid1 _ | exact nodup_bid2 (by assumption))
      | ((first | refine fresh_tup ?_ | skip); (repeat (first |  exact FreshA.sl _ _ FreshA_bs | exact FreshA.sl _ _ FreshA_is | exact FreshA.nils | exact FreshA.nilp | exact FreshA.int _ _ | exact FreshA.bool _ | exact FreshA.str _ | exact fresh_nil | refine fresh_cons ?_ ?_ | with_reducible refine fresh_aggR ?_ | with_reducible refine fresh_agg ?_ | with_reducible exact fresh_nilA | with_reducible refine fresh_consA ?_ ?_)); done)
      ))
      | ((conv => whnf) <;> (first
      | (with_reducible refine and_side ?_ ?_)
      | (with_reducible refine Br.yes rfl ?_)
      | (with_reducible refine NOut.lit ?_)
      ))
      )
    all_goals (conv => whnf)
    all_goals (try dsimp only)
    exact ret_bool rfl
  · rw [decide_eq_false hf] at hF
    refine call_one hF (.cons (looks_chg _ _ _) .nil) rfl fun σ2 hg2 => ?_
    repeat' (first
      | ((with_reducible refine Side.intro ?_) <;> (first
      | (simp only [List.append_nil, List.nil_append, List.map_nil]; first | exact List.nodup_nil | exact nodup_bid1 _ | exact nodup_bid2 (by assumption))
      | ((first | refine fresh_tup ?_ | skip); (repeat (first |  exact FreshA.sl _ _ FreshA_bs | exact FreshA.sl _ _ FreshA_is | exact FreshA.nils | exact FreshA.nilp | exact FreshA.int _ _ | exact FreshA.bool _ | exact FreshA.str _ | exact fresh_nil | refine fresh_cons ?_ ?_ | with_reducible refine fresh_aggR ?_ | with_reducible refine fresh_agg ?_ | with_reducible exact fresh_nilA | with_reducible refine fresh_consA ?_ ?_)); done)
      ))
      | ((conv => whnf) <;> (first
      | (with_reducible refine and_side ?_ ?_)
      | (with_reducible refine NOut.lit ?_)
      ))
      )
    all_goals (conv => whnf)
    all_goals (try dsimp only)
    exact ret_bool rfl
theorem WalRooms_ok (g : LogV) (L : List (Int × List UInt8)) (hL : L.length ≤ 1048576) (hI : ∀ p, p ∈ L → inI2 p.1) : AOKn Try.prog F.joistlaw05_WalRooms [.agg (logR g), .sl 2 (chg false L) false] fun y => y = .bool true := by
  have hLg := looks_log
  have hF := Few_ok L (by omega)
  have hcl := chg_length false L
  have hE : wrE g L = 1 ∨ (wrE g L = 6 ∧ g.Room < L.length) ∨ (wrE g L = 0 ∧ ¬ g.Room < L.length) := by
    unfold wrE
    split
    · exact .inl rfl
    · split
      · rename_i q; exact .inr (.inl ⟨rfl, q⟩)
      · rename_i q; exact .inr (.inr ⟨rfl, q⟩)
  have ntt : ¬ (true ≠ true) := by simp
  have nff : ¬ (false ≠ false) := by simp
  refine AOKn.by_steps mixed fc_joistlaw05_WalRooms_ok (by simp [fc_joistlaw05_WalRooms]) ?_
  repeat' (first
    | ((with_reducible refine Side.intro ?_) <;> (first
    | exact rfl
    ))
    | ((conv => whnf) <;> (first
    | (with_reducible refine and_side ?_ ?_)
    ))
    )
  all_goals (conv => whnf)
  all_goals (try dsimp only)
  refine call_one small_ok .nil rfl fun σ1 hg1 => ?_
  have b1 : σ1[0]? = some { sz := 3, els := [logR g], gen := 0, wr := true, pure := true } := hg1.2 0 _ get_new (by simp)
  skip
  all_goals (conv => whnf)
  all_goals (try dsimp only)
  generalize decide ((∀ p, p ∈ L → p.2.length ≤ 1024) ∧ L.length ≤ 300) = B at hF
  refine call_one hF (.cons (looks_chg _ _ _) .nil) rfl fun σ2 hg2 => ?_
  have b2 := hg2.2 _ _ b1 (by simp)
  repeat' (first
    | ((with_reducible refine Side.intro ?_) <;> (first
    | exact Nat.le_of_ble_eq_true rfl
    ))
    | ((conv => whnf) <;> (first
    | (with_reducible refine and_side ?_ ?_)
    | ((with_reducible apply blkAt_step) ; (focus (first
    | ((repeat (first
    | assumption
    )); done)
    )) ; (focus (first | rfl | assumption | omega)) ; (focus (first | rfl | assumption)) ; (try dsimp only))
    ))
    )
  all_goals (conv => whnf)
  all_goals (try dsimp only)
  refine call_ss1 (wWrite_ok g L hL hI) (.cons (hLg _ g) (.cons (looks_chg _ _ _) .nil)) rfl fun σ3 x y hg3 hx hy hnx hny hd => ?_
  have b3 := hg3.2 _ _ b2 (by simp)
  generalize wrE g L = e at *
  cases B with
  | false =>
    repeat' (first
      | ((with_reducible refine Side.intro ?_) <;> (first
      | (simp only [List.append_nil, List.nil_append, List.map_nil]; first | exact List.nodup_nil | exact nodup_bid1 _ | exact nodup_bid2 (by assumption))
      | ((first | refine fresh_tup ?_ | skip); (repeat (first |  exact FreshA.sl _ _ FreshA_bs | exact FreshA.sl _ _ FreshA_is | exact FreshA.nils | exact FreshA.nilp | exact FreshA.int _ _ | exact FreshA.bool _ | exact FreshA.str _ | exact fresh_nil | refine fresh_cons ?_ ?_ | with_reducible refine fresh_aggR ?_ | with_reducible refine fresh_agg ?_ | with_reducible exact fresh_nilA | with_reducible refine fresh_consA ?_ ?_)); done)
      ))
      | ((conv => whnf) <;> (first
      | (with_reducible refine and_side ?_ ?_)
      | (with_reducible refine NOut.lit ?_)
      ))
      )
    all_goals (conv => whnf)
    all_goals (try dsimp only)
    exact ret_bool rfl
  | true =>
    rcases hE with rfl | ⟨rfl, hr⟩ | ⟨rfl, hr⟩
    · repeat' (first
        | ((with_reducible refine Side.intro ?_) <;> (first
        | (simp only [List.append_nil, List.nil_append, List.map_nil]; first | exact List.nodup_nil | exact nodup_bid1 _ | exact nodup_bid2 (by assumption))
        | ((first | refine fresh_tup ?_ | skip); (repeat (first |  exact FreshA.sl _ _ FreshA_bs | exact FreshA.sl _ _ FreshA_is | exact FreshA.nils | exact FreshA.nilp | exact FreshA.int _ _ | exact FreshA.bool _ | exact FreshA.str _ | exact fresh_nil | refine fresh_cons ?_ ?_ | with_reducible refine fresh_aggR ?_ | with_reducible refine fresh_agg ?_ | with_reducible exact fresh_nilA | with_reducible refine fresh_consA ?_ ?_)); done)
        ))
        | ((conv => whnf) <;> (first
        | (with_reducible refine and_same ?_)
        | (with_reducible refine and_side ?_ ?_)
        | (with_reducible refine Br.yes rfl ?_)
        | (with_reducible refine NOut.lit ?_)
        ))
        )
      all_goals (conv => whnf)
      all_goals (try dsimp only)
      exact ret_bool rfl
    · repeat' (first
        | ((with_reducible refine Side.intro ?_) <;> (first
        | (simp only [List.append_nil, List.nil_append, List.map_nil]; first | exact List.nodup_nil | exact nodup_bid1 _ | exact nodup_bid2 (by assumption))
        | ((first | refine fresh_tup ?_ | skip); (repeat (first |  exact FreshA.sl _ _ FreshA_bs | exact FreshA.sl _ _ FreshA_is | exact FreshA.nils | exact FreshA.nilp | exact FreshA.int _ _ | exact FreshA.bool _ | exact FreshA.str _ | exact fresh_nil | refine fresh_cons ?_ ?_ | with_reducible refine fresh_aggR ?_ | with_reducible refine fresh_agg ?_ | with_reducible exact fresh_nilA | with_reducible refine fresh_consA ?_ ?_)); done)
        ))
        | ((conv => whnf) <;> (first
        | (with_reducible refine and_same ?_)
        | (with_reducible refine and_side ?_ ?_)
        | (with_reducible refine Br.yes rfl ?_)
        | ((with_reducible apply Br.yes) ; (focus omega))
        | ((with_reducible apply Br.no) ; (focus omega))
        | ((with_reducible apply blkAt_step) ; (focus (first
        | ((repeat (first
        | assumption
        )); done)
        )) ; (focus (first | rfl | assumption | omega)) ; (focus (first | rfl | assumption)) ; (try dsimp only))
        | (with_reducible refine NOut.lit ?_)
        | (with_reducible refine lenR_sl ?_)
        ))
        )
      all_goals (conv => whnf)
      all_goals (try dsimp only)
      exact ret_bool rfl
    · repeat' (first
        | ((with_reducible refine Side.intro ?_) <;> (first
        | (simp only [List.append_nil, List.nil_append, List.map_nil]; first | exact List.nodup_nil | exact nodup_bid1 _ | exact nodup_bid2 (by assumption))
        | ((first | refine fresh_tup ?_ | skip); (repeat (first |  exact FreshA.sl _ _ FreshA_bs | exact FreshA.sl _ _ FreshA_is | exact FreshA.nils | exact FreshA.nilp | exact FreshA.int _ _ | exact FreshA.bool _ | exact FreshA.str _ | exact fresh_nil | refine fresh_cons ?_ ?_ | with_reducible refine fresh_aggR ?_ | with_reducible refine fresh_agg ?_ | with_reducible exact fresh_nilA | with_reducible refine fresh_consA ?_ ?_)); done)
        ))
        | ((conv => whnf) <;> (first
        | (with_reducible refine and_same ?_)
        | (with_reducible refine and_side ?_ ?_)
        | (with_reducible refine Br.yes rfl ?_)
        | ((with_reducible apply Br.yes) ; (focus omega))
        | ((with_reducible apply Br.no) ; (focus omega))
        | ((with_reducible apply blkAt_step) ; (focus (first
        | ((repeat (first
        | assumption
        )); done)
        )) ; (focus (first | rfl | assumption | omega)) ; (focus (first | rfl | assumption)) ; (try dsimp only))
        | (with_reducible refine NOut.lit ?_)
        | (with_reducible refine lenR_sl ?_)
        ))
        )
      all_goals (conv => whnf)
      all_goals (try dsimp only)
      exact ret_bool rfl
theorem WalReads_ok (g : LogV) (s : List UInt8) (hs : s.length ≤ 1048576) : AOKn Try.prog F.joistlaw05_WalReads [.agg (logR g), .sl 1 (bs s) false] fun y => y = .bool true := by
  have hLg := looks_log
  have hns := bs_length s
  refine AOKn.by_steps mixed fc_joistlaw05_WalReads_ok (by simp [fc_joistlaw05_WalReads]) ?_
  repeat' (first
    | ((with_reducible refine Side.intro ?_) <;> (first
    | exact rfl
    ))
    | ((conv => whnf) <;> (first
    | (with_reducible refine and_side ?_ ?_)
    ))
    )
  all_goals (conv => whnf)
  all_goals (try dsimp only)
  refine call_one small_ok .nil rfl fun σ1 hg1 => ?_
  have b1 : σ1[0]? = some { sz := 3, els := [logR g], gen := 0, wr := true, pure := true } := hg1.2 0 _ get_new (by simp)
  by_cases h1 : 8192 < (s.length : Int)
  · repeat' (first
      | ((with_reducible refine Side.intro ?_) <;> (first
      | (simp only [List.append_nil, List.nil_append, List.map_nil]; first | exact List.nodup_nil | exact nodup_bid1 _ | exact nodup_bid2 (by assumption))
      | ((first | refine fresh_tup ?_ | skip); (repeat (first |  exact FreshA.sl _ _ FreshA_bs | exact FreshA.sl _ _ FreshA_is | exact FreshA.nils | exact FreshA.nilp | exact FreshA.int _ _ | exact FreshA.bool _ | exact FreshA.str _ | exact fresh_nil | refine fresh_cons ?_ ?_ | with_reducible refine fresh_aggR ?_ | with_reducible refine fresh_agg ?_ | with_reducible exact fresh_nilA | with_reducible refine fresh_consA ?_ ?_)); done)
      ))
      | ((conv => whnf) <;> (first
      | (with_reducible refine and_same ?_)
      | (with_reducible refine and_side ?_ ?_)
      | ((with_reducible apply Br.yes) ; (focus omega))
      | (with_reducible refine NOut.lit ?_)
      | (with_reducible refine lenR_sl ?_)
      ))
      )
    all_goals (conv => whnf)
    all_goals (try dsimp only)
    exact ret_bool rfl
  repeat' (first
    | ((conv => whnf) <;> (first
    | (with_reducible refine and_same ?_)
    | ((with_reducible apply Br.no) ; (focus omega))
    | (with_reducible refine lenR_sl ?_)
    ))
    )
  all_goals (conv => whnf)
  all_goals (try dsimp only)
  refine Lent_val _ s false (by omega) _ ?_
  have hblk : (σ1 ++ [{ sz := 1, els := bs (s ++ [77]), gen := 0, wr := true, pure := true }])[σ1.length]? = some ({ sz := 1, els := bs (s ++ [77]), gen := 0, wr := true, pure := true } : Blk) := get_new
  have b2 : (σ1 ++ [({ sz := 1, els := bs (s ++ [77]), gen := 0, wr := true, pure := true } : Blk)])[0]? = some { sz := 3, els := [logR g], gen := 0, wr := true, pure := true } := get_old b1
  have l2 : (σ1 ++ [({ sz := 1, els := bs (s ++ [77]), gen := 0, wr := true, pure := true } : Blk)]).length = σ1.length + 1 := by simp
  generalize σ1 ++ [({ sz := 1, els := bs (s ++ [77]), gen := 0, wr := true, pure := true } : Blk)] = σ2 at *
  have hin : Own σ2 1 (.rsl σ1.length 0 0 s.length none) (bs s) := Own.mk' (sp := bs [77]) hblk (by rw [bs_length]) (by rw [bs_append])
  repeat' (first
    | ((with_reducible refine Side.intro ?_) <;> (first
    | exact Nat.le_of_ble_eq_true rfl
    ))
    | ((conv => whnf) <;> (first
    | (with_reducible refine and_side ?_ ?_)
    | ((with_reducible apply blkAt_step) ; (focus (first
    | ((repeat (first
    | assumption
    )); done)
    )) ; (focus (first | rfl | assumption | omega)) ; (focus (first | rfl | assumption)) ; (try dsimp only))
    ))
    )
  all_goals (conv => whnf)
  all_goals (try dsimp only)
  refine Read_call g s (by omega) (Looks.ownbs hin) fun σ3 x xs hg3 hN hSp hOff hnx hnxs => ?_
  have b3 := hg3.2 _ _ b2 (by simp)
  have hb3 := hg3.2 _ _ hblk (by simp)
  skip
  all_goals (conv => whnf)
  all_goals (try dsimp only)
  refine Kept_val _ s _ _ [] false (by omega) hb3 _ ?_
  repeat' (first
    | ((with_reducible refine Side.intro ?_) <;> (first
    | exact Nat.le_of_ble_eq_true rfl
    ))
    | ((conv => whnf) <;> (first
    | (with_reducible refine and_side ?_ ?_)
    | ((with_reducible apply blkAt_step) ; (focus (first
    | ((repeat (first
    | assumption
    )); done)
    )) ; (focus (first | rfl | assumption | omega)) ; (focus (first | rfl | assumption)) ; (try dsimp only))
    ))
    )
  all_goals (conv => whnf)
  all_goals (try dsimp only)
  refine call_sl1 (rRead_ok g s (by omega)) (.cons (hLg _ g) (.cons (.bs _ _ _) .nil)) rfl fun σ4 y hg4 hy hny => ?_
  have hb4 := hg4.2 _ _ hb3 (by simp)
  have hN4 := NestR.keepN hg4 hN
  have hSp4 := Sep.keepN hg4 hSp
  have hml : (rdR g s).length ≤ 1048576 := by
    by_cases h0 : rdR g s = []
    · rw [h0]; decide
    · have q := rdR_ok h0
      have := q.2.2.2
      have hgr := q.2.1
      unfold rightG at hgr
      omega
  have hSm := ref_Same_ok (rdR g s) (rdR g s) (by omega) (by omega)
  rw [decide_eq_true rfl] at hSm
  skip
  all_goals (conv => whnf)
  all_goals (try dsimp only)
  refine call_one hSm (.cons (NestR.looksC hN4 hSp4) (.cons (Looks.ownchg hy) .nil)) rfl fun σ5 hg5 => ?_
  have hb5 := hg5.2 _ _ hb4 (by simp)
  skip
  all_goals (conv => whnf)
  all_goals (try dsimp only)
  refine Spoil_callP (by rw [List.length_map]; omega) (by rw [hSp.len, List.length_map, List.length_map]) (NestR.keepN hg5 hN4) (Sep.keepN hg5 hSp4) _ fun σ6 hg6 => ?_
  have hb6 := hg6.2 _ _ hb5 (by
    rintro (q | ⟨z, hz, q⟩)
    · have := hnx _ q; omega
    · have := hnxs z hz _ q; omega)
  repeat' (first
    | ((conv => whnf) <;> (first
    | (with_reducible refine and_same ?_)
    | (with_reducible refine Br.yes rfl ?_)
    ))
    )
  all_goals (conv => whnf)
  all_goals (try dsimp only)
  refine Kept_val _ s _ _ [] false (by omega) hb6 _ ?_
  repeat' (first
    | ((with_reducible refine Side.intro ?_) <;> (first
    | (simp only [List.append_nil, List.nil_append, List.map_nil]; first | exact List.nodup_nil | exact nodup_bid1 _ | exact nodup_bid2 (by assumption))
    | ((first | refine fresh_tup ?_ | skip); (repeat (first |  exact FreshA.sl _ _ FreshA_bs | exact FreshA.sl _ _ FreshA_is | exact FreshA.nils | exact FreshA.nilp | exact FreshA.int _ _ | exact FreshA.bool _ | exact FreshA.str _ | exact fresh_nil | refine fresh_cons ?_ ?_ | with_reducible refine fresh_aggR ?_ | with_reducible refine fresh_agg ?_ | with_reducible exact fresh_nilA | with_reducible refine fresh_consA ?_ ?_)); done)
    ))
    | ((conv => whnf) <;> (first
    | (with_reducible refine and_side ?_ ?_)
    | (with_reducible refine NOut.lit ?_)
    ))
    )
  all_goals (conv => whnf)
  all_goals (try dsimp only)
  exact ret_bool rfl
end Go.Proofs.Ytppccaacbpkgiaa

namespace Go.Proofs.Ytppccaacbpkgiaa
open Go Go.Proofs.Ytppccaacbpkgiaa.V
set_option linter.unusedSimpArgs false
/-! ### What was written is read -/
theorem getV_front {n : Int} (hn : mayW n = true) (t : List UInt8) : ((getV (le 8 n.toNat ++ t) 0 : Nat) : Int) = n := by
  obtain ⟨h1, h2⟩ := may_le hn
  have e2 : wd (le 8 n.toNat ++ t) 0 = le 8 n.toNat := by
    unfold wd
    rw [Nat.zero_mul, List.drop_zero, List.take_append_of_le_length (by rw [le_length]; omega), List.take_of_length_le (by rw [le_length]; omega)]
  have e3 : getOk (le 8 n.toNat ++ t) 0 = true := by
    rw [getOk, show Int.toNat 0 = 0 from rfl, e2, h1, Bool.and_true, inR, decide_eq_true_eq, List.length_append, le_length]
    omega
  rw [getV, e3, if_pos rfl, show Int.toNat 0 = 0 from rfl, e2, h2]
theorem lineB_front (n : Int) (l : List Int) (t : List UInt8) : ∃ u, lineB (n :: l) ++ t = le 8 n.toNat ++ u := by
  unfold lineB
  rw [cat_cons]
  exact ⟨_, by rw [List.append_assoc, List.append_assoc]⟩
theorem rdP_recB {p : Int × List UInt8} (hp : mayW p.1 = true) : rdP (recB p) = p := by
  unfold rdP recB
  obtain ⟨u, hu⟩ := lineB_front p.1 [] p.2
  have hl : (lineB [p.1]).length = 64 := lineB_length (by simp)
  refine Prod.ext ?_ ?_
  · dsimp only
    rw [hu]
    exact getV_front hp u
  · dsimp only
    rw [List.drop_append_of_le_length (by omega), List.drop_of_length_le (by omega)]
    rfl
theorem recsB_append (L M : List (Int × List UInt8)) : recsB (L ++ M) = recsB L ++ recsB M := by simp [recsB]
theorem recsB_at {L : List (Int × List UInt8)} (h : ∀ p, p ∈ L → p.2.length = 64) {i : Nat} {p : Int × List UInt8} (hp : L[i]? = some p) : ((recsB L).drop (128 * i)).take 128 = recB p := by
  have hi := (List.getElem?_eq_some_iff.1 hp).1
  have e : L = L.take i ++ (p :: L.drop (i + 1)) := by
    have := List.getElem?_eq_some_iff.1 hp
    rw [← this.2, List.getElem_cons_drop, List.take_append_drop]
  have h1 : (recsB (L.take i)).length = 128 * i := by
    rw [recsB_len fun q hq => h q (List.mem_of_mem_take hq), List.length_take]
    omega
  have h2 : (recB p).length = 128 := by rw [recB_length, h p (List.mem_of_getElem? hp)]
  have e2 : recsB (p :: L.drop (i + 1)) = recB p ++ recsB (L.drop (i + 1)) := rfl
  rw [e, recsB_append, e2, List.drop_append_of_le_length (by omega), List.drop_of_length_le (by omega), List.nil_append, List.take_append_of_le_length (by omega), List.take_of_length_le (by omega)]
theorem rdL_back {A : List UInt8} {f : Nat} {L : List (Int × List UInt8)} (h : ∀ p, p ∈ L → p.2.length = 64 ∧ mayW p.1 = true) (hr : (A.drop (64 * f)).take (128 * L.length) = recsB L) : rdL A f L.length = L := by
  refine List.ext_getElem? fun i => ?_
  by_cases hi : i < L.length
  · have hp : L[i]? = some L[i] := List.getElem?_eq_getElem hi
    have e : rdX A f i = recB L[i] := by
      have := recsB_at (fun p hp => (h p hp).1) hp
      rw [← hr] at this
      rw [← this, rdX, List.drop_take, List.take_take, List.drop_drop]
      congr 1
      omega
    rw [rdL, List.getElem?_map, List.getElem?_range hi, Option.map_some, e, rdP_recB (h _ (List.getElem_mem _)).2, hp]
  · rw [List.getElem?_eq_none (by rw [rdL_length]; omega), List.getElem?_eq_none (by omega)]
theorem all_zero : ∀ {s : List UInt8}, s.all (· == 0) = true → s = List.replicate s.length 0
  | [], _ => rfl
  | b :: s, h => by
    simp only [List.all_cons, Bool.and_eq_true, beq_iff_eq] at h
    rw [List.length_cons, List.replicate_succ, h.1, ← all_zero h.2]
theorem zero_all (n : Nat) : (List.replicate n (0 : UInt8)).all (· == 0) = true := by
  rw [List.all_eq_true]
  intro x hx
  simp [List.eq_of_mem_replicate hx]
theorem markB_N {L : List (Int × List UInt8)} (h0 : L ≠ []) (hl : L.length ≤ 1048576) : getV (markB L.length (recsB L)) 0 = L.length := by
  have hn : L.length ≠ 0 := fun q => h0 (List.length_eq_zero_iff.1 q)
  unfold markB
  rw [if_neg hn]
  obtain ⟨u, hu⟩ := lineB_front (L.length : Int) [((sum (recsB L) : Nat) : Int)] []
  rw [List.append_nil] at hu
  have := getV_front (n := (L.length : Int)) (by unfold mayW; rw [decide_eq_true_iff]; omega) u
  rw [hu]
  omega
theorem rd_zero {g : LogV} {A : List UInt8} (h : rdM g A = zer64) (hb : ¬ rdBad g A) : rdE g A = 0 ∧ rdR g A = [] := by
  have hz : rdZero g A = true := by unfold rdZero; rw [h]; exact zero_all 64
  exact ⟨by unfold rdE; rw [if_neg hb, if_pos hz], by unfold rdR; rw [if_neg hb, if_pos hz]⟩
theorem rd_back {g : LogV} {A : List UInt8} {L : List (Int × List UInt8)} (hb : ¬ rdBad g A) (hR : rightB ((A.length / 64 : Nat) : Int) L = true) (hw : wrE g L = 0) (hM : rdM g A = markB L.length (recsB L)) (hr : (A.drop (64 * g.First.toNat)).take (128 * L.length) = recsB L) : rdE g A = 0 ∧ rdR g A = L := by
  by_cases h0 : L = []
  · subst h0
    exact rd_zero (by rw [hM]; exact if_pos rfl) hb
  · obtain ⟨w1, w2, w3, w4⟩ := wrE_ok hw
    have hrg := w1
    unfold rightG at hrg
    have hin : ∀ p, p ∈ L → p.2.length = 64 ∧ mayW p.1 = true := fun p hp => by
      have := right_line w2 hp
      exact ⟨this.2.2, by unfold mayW; rw [decide_eq_true_iff]; omega⟩
    have hN : rdN g A = L.length := by
      unfold rdN
      rw [hM]
      exact markB_N h0 (by omega)
    have hz : ¬ (rdZero g A = true) := by
      intro q
      unfold rdZero at q
      have e := all_zero q
      have hl0 : (rdM g A).length = 64 := by rw [hM]; exact markB_length _ _
      rw [hl0] at e
      have : rdN g A = 0 := by unfold rdN; rw [e]; decide
      have : L.length ≠ 0 := fun q => h0 (List.length_eq_zero_iff.1 q)
      omega
    have hL := rdL_back hin hr
    have hok : rdOk g A := by
      unfold rdOk
      rw [hN, hL]
      have : L.length ≠ 0 := fun q => h0 (List.length_eq_zero_iff.1 q)
      refine ⟨by omega, w4, hR, hw, by rw [hM], ?_⟩
      have e1 : (g.First * 64).toNat = 64 * g.First.toNat := by omega
      rw [e1, recsB_len fun p hp => (hin p hp).1]
      exact hr
    refine ⟨by unfold rdE; rw [if_neg hb, if_neg hz, if_pos hok], ?_⟩
    unfold rdR
    rw [if_neg hb, if_neg hz, if_pos hok, hN, hL]
/-- A part of what was laid. -/
theorem sto_in {Y : List UInt8} {f : Nat} {b : List UInt8} (h : 64 * f + b.length ≤ Y.length) : ((sto Y (f : Int) b).drop (64 * f)).take b.length = b := by
  refine List.ext_getElem? fun i => ?_
  have e : ((f : Int) * 64).toNat = 64 * f := by omega
  rw [List.getElem?_take]
  by_cases hi : i < b.length
  · rw [if_pos hi, List.getElem?_drop]
    unfold sto
    rw [e, store_at (by omega), if_pos (by omega)]
    congr 1
    omega
  · rw [if_neg hi, List.getElem?_eq_none (by omega)]
theorem sto_out {Y : List UInt8} {f : Nat} {b : List UInt8} (h : 64 * f + b.length ≤ Y.length) {k n : Nat} (hd : k + n ≤ 64 * f ∨ 64 * f + b.length ≤ k) : ((sto Y (f : Int) b).drop k).take n = (Y.drop k).take n := by
  have e : ((f : Int) * 64).toNat = 64 * f := by omega
  refine List.ext_getElem? fun i => ?_
  rw [List.getElem?_take, List.getElem?_take]
  by_cases hi : i < n
  · rw [if_pos hi, if_pos hi, List.getElem?_drop, List.getElem?_drop]
    unfold sto
    rw [e, store_at (by omega), if_neg (by omega)]
  · rw [if_neg hi, if_neg hi]
end Go.Proofs.Ytppccaacbpkgiaa

namespace Go.Proofs.Ytppccaacbpkgiaa
open Go Go.Proofs.Ytppccaacbpkgiaa.V
set_option maxRecDepth 20000
attribute [local irreducible] CallS AOK AOKn ALoop Side Ref.ok
set_option maxHeartbeats 4000000 in
theorem WalBack_ok (s : List UInt8) (g : LogV) (L : List (Int × List UInt8)) (hs : s.length ≤ 1048576) (hL : L.length ≤ 1048576) (hI : ∀ p, p ∈ L → inI2 p.1) : AOKn Try.prog F.joistlaw05_WalBack [.sl 1 (bs s) false, .agg (logR g), .sl 2 (chg false L) false] fun y => y = .bool true := by
  have hLg := looks_log
  have hns := bs_length s
  have hcl := chg_length false L
  have hF := Few_ok L (by omega)
  have ntt : ¬ (true ≠ true) := by simp
  have nff : ¬ (false ≠ false) := by simp
  refine AOKn.by_steps mixed fc_joistlaw05_WalBack_ok (by simp [fc_joistlaw05_WalBack]) ?_
  repeat' (first
    | ((with_reducible refine Side.intro ?_) <;> (first
    | exact rfl
    ))
    | ((conv => whnf) <;> (first
    | (with_reducible refine and_side ?_ ?_)
    ))
    )
  all_goals (conv => whnf)
  all_goals (try dsimp only)
  refine call_one small_ok .nil rfl fun σ1 hg1 => ?_
  have b1 : σ1[0]? = some { sz := 3, els := [logR g], gen := 0, wr := true, pure := true } := hg1.2 0 _ get_new (by simp)
  skip
  all_goals (conv => whnf)
  all_goals (try dsimp only)
  by_cases hf : (∀ p, p ∈ L → p.2.length ≤ 1024) ∧ L.length ≤ 300
  · rw [decide_eq_true hf] at hF
    refine call_one hF (.cons (looks_chg _ _ _) .nil) rfl fun σ2 hg2 => ?_
    have b2 := hg2.2 _ _ b1 (by simp)
    by_cases h1 : 8192 < (s.length : Int) ∨ s.length % 64 ≠ 0
    · repeat' (first
        | ((with_reducible refine Side.intro ?_) <;> (first
        | omega
        | (simp only [List.append_nil, List.nil_append, List.map_nil]; first | exact List.nodup_nil | exact nodup_bid1 _ | exact nodup_bid2 (by assumption))
        | ((first | refine fresh_tup ?_ | skip); (repeat (first |  exact FreshA.sl _ _ FreshA_bs | exact FreshA.sl _ _ FreshA_is | exact FreshA.nils | exact FreshA.nilp | exact FreshA.int _ _ | exact FreshA.bool _ | exact FreshA.str _ | exact fresh_nil | refine fresh_cons ?_ ?_ | with_reducible refine fresh_aggR ?_ | with_reducible refine fresh_agg ?_ | with_reducible exact fresh_nilA | with_reducible refine fresh_consA ?_ ?_)); done)
        ))
        | ((conv => whnf) <;> (first
        | (with_reducible refine and_same ?_)
        | (with_reducible refine and_side ?_ ?_)
        | ((with_reducible apply Br.yes) ; (focus omega))
        | (with_reducible refine Br.mk (fun _ => ?_) (fun _ => ?_))
        | (with_reducible refine NOut.lit ?_)
        | (with_reducible refine lenR_sl ?_)
        ))
        )
      all_goals (conv => whnf)
      all_goals (try dsimp only)
      all_goals exact ret_bool rfl
    repeat' (first
      | ((with_reducible refine Side.intro ?_) <;> (first
      | omega
      | exact Nat.le_of_ble_eq_true rfl
      ))
      | ((conv => whnf) <;> (first
      | (with_reducible refine and_same ?_)
      | (with_reducible refine and_side ?_ ?_)
      | ((with_reducible apply Br.yes) ; (focus omega))
      | ((with_reducible apply Br.no) ; (focus omega))
      | ((with_reducible apply blkAt_step) ; (focus (first
      | ((repeat (first
      | assumption
      )); done)
      )) ; (focus (first | rfl | assumption | omega)) ; (focus (first | rfl | assumption)) ; (try dsimp only))
      | (with_reducible refine lenR_sl ?_)
      ))
      )
    all_goals (conv => whnf)
    all_goals (try dsimp only)
    refine call_ss1 (wWrite_ok g L hL hI) (.cons (hLg _ g) (.cons (looks_chg _ _ _) .nil)) rfl fun σ3 x y hg3 hx hy hnx hny hd => ?_
    have b3 := hg3.2 _ _ b2 (by simp)
    have eL : ((bs s).length : Int) / 64 = ((s.length / 64 : Nat) : Int) := by omega
    rw [eL]
    by_cases hE : wrE g L = 0
    · have e1 : wrR g L = recsB L := if_pos hE
      have e2 : wrM g L = markB L.length (recsB L) := if_pos hE
      rw [e1] at hx
      rw [e2] at hy
      rw [hE]
      have hR := wRight_ok g ((s.length / 64 : Nat) : Int) (by omega)
      repeat' (first
        | ((with_reducible refine Side.intro ?_) <;> (first
        | exact Nat.le_of_ble_eq_true rfl
        ))
        | ((conv => whnf) <;> (first
        | (with_reducible refine and_same ?_)
        | (with_reducible refine and_side ?_ ?_)
        | ((with_reducible apply Br.no) ; (focus omega))
        | ((with_reducible apply blkAt_step) ; (focus (first
        | ((repeat (first
        | assumption
        )); done)
        )) ; (focus (first | rfl | assumption | omega)) ; (focus (first | rfl | assumption)) ; (try dsimp only))
        ))
        )
      all_goals (conv => whnf)
      all_goals (try dsimp only)
      by_cases h3 : rightG g ((s.length / 64 : Nat) : Int)
      · rw [decide_eq_true h3] at hR
        refine call_one hR (.cons (hLg _ g) (.cons (Looks.int _ _ _) .nil)) rfl fun σ4 hg4 => ?_
        have b4 := hg4.2 _ _ b3 (by simp)
        replace hx := hx.keepN hg4
        replace hy := hy.keepN hg4
        have hRL := lines_Right_ok ((s.length / 64 : Nat) : Int) L (by omega)
        skip
        all_goals (conv => whnf)
        all_goals (try dsimp only)
        by_cases h4 : rightB ((s.length / 64 : Nat) : Int) L = true
        · rw [h4] at hRL
          refine call_one hRL (.cons (Looks.int _ _ _) (.cons (looks_chg _ _ _) .nil)) rfl fun σ5 hg5 => ?_
          have b5 := hg5.2 _ _ b4 (by simp)
          replace hx := hx.keepN hg5
          replace hy := hy.keepN hg5
          have hgr := h3
          unfold rightG at hgr
          have hrl := recsB_lenR h4
          have hrb := bs_length (recsB L)
          have hll := (wrE_ok hE).2.2.2
          have hml := markB_length L.length (recsB L)
          have hmb := bs_length (markB L.length (recsB L))
          obtain ⟨F, hF'⟩ := Int.eq_ofNat_of_zero_le hgr.2.2.1
          obtain ⟨M, hM'⟩ := Int.eq_ofNat_of_zero_le hgr.2.2.2.2.2.1
          have hrm : 64 * F + (recsB L).length ≤ s.length := by omega
          have hmm : 64 * M + 64 ≤ s.length := by omega
          have eT : List.take 0 (List.replicate 0 [AV.int IntKind.u8 0]) ++ bs s = bs s := rfl
          have hl0 := (List.getElem?_eq_some_iff.1 b5).1
          repeat' (first
            | ((with_reducible refine Side.intro ?_) <;> (first
            | omega
            ))
            | ((conv => whnf) <;> (first
            | (with_reducible refine and_same ?_)
            | (with_reducible refine and_side ?_ ?_)
            | ((with_reducible apply Br.yes) ; (focus omega))
            | ((with_reducible apply Br.no) ; (focus omega))
            | ((with_reducible apply blkAt_step) ; (focus (first
            | ((repeat (first
            | assumption
            )); done)
            )) ; (focus (first | rfl | assumption | omega)) ; (focus (first | rfl | assumption)) ; (try dsimp only))
            | ((with_reducible apply appendR_lit) ; (focus (first
            | ((repeat (first
            | exact get_new
            )); done)
            )) ; (focus (first | rfl | assumption)) ; (focus (first | rfl | assumption)) ; (focus rfl) ; (focus rfl) ; (focus rfl) ; (focus (first | exact Nat.zero_le _ | omega | (simp; done) | (simp; omega))) ; (try dsimp only))
            | ((with_reducible apply lenR_own) ; (focus assumption))
            | (with_reducible refine AppC.frz ?_)
            | (with_reducible refine lenR_sl ?_)
            | (with_reducible refine rowsR_sl ?_)
            ))
            )
          all_goals (conv => whnf)
          all_goals (try dsimp only)
          rw [eT]
          refine loop_at (α := Nat × List UInt8 × AH) (fun q => [(14, .int .i64 q.1)]) (fun q => q.2.2) (fun q => q.1 ≤ (recsB L).length ∧ q.2.1.length = s.length ∧ q.2.2[σ5.length]? = some { sz := 1, els := bs q.2.1, gen := 0 + 1, wr := true, pure := true } ∧ Gr σ5 q.2.2 none ∧ ∀ p, q.2.1[p]? = if 64 * F ≤ p ∧ p < 64 * F + q.1 then (recsB L)[p - 64 * F]? else s[p]?) (fun q => (recsB L).length - q.1) (0, s, _)
            ⟨Nat.zero_le _, rfl, get_set get_new, Gr.setNew (Gr.newN (Gr.refl _ _) _ _ _) (Nat.le_refl _) _, fun p => by rw [if_neg (by omega)]⟩ rfl rfl ?_
          rintro ⟨i, b, τ⟩ ⟨hi, hb, hB, hG, hp⟩
          dsimp only at hi hb hB hG hp ⊢
          have hxt := hx.keepN hG
          have hbt := hG.2 _ _ b5 (by simp)
          have hbb := bs_length b
          by_cases hlt : i < (recsB L).length
          · obtain ⟨v, hv, hv'⟩ := getN hlt
            obtain ⟨w, hw⟩ : ∃ w, b[(64 * g.First + (i : Int)).toNat]? = some w := ⟨_, List.getElem?_eq_getElem (by omega)⟩
            have eK : 0 + (64 * g.First + (i : Int)).toNat = 64 * F + i := by omega
            repeat' (first
              | ((with_reducible refine Side.intro ?_) <;> (first
              | omega
              | exact Nat.le_of_ble_eq_true rfl
              | exact rfl
              ))
              | ((conv => whnf) <;> (first
              | (with_reducible refine and_same ?_)
              | (with_reducible refine and_side ?_ ?_)
              | ((with_reducible apply Br.yes) ; (focus omega))
              | ((with_reducible apply blkAt_step) ; (focus (first
              | ((repeat (first
              | assumption
              )); done)
              )) ; (focus (first | rfl | assumption | omega)) ; (focus (first | rfl | assumption)) ; (try dsimp only))
              | ((with_reducible apply nthR_bs1) ; (focus assumption))
              | ((with_reducible apply lenR_own) ; (focus assumption))
              | ((with_reducible apply ia_own) ; (focus assumption))
              | (with_reducible refine IaW.of ?_)
              | (with_reducible refine nthR_z ?_)
              | ((with_reducible apply nthR_left) ; (focus (first | omega | (simp only [List.length_append, List.length_cons, List.length_nil, List.length_take, List.length_drop, bs_length]; omega))))
              | (with_reducible intro _)
              ))
              )
            all_goals (conv => whnf)
            all_goals (try dsimp only)
            rw [eK, bs_set]
            refine ⟨(i + 1, b.set (64 * F + i) v, _), rfl, rfl, ⟨hlt, by simp [hb], get_set hB, hG.setNew (Nat.le_refl _) _, fun p => ?_⟩, by dsimp only; omega⟩
            dsimp only
            rw [List.getElem?_set]
            by_cases q : 64 * F + i = p
            · subst q
              rw [if_pos rfl, if_pos (by omega), if_pos (by omega), show 64 * F + i - 64 * F = i by omega]
              exact hv'.symm
            · rw [if_neg q, hp]
              by_cases q2 : 64 * F ≤ p ∧ p < 64 * F + i
              · rw [if_pos q2, if_pos (by omega)]
              · rw [if_neg q2, if_neg (by omega)]
          · have ei : i = (recsB L).length := by omega
            have eb : b = sto s (F : Int) (recsB L) := by
              refine List.ext_getElem? fun p => ?_
              unfold sto
              rw [hp, show ((F : Int) * 64).toNat = 64 * F by omega, store_at (by omega), ei]
            clear hp
            subst eb
            repeat' (first
              | ((conv => whnf) <;> (first
              | (with_reducible refine and_same ?_)
              | ((with_reducible apply Br.no) ; (focus omega))
              | ((with_reducible apply lenR_own) ; (focus assumption))
              ))
              )
            all_goals (conv => whnf)
            all_goals (try dsimp only)
            have hA1 : (sto s (F : Int) (recsB L)).length = s.length := hb
            generalize hA1e : sto s (F : Int) (recsB L) = A1 at *
            have hyt := hy.keepN hG
            have hmk : (bs (markB L.length (recsB L))).length = 64 := by rw [hmb, hml]
            generalize hmke : markB L.length (recsB L) = mk at *
            refine loop_at (α := Nat × List UInt8 × AH) (fun q => [(15, .int .i64 q.1)]) (fun q => q.2.2) (fun q => q.1 ≤ 64 ∧ q.2.1.length = s.length ∧ q.2.2[σ5.length]? = some { sz := 1, els := bs q.2.1, gen := 0 + 1, wr := true, pure := true } ∧ Gr σ5 q.2.2 none ∧ ∀ p, q.2.1[p]? = if 64 * M ≤ p ∧ p < 64 * M + q.1 then mk[p - 64 * M]? else A1[p]?) (fun q => 64 - q.1) (0, A1, τ)
              ⟨Nat.zero_le _, hA1, hB, hG, fun p => by rw [if_neg (by omega)]⟩ rfl rfl ?_
            clear hyt hxt hbt hB hG hbb τ
            rintro ⟨i, b, τ⟩ ⟨hi, hb, hB, hG, hp⟩
            dsimp only at hi hb hB hG hp ⊢
            have hyt := hy.keepN hG
            have hbt := hG.2 _ _ b5 (by simp)
            have hbb := bs_length b
            by_cases hlt : i < 64
            · obtain ⟨v, hv, hv'⟩ := getN (show i < mk.length by omega)
              obtain ⟨w, hw⟩ : ∃ w, b[(64 * g.Mark + (i : Int)).toNat]? = some w := ⟨_, List.getElem?_eq_getElem (by omega)⟩
              have eK : 0 + (64 * g.Mark + (i : Int)).toNat = 64 * M + i := by omega
              repeat' (first
                | ((with_reducible refine Side.intro ?_) <;> (first
                | omega
                | exact Nat.le_of_ble_eq_true rfl
                | exact rfl
                ))
                | ((conv => whnf) <;> (first
                | (with_reducible refine and_same ?_)
                | (with_reducible refine and_side ?_ ?_)
                | ((with_reducible apply Br.yes) ; (focus omega))
                | ((with_reducible apply blkAt_step) ; (focus (first
                | ((repeat (first
                | assumption
                )); done)
                )) ; (focus (first | rfl | assumption | omega)) ; (focus (first | rfl | assumption)) ; (try dsimp only))
                | ((with_reducible apply nthR_bs1) ; (focus assumption))
                | ((with_reducible apply lenR_own) ; (focus assumption))
                | ((with_reducible apply ia_own) ; (focus assumption))
                | (with_reducible refine IaW.of ?_)
                | (with_reducible refine nthR_z ?_)
                | ((with_reducible apply nthR_left) ; (focus (first | omega | (simp only [List.length_append, List.length_cons, List.length_nil, List.length_take, List.length_drop, bs_length]; omega))))
                | (with_reducible intro _)
                ))
                )
              all_goals (conv => whnf)
              all_goals (try dsimp only)
              rw [eK, bs_set]
              refine ⟨(i + 1, b.set (64 * M + i) v, _), rfl, rfl, ⟨hlt, by simp [hb], get_set hB, hG.setNew (Nat.le_refl _) _, fun p => ?_⟩, by dsimp only; omega⟩
              dsimp only
              rw [List.getElem?_set]
              by_cases q : 64 * M + i = p
              · subst q
                rw [if_pos rfl, if_pos (by omega), if_pos (by omega), show 64 * M + i - 64 * M = i by omega]
                exact hv'.symm
              · rw [if_neg q, hp]
                by_cases q2 : 64 * M ≤ p ∧ p < 64 * M + i
                · rw [if_pos q2, if_pos (by omega)]
                · rw [if_neg q2, if_neg (by omega)]
            · have ei : i = 64 := by omega
              have eb : b = sto A1 (M : Int) mk := by
                refine List.ext_getElem? fun p => ?_
                unfold sto
                rw [hp, show ((M : Int) * 64).toNat = 64 * M by omega, store_at (by omega), ei, hml]
              clear hp
              subst eb
              have hA2 : (sto A1 (M : Int) mk).length = s.length := hb
              have hi1 : ((sto A1 (M : Int) mk).drop (64 * M)).take 64 = mk := by
                have := sto_in (Y := A1) (f := M) (b := mk) (by omega)
                rwa [hml] at this
              have hi2 : ((sto A1 (M : Int) mk).drop (64 * F)).take (128 * L.length) = recsB L := by
                rw [sto_out (Y := A1) (f := M) (b := mk) (by omega) (by omega), ← hA1e, ← hrl]
                exact sto_in (by omega)
              generalize hA2e : sto A1 (M : Int) mk = A2 at *
              have hoA : Own τ 1 (.rsl σ5.length (0 + 1) 0 (0 + (bs s).length) none) (bs A2) := Own.mk' (sp := []) hB (by rw [hbb, hA2, hns]; omega) (by rw [List.append_nil])
              have hnb : ¬ rdBad g A2 := by
                unfold rdBad
                rw [hA2]
                rintro (q | q | q)
                · omega
                · omega
                · exact q h3
              have hrd := rd_back (g := g) (A := A2) (L := L) hnb (by rw [hA2]; exact h4) hE (by unfold rdM; rw [show g.Mark.toNat = M by omega, hi1, ← hmke]) (by rw [show g.First.toNat = F by omega]; exact hi2)
              repeat' (first
                | ((with_reducible refine Side.intro ?_) <;> (first
                | exact Nat.le_of_ble_eq_true rfl
                ))
                | ((conv => whnf) <;> (first
                | (with_reducible refine and_same ?_)
                | (with_reducible refine and_side ?_ ?_)
                | ((with_reducible apply Br.no) ; (focus omega))
                | ((with_reducible apply blkAt_step) ; (focus (first
                | ((repeat (first
                | assumption
                )); done)
                )) ; (focus (first | rfl | assumption | omega)) ; (focus (first | rfl | assumption)) ; (try dsimp only))
                ))
                )
              all_goals (conv => whnf)
              all_goals (try dsimp only)
              refine Read_call g A2 (by omega) (Looks.ownbs hoA) fun σ6 a6 xs hg6 hN hSp hOff hna hnxs => ?_
              rw [hrd.1]
              rw [hrd.2] at hN hSp
              have b6 := hg6.2 _ _ hbt (by simp)
              have hB6 := hg6.2 _ _ hB (by simp)
              have hG6 := hG.trans hg6
              skip
              all_goals (conv => whnf)
              all_goals (try dsimp only)
              refine loop_at (α := Nat × List UInt8 × AH) (fun q => [(18, .int .i64 q.1)]) (fun q => q.2.2) (fun q => q.1 ≤ 64 ∧ q.2.1.length = s.length ∧ q.2.2[σ5.length]? = some { sz := 1, els := bs q.2.1, gen := 0 + 1, wr := true, pure := true } ∧ GrP σ6 q.2.2 (fun id => id = σ5.length) ∧ ∀ p, q.2.1[p]? = if 64 * M ≤ p ∧ p < 64 * M + q.1 then zer64[p - 64 * M]? else A2[p]?) (fun q => 64 - q.1) (0, A2, σ6)
                ⟨Nat.zero_le _, hA2, hB6, .refl _ _, fun p => by rw [if_neg (by omega)]⟩ rfl rfl ?_
              rintro ⟨i, b, τ'⟩ ⟨hi, hb', hB', hG', hp⟩
              dsimp only at hi hb' hB' hG' hp ⊢
              have hnA : ∀ id, id = σ5.length → a6.bid ≠ some id := fun id q e => by
                have := hna _ e
                have := (List.getElem?_eq_some_iff.1 hB).1
                omega
              have hnX : ∀ z, z ∈ xs → ∀ id, id = σ5.length → z.bid ≠ some id := fun z hz id q e => by
                have := hnxs z hz _ e
                have := (List.getElem?_eq_some_iff.1 hB).1
                omega
              have hbt' := hG'.2 _ _ b6 (by omega)
              have hbb' := bs_length b
              have hzz : zer64.length = 64 := by decide
              by_cases hlt : i < 64
              · obtain ⟨v, hv⟩ : ∃ w, b[(64 * g.Mark + (i : Int)).toNat]? = some w := ⟨_, List.getElem?_eq_getElem (by omega)⟩
                have hz : zer64[i]? = some 0 := by unfold zer64; rw [List.getElem?_replicate, if_pos hlt]
                have eK : 0 + (64 * g.Mark + (i : Int)).toNat = 64 * M + i := by omega
                have eS := bs_set b (64 * M + i) 0
                repeat' (first
                  | ((with_reducible refine Side.intro ?_) <;> (first
                  | omega
                  | exact Nat.le_of_ble_eq_true rfl
                  | exact rfl
                  ))
                  | ((conv => whnf) <;> (first
                  | (with_reducible refine and_same ?_)
                  | (with_reducible refine and_side ?_ ?_)
                  | ((with_reducible apply Br.yes) ; (focus omega))
                  | ((with_reducible apply blkAt_step) ; (focus (first
                  | ((repeat (first
                  | assumption
                  )); done)
                  )) ; (focus (first | rfl | assumption | omega)) ; (focus (first | rfl | assumption)) ; (try dsimp only))
                  | ((with_reducible apply nthR_bs1) ; (focus assumption))
                  | (with_reducible refine IaW.of ?_)
                  | (with_reducible refine nthR_z ?_)
                  ))
                  )
                all_goals (conv => whnf)
                all_goals (try dsimp only)
                rw [eK, show (AV.int IntKind.u8 0) = .int .u8 ((0 : UInt8).toNat : Int) from rfl, eS]
                refine ⟨(i + 1, b.set (64 * M + i) 0, _), rfl, rfl, ⟨hlt, by simp [hb'], get_set hB', hG'.setT rfl _, fun p => ?_⟩, by dsimp only; omega⟩
                dsimp only
                rw [List.getElem?_set]
                by_cases q : 64 * M + i = p
                · subst q
                  rw [if_pos rfl, if_pos (by omega), if_pos (by omega), show 64 * M + i - 64 * M = i by omega]
                  exact hz.symm
                · rw [if_neg q, hp]
                  by_cases q2 : 64 * M ≤ p ∧ p < 64 * M + i
                  · rw [if_pos q2, if_pos (by omega)]
                  · rw [if_neg q2, if_neg (by omega)]
              · have ei' : i = 64 := by omega
                have eb : b = sto A2 (M : Int) zer64 := by
                  refine List.ext_getElem? fun p => ?_
                  unfold sto
                  rw [hp, show ((M : Int) * 64).toNat = 64 * M by omega, store_at (by omega), ei', hzz]
                clear hp
                subst eb
                have hA3 : (sto A2 (M : Int) zer64).length = s.length := hb'
                have hz3 : ((sto A2 (M : Int) zer64).drop (64 * M)).take 64 = zer64 := by
                  have := sto_in (Y := A2) (f := M) (b := zer64) (by omega)
                  rwa [hzz] at this
                generalize sto A2 (M : Int) zer64 = A3 at *
                have hoA3 : Own τ' 1 (.rsl σ5.length (0 + 1) 0 (0 + (bs s).length) none) (bs A3) := Own.mk' (sp := []) hB' (by rw [hbb', hA3, hns]; omega) (by rw [List.append_nil])
                have hnb3 : ¬ rdBad g A3 := by
                  unfold rdBad
                  rw [hA3]
                  rintro (q | q | q)
                  · omega
                  · omega
                  · exact q h3
                have hrz := rd_zero (g := g) (A := A3) (by unfold rdM; rw [show g.Mark.toNat = M by omega]; exact hz3) hnb3
                have hN' := NestR.keepP hN hG' hnA
                have hSp' := Sep.keepP hSp hG' hnX
                repeat' (first
                  | ((with_reducible refine Side.intro ?_) <;> (first
                  | exact Nat.le_of_ble_eq_true rfl
                  ))
                  | ((conv => whnf) <;> (first
                  | (with_reducible refine and_same ?_)
                  | (with_reducible refine and_side ?_ ?_)
                  | ((with_reducible apply Br.no) ; (focus omega))
                  | ((with_reducible apply blkAt_step) ; (focus (first
                  | ((repeat (first
                  | assumption
                  )); done)
                  )) ; (focus (first | rfl | assumption | omega)) ; (focus (first | rfl | assumption)) ; (try dsimp only))
                  ))
                  )
                all_goals (conv => whnf)
                all_goals (try dsimp only)
                refine Read_call g A3 (by omega) (Looks.ownbs hoA3) fun σ7 a7 xs7 hg7 hN7 hSp7 hOff7 hna7 hnxs7 => ?_
                rw [hrz.1]
                rw [hrz.2] at hN7 hSp7
                have b7 := hg7.2 _ _ hbt' (by simp)
                have hN7' := NestR.keepN hg7 hN'
                have hSp7' := Sep.keepN hg7 hSp'
                have hl7 : ((crow (([] : List (Int × List UInt8)).map (·.1)) xs7).length : Int) = 0 := by rw [crow_length (by rw [hSp7.len, List.length_map, List.length_map])]; rfl
                have hy7 := (Own.keepP (hyt.keepN hg6) hG' fun id q e => by have := hy.lt e; omega).keepN hg7
                have hSm := ref_Same_ok L L (by omega) (by omega)
                rw [decide_eq_true rfl] at hSm
                have hrr := rRight_ok g ((s.length / 64 : Nat) : Int) (by omega)
                rw [decide_eq_true h3] at hrr
                repeat' (first
                  | ((conv => whnf) <;> (first
                  | (with_reducible refine and_same ?_)
                  | (with_reducible refine Br.yes rfl ?_)
                  | ((with_reducible apply Br.yes) ; (focus omega))
                  | ((with_reducible apply lenR_own) ; (focus assumption))
                  ))
                  )
                all_goals (conv => whnf)
                all_goals (try dsimp only)
                refine call_one hSm (.cons (NestR.looksC hN7' hSp7') (.cons (looks_chg _ _ _) .nil)) rfl fun σ8 hg8 => ?_
                have b8 := hg8.2 _ _ b7 (by simp)
                have hN8 := NestR.keepN hg8 hN7
                repeat' (first
                  | ((with_reducible refine Side.intro ?_) <;> (first
                  | exact Nat.le_of_ble_eq_true rfl
                  ))
                  | ((conv => whnf) <;> (first
                  | (with_reducible refine and_same ?_)
                  | (with_reducible refine and_side ?_ ?_)
                  | (with_reducible refine Br.yes rfl ?_)
                  | ((with_reducible apply blkAt_step) ; (focus (first
                  | ((repeat (first
                  | assumption
                  )); done)
                  )) ; (focus (first | rfl | assumption | omega)) ; (focus (first | rfl | assumption)) ; (try dsimp only))
                  | ((with_reducible apply NestR.lenW) ; (focus assumption))
                  ))
                  )
                all_goals (conv => whnf)
                all_goals (try dsimp only)
                refine call_one hrr (.cons (hLg _ g) (.cons (Looks.int _ _ _) .nil)) rfl fun σ9 hg9 => ?_
                repeat' (first
                  | ((with_reducible refine Side.intro ?_) <;> (first
                  | (simp only [List.append_nil, List.nil_append, List.map_nil]; first | exact List.nodup_nil | exact nodup_bid1 _ | exact nodup_bid2 (by assumption))
                  | ((first | refine fresh_tup ?_ | skip); (repeat (first |  exact FreshA.sl _ _ FreshA_bs | exact FreshA.sl _ _ FreshA_is | exact FreshA.nils | exact FreshA.nilp | exact FreshA.int _ _ | exact FreshA.bool _ | exact FreshA.str _ | exact fresh_nil | refine fresh_cons ?_ ?_ | with_reducible refine fresh_aggR ?_ | with_reducible refine fresh_agg ?_ | with_reducible exact fresh_nilA | with_reducible refine fresh_consA ?_ ?_)); done)
                  ))
                  | ((conv => whnf) <;> (first
                  | (with_reducible refine and_side ?_ ?_)
                  | (with_reducible refine NOut.lit ?_)
                  ))
                  )
                all_goals (conv => whnf)
                all_goals (try dsimp only)
                exact ret_bool rfl
        · rw [Bool.not_eq_true] at h4
          rw [h4] at hRL
          refine call_one hRL (.cons (Looks.int _ _ _) (.cons (looks_chg _ _ _) .nil)) rfl fun σ5 hg5 => ?_
          repeat' (first
            | ((with_reducible refine Side.intro ?_) <;> (first
            | (simp only [List.append_nil, List.nil_append, List.map_nil]; first | exact List.nodup_nil | exact nodup_bid1 _ | exact nodup_bid2 (by assumption))
            | ((first | refine fresh_tup ?_ | skip); (repeat (first |  exact FreshA.sl _ _ FreshA_bs | exact FreshA.sl _ _ FreshA_is | exact FreshA.nils | exact FreshA.nilp | exact FreshA.int _ _ | exact FreshA.bool _ | exact FreshA.str _ | exact fresh_nil | refine fresh_cons ?_ ?_ | with_reducible refine fresh_aggR ?_ | with_reducible refine fresh_agg ?_ | with_reducible exact fresh_nilA | with_reducible refine fresh_consA ?_ ?_)); done)
            ))
            | ((conv => whnf) <;> (first
            | (with_reducible refine and_side ?_ ?_)
            | (with_reducible refine NOut.lit ?_)
            ))
            )
          all_goals (conv => whnf)
          all_goals (try dsimp only)
          exact ret_bool rfl
      · rw [decide_eq_false h3] at hR
        refine call_one hR (.cons (hLg _ g) (.cons (Looks.int _ _ _) .nil)) rfl fun σ4 hg4 => ?_
        repeat' (first
          | ((with_reducible refine Side.intro ?_) <;> (first
          | (simp only [List.append_nil, List.nil_append, List.map_nil]; first | exact List.nodup_nil | exact nodup_bid1 _ | exact nodup_bid2 (by assumption))
          | ((first | refine fresh_tup ?_ | skip); (repeat (first |  exact FreshA.sl _ _ FreshA_bs | exact FreshA.sl _ _ FreshA_is | exact FreshA.nils | exact FreshA.nilp | exact FreshA.int _ _ | exact FreshA.bool _ | exact FreshA.str _ | exact fresh_nil | refine fresh_cons ?_ ?_ | with_reducible refine fresh_aggR ?_ | with_reducible refine fresh_agg ?_ | with_reducible exact fresh_nilA | with_reducible refine fresh_consA ?_ ?_)); done)
          ))
          | ((conv => whnf) <;> (first
          | (with_reducible refine and_side ?_ ?_)
          | (with_reducible refine NOut.lit ?_)
          ))
          )
        all_goals (conv => whnf)
        all_goals (try dsimp only)
        exact ret_bool rfl
    · repeat' (first
        | ((with_reducible refine Side.intro ?_) <;> (first
        | (simp only [List.append_nil, List.nil_append, List.map_nil]; first | exact List.nodup_nil | exact nodup_bid1 _ | exact nodup_bid2 (by assumption))
        | ((first | refine fresh_tup ?_ | skip); (repeat (first |  exact FreshA.sl _ _ FreshA_bs | exact FreshA.sl _ _ FreshA_is | exact FreshA.nils | exact FreshA.nilp | exact FreshA.int _ _ | exact FreshA.bool _ | exact FreshA.str _ | exact fresh_nil | refine fresh_cons ?_ ?_ | with_reducible refine fresh_aggR ?_ | with_reducible refine fresh_agg ?_ | with_reducible exact fresh_nilA | with_reducible refine fresh_consA ?_ ?_)); done)
        ))
        | ((conv => whnf) <;> (first
        | (with_reducible refine and_same ?_)
        | (with_reducible refine and_side ?_ ?_)
        | ((with_reducible apply Br.yes) ; (focus omega))
        | (with_reducible refine NOut.lit ?_)
        ))
        )
      all_goals (conv => whnf)
      all_goals (try dsimp only)
      exact ret_bool rfl
  · rw [decide_eq_false hf] at hF
    refine call_one hF (.cons (looks_chg _ _ _) .nil) rfl fun σ2 hg2 => ?_
    repeat' (first
      | ((with_reducible refine Side.intro ?_) <;> (first
      | (simp only [List.append_nil, List.nil_append, List.map_nil]; first | exact List.nodup_nil | exact nodup_bid1 _ | exact nodup_bid2 (by assumption))
      | ((first | refine fresh_tup ?_ | skip); (repeat (first |  exact FreshA.sl _ _ FreshA_bs | exact FreshA.sl _ _ FreshA_is | exact FreshA.nils | exact FreshA.nilp | exact FreshA.int _ _ | exact FreshA.bool _ | exact FreshA.str _ | exact fresh_nil | refine fresh_cons ?_ ?_ | with_reducible refine fresh_aggR ?_ | with_reducible refine fresh_agg ?_ | with_reducible exact fresh_nilA | with_reducible refine fresh_consA ?_ ?_)); done)
      ))
      | ((conv => whnf) <;> (first
      | (with_reducible refine and_side ?_ ?_)
      | (with_reducible refine NOut.lit ?_)
      ))
      )
    all_goals (conv => whnf)
    all_goals (try dsimp only)
    exact ret_bool rfl
end Go.Proofs.Ytppccaacbpkgiaa

namespace Go.Proofs.Ytppccaacbpkgiaa
open Go Go.Proofs.Ytppccaacbpkgiaa.V
set_option maxRecDepth 20000
attribute [local irreducible] CallS AOK AOKn ALoop Side Ref.ok
def newD (s : List UInt8) (k : Int) : Dv := ⟨s, s, [], 0, max k 0, false⟩
theorem newD_cl {s : List UInt8} (h : newG s.length) {k : Int} (hk : k ≤ 9223372036854775807) : Cl (newD s k) s s := ⟨(DvR.new h).arm hk, rfl, rfl, (fun j v h => by cases h), rfl⟩
theorem lines_bd {n : Int} {m : Nat} {L : List (Int × List UInt8)} (h : rightB n L = true) (hn : n * 64 ≤ m) : ∀ c, c ∈ L → 0 ≤ c.1 ∧ c.1 * 64 + c.2.length ≤ m := fun c hc => by
  have := right_line h hc
  omega
/-- A commit, from a device that is clean. -/
theorem commit_out {g : LogV} {L : List (Int × List UInt8)} {d : Dv} {A : List UInt8} (h : Cl d A A) (hA : A.length % 64 = 0) (h1 : rightG g ((A.length / 64 : Nat) : Int)) (h2 : rightB ((A.length / 64 : Nat) : Int) L = true) (h3 : wrE g L = 0) (h4 : L ≠ []) {P : List UInt8 → List UInt8 → Prop}
    (p1 : P A A) (p2 : P A (c1S g L A)) (p3 : P (c1S g L A) (c1S g L A)) (p4 : P (c1S g L A) (c2S g L A))
    (hP : ∀ j, j ≤ L.length → P (c2S g L A) (lays (c2S g L A) (L.take j))) (hP2 : P (lays (c2S g L A) L) (lays (c2S g L A) L)) (hP3 : P (lays (c2S g L A) L) (finS g L (c2S g L A))) :
    OutC (2 * (L.length : Int) + 10) d.armed (commitD g L d) (fun d' => Cl d' (finS g L (c2S g L A)) (finS g L (c2S g L A)) ∧ d'.es = []) P := by
  have hl : linesD d = ((A.length / 64 : Nat) : Int) := by unfold linesD; rw [h.S]
  have e : commitD g L d = comD g L d := by
    unfold commitD
    rw [hl, if_neg, if_neg]
    · rintro (q | q)
      · exact q h3
      · exact h4 q
    · rintro (q | q)
      · exact q h1
      · rw [h2] at q; cases q
  rw [e]
  have hr := h1
  unfold rightG at hr
  have hrl := recsB_lenR h2
  have hll := (wrE_ok h3).2.2.2
  exact com_outC h (lines_bd h2 (by omega)) (by omega) (by unfold PutOk; omega) (markB_length _ _) p1 p2 p3 p4 hP hP2 hP3
set_option maxHeartbeats 4000000 in
theorem WalCounts_ok (s : List UInt8) (g : LogV) (L : List (Int × List UInt8)) (k : Int) (hs : s.length ≤ 1048576) (hL : L.length ≤ 1048576) (hI : ∀ p, p ∈ L → inI2 p.1) (hk : inI2 k) : AOKn Try.prog F.joistlaw05_WalCounts [.sl 1 (bs s) false, .agg (logR g), .sl 2 (chg false L) false, .int .i64 k] fun y => y = .bool true := by
  have hLg := looks_log
  have hns := bs_length s
  have hcl := chg_length false L
  have hF := Few_ok L (by omega)
  have ntt : ¬ (true ≠ true) := by simp
  have nff : ¬ (false ≠ false) := by simp
  refine AOKn.by_steps mixed fc_joistlaw05_WalCounts_ok (by simp [fc_joistlaw05_WalCounts]) ?_
  repeat' (first
    | ((with_reducible refine Side.intro ?_) <;> (first
    | exact rfl
    ))
    | ((conv => whnf) <;> (first
    | (with_reducible refine and_side ?_ ?_)
    ))
    )
  all_goals (conv => whnf)
  all_goals (try dsimp only)
  refine call_one small_ok .nil rfl fun σ1 hg1 => ?_
  have b1 : σ1[0]? = some { sz := 3, els := [logR g], gen := 0, wr := true, pure := true } := hg1.2 0 _ get_new (by simp)
  skip
  all_goals (conv => whnf)
  all_goals (try dsimp only)
  by_cases hf : (∀ p, p ∈ L → p.2.length ≤ 1024) ∧ L.length ≤ 300
  · rw [decide_eq_true hf] at hF
    refine call_one hF (.cons (looks_chg _ _ _) .nil) rfl fun σ2 hg2 => ?_
    have b2 := hg2.2 _ _ b1 (by simp)
    have eL : ((bs s).length : Int) / 64 = ((s.length / 64 : Nat) : Int) := by omega
    by_cases h1 : 4096 < (s.length : Int) ∨ s.length % 64 ≠ 0
    · repeat' (first
        | ((with_reducible refine Side.intro ?_) <;> (first
        | omega
        | (simp only [List.append_nil, List.nil_append, List.map_nil]; first | exact List.nodup_nil | exact nodup_bid1 _ | exact nodup_bid2 (by assumption))
        | ((first | refine fresh_tup ?_ | skip); (repeat (first |  exact FreshA.sl _ _ FreshA_bs | exact FreshA.sl _ _ FreshA_is | exact FreshA.nils | exact FreshA.nilp | exact FreshA.int _ _ | exact FreshA.bool _ | exact FreshA.str _ | exact fresh_nil | refine fresh_cons ?_ ?_ | with_reducible refine fresh_aggR ?_ | with_reducible refine fresh_agg ?_ | with_reducible exact fresh_nilA | with_reducible refine fresh_consA ?_ ?_)); done)
        ))
        | ((conv => whnf) <;> (first
        | (with_reducible refine and_same ?_)
        | (with_reducible refine and_side ?_ ?_)
        | ((with_reducible apply Br.yes) ; (focus omega))
        | (with_reducible refine Br.mk (fun _ => ?_) (fun _ => ?_))
        | (with_reducible refine NOut.lit ?_)
        | (with_reducible refine lenR_sl ?_)
        ))
        )
      all_goals (conv => whnf)
      all_goals (try dsimp only)
      all_goals exact ret_bool rfl
    repeat' (first
      | ((with_reducible refine Side.intro ?_) <;> (first
      | omega
      | exact Nat.le_of_ble_eq_true rfl
      ))
      | ((conv => whnf) <;> (first
      | (with_reducible refine and_same ?_)
      | (with_reducible refine and_side ?_ ?_)
      | ((with_reducible apply Br.yes) ; (focus omega))
      | ((with_reducible apply Br.no) ; (focus omega))
      | ((with_reducible apply blkAt_step) ; (focus (first
      | ((repeat (first
      | assumption
      )); done)
      )) ; (focus (first | rfl | assumption | omega)) ; (focus (first | rfl | assumption)) ; (try dsimp only))
      | (with_reducible refine lenR_sl ?_)
      ))
      )
    all_goals (conv => whnf)
    all_goals (try dsimp only)
    rw [eL]
    have hR := rRight_ok g ((s.length / 64 : Nat) : Int) (by omega)
    by_cases h3 : rightG g ((s.length / 64 : Nat) : Int)
    · rw [decide_eq_true h3] at hR
      refine call_one hR (.cons (hLg _ g) (.cons (Looks.int _ _ _) .nil)) rfl fun σ4 hg4 => ?_
      have b4 := hg4.2 _ _ b2 (by simp)
      have hRL := lines_Right_ok ((s.length / 64 : Nat) : Int) L (by omega)
      skip
      all_goals (conv => whnf)
      all_goals (try dsimp only)
      by_cases h4 : rightB ((s.length / 64 : Nat) : Int) L = true
      · rw [h4] at hRL
        refine call_one hRL (.cons (Looks.int _ _ _) (.cons (looks_chg _ _ _) .nil)) rfl fun σ5 hg5 => ?_
        have b5 := hg5.2 _ _ b4 (by simp)
        by_cases h5 : L = []
        · have h5' : (L.length : Int) = 0 := by rw [h5]; rfl
          repeat' (first
            | ((with_reducible refine Side.intro ?_) <;> (first
            | (simp only [List.append_nil, List.nil_append, List.map_nil]; first | exact List.nodup_nil | exact nodup_bid1 _ | exact nodup_bid2 (by assumption))
            | ((first | refine fresh_tup ?_ | skip); (repeat (first |  exact FreshA.sl _ _ FreshA_bs | exact FreshA.sl _ _ FreshA_is | exact FreshA.nils | exact FreshA.nilp | exact FreshA.int _ _ | exact FreshA.bool _ | exact FreshA.str _ | exact fresh_nil | refine fresh_cons ?_ ?_ | with_reducible refine fresh_aggR ?_ | with_reducible refine fresh_agg ?_ | with_reducible exact fresh_nilA | with_reducible refine fresh_consA ?_ ?_)); done)
            ))
            | ((conv => whnf) <;> (first
            | (with_reducible refine and_same ?_)
            | (with_reducible refine and_side ?_ ?_)
            | ((with_reducible apply Br.yes) ; (focus omega))
            | (with_reducible refine NOut.lit ?_)
            | (with_reducible refine lenR_sl ?_)
            ))
            )
          all_goals (conv => whnf)
          all_goals (try dsimp only)
          exact ret_bool rfl
        · have h5' : (L.length : Int) ≠ 0 := fun q => h5 (List.length_eq_zero_iff.1 (by omega))
          have hgr := h3
          unfold rightG at hgr
          repeat' (first
            | ((with_reducible refine Side.intro ?_) <;> (first
            | exact Nat.le_of_ble_eq_true rfl
            ))
            | ((conv => whnf) <;> (first
            | (with_reducible refine and_same ?_)
            | (with_reducible refine and_side ?_ ?_)
            | ((with_reducible apply Br.no) ; (focus omega))
            | ((with_reducible apply blkAt_step) ; (focus (first
            | ((repeat (first
            | assumption
            )); done)
            )) ; (focus (first | rfl | assumption | omega)) ; (focus (first | rfl | assumption)) ; (try dsimp only))
            | (with_reducible refine lenR_sl ?_)
            ))
            )
          all_goals (conv => whnf)
          all_goals (try dsimp only)
          refine call_ss1 (wWrite_ok g L hL hI) (.cons (hLg _ g) (.cons (looks_chg _ _ _) .nil)) rfl fun σ6 x y hg6 hx hy hnx hny hd => ?_
          have b6 := hg6.2 _ _ b5 (by simp)
          have hG : newG s.length := ⟨by omega, by omega, by omega⟩
          skip
          all_goals (conv => whnf)
          all_goals (try dsimp only)
          refine New_ok (s := s) (.sl false rfl) (by omega) _ ?_ (fun q => absurd hG q)
          intro _ a σ7 hg7 hD7 hn7
          have b7 := hg7.2 _ _ b6 (by simp)
          have box7 := hD7.box
          dsimp only at box7
          by_cases hE : wrE g L = 0
          · repeat' (first
              | ((conv => whnf) <;> (first
              | (with_reducible refine and_same ?_)
              | ((with_reducible apply Br.no) ; (focus omega))
              | ((with_reducible apply blkAt_step) ; (focus (first
              | ((repeat (first
              | assumption
              )); done)
              )) ; (focus (first | rfl | assumption | omega)) ; (focus (first | rfl | assumption)) ; (try dsimp only))
              ))
              )
            all_goals (conv => whnf)
            all_goals (try dsimp only)
            refine Arm_ok hD7 k _ fun σ8 hD8 hg8 => ?_
            have hD8' : DevH σ8 a (newD s k) := hD8
            have b8 := hg8.2 _ _ b7 fun w => by
              have := hn7 _ w
              have := (List.getElem?_eq_some_iff.1 b6).1
              omega
            have hcl8 := newD_cl hG (k := k) hk.1
            repeat' (first
              | ((with_reducible refine Side.intro ?_) <;> (first
              | exact Nat.le_of_ble_eq_true rfl
              ))
              | ((conv => whnf) <;> (first
              | (with_reducible refine and_side ?_ ?_)
              | ((with_reducible apply blkAt_step) ; (focus (first
              | ((repeat (first
              | assumption
              )); done)
              )) ; (focus (first | rfl | assumption | omega)) ; (focus (first | rfl | assumption)) ; (try dsimp only))
              ))
              )
            all_goals (conv => whnf)
            all_goals (try dsimp only)
            refine Commit_ok hD8' hcl8.ok g L (.sl false false rfl) hL hI _ fun σ9 hD9 hR9 hg9 => ?_
            have ho := commit_out (g := g) (L := L) hcl8 (by omega) h3 h4 hE h5 (P := fun _ _ => True) trivial trivial trivial trivial (fun _ _ => trivial) trivial trivial
            have ha : (newD s k).armed = max k 0 := rfl
            rw [ha] at ho
            rcases ho with ⟨q1, q2, ⟨q3, _⟩, _⟩ | ⟨q1, q2, _, _, q3, _⟩
            · have hdn := q3.up
              rw [q2]
              repeat' (first
                | ((conv => whnf) <;> (first
                | (with_reducible refine and_same ?_)
                | (with_reducible refine Br.yes rfl ?_)
                | ((with_reducible apply Br.yes) ; (focus omega))
                | ((with_reducible apply Br.no) ; (focus omega))
                | (with_reducible refine Br.mk (fun _ => ?_) (fun _ => ?_))
                | (with_reducible refine lenR_sl ?_)
                ))
                )
              all_goals (conv => whnf)
              all_goals (try dsimp only)
              all_goals
                refine Down_ok hD9 _ ?_
                rw [hdn]
                repeat' (first
                  | ((with_reducible refine Side.intro ?_) <;> (first
                  | (simp only [List.append_nil, List.nil_append, List.map_nil]; first | exact List.nodup_nil | exact nodup_bid1 _ | exact nodup_bid2 (by assumption))
                  | ((first | refine fresh_tup ?_ | skip); (repeat (first |  exact FreshA.sl _ _ FreshA_bs | exact FreshA.sl _ _ FreshA_is | exact FreshA.nils | exact FreshA.nilp | exact FreshA.int _ _ | exact FreshA.bool _ | exact FreshA.str _ | exact fresh_nil | refine fresh_cons ?_ ?_ | with_reducible refine fresh_aggR ?_ | with_reducible refine fresh_agg ?_ | with_reducible exact fresh_nilA | with_reducible refine fresh_consA ?_ ?_)); done)
                  ))
                  | ((conv => whnf) <;> (first
                  | (with_reducible refine and_same ?_)
                  | (with_reducible refine and_side ?_ ?_)
                  | (with_reducible refine Br.yes rfl ?_)
                  | (with_reducible refine NOut.lit ?_)
                  ))
                  )
                all_goals (conv => whnf)
                all_goals (try dsimp only)
                all_goals exact ret_bool rfl
            · have hdn := q3.dn
              rw [q2]
              repeat' (first
                | ((conv => whnf) <;> (first
                | (with_reducible refine and_same ?_)
                | (with_reducible refine Br.yes rfl ?_)
                | ((with_reducible apply Br.yes) ; (focus omega))
                | (with_reducible refine lenR_sl ?_)
                ))
                )
              all_goals (conv => whnf)
              all_goals (try dsimp only)
              all_goals
                refine Down_ok hD9 _ ?_
                rw [hdn]
                repeat' (first
                  | ((with_reducible refine Side.intro ?_) <;> (first
                  | (simp only [List.append_nil, List.nil_append, List.map_nil]; first | exact List.nodup_nil | exact nodup_bid1 _ | exact nodup_bid2 (by assumption))
                  | ((first | refine fresh_tup ?_ | skip); (repeat (first |  exact FreshA.sl _ _ FreshA_bs | exact FreshA.sl _ _ FreshA_is | exact FreshA.nils | exact FreshA.nilp | exact FreshA.int _ _ | exact FreshA.bool _ | exact FreshA.str _ | exact fresh_nil | refine fresh_cons ?_ ?_ | with_reducible refine fresh_aggR ?_ | with_reducible refine fresh_agg ?_ | with_reducible exact fresh_nilA | with_reducible refine fresh_consA ?_ ?_)); done)
                  ))
                  | ((conv => whnf) <;> (first
                  | (with_reducible refine and_side ?_ ?_)
                  | (with_reducible refine Br.yes rfl ?_)
                  | (with_reducible refine NOut.lit ?_)
                  ))
                  )
                all_goals (conv => whnf)
                all_goals (try dsimp only)
                all_goals exact ret_bool rfl
          · repeat' (first
              | ((with_reducible refine Side.intro ?_) <;> (first
              | (simp only [List.append_nil, List.nil_append, List.map_nil]; first | exact List.nodup_nil | exact nodup_bid1 _ | exact nodup_bid2 (by assumption))
              | ((first | refine fresh_tup ?_ | skip); (repeat (first |  exact FreshA.sl _ _ FreshA_bs | exact FreshA.sl _ _ FreshA_is | exact FreshA.nils | exact FreshA.nilp | exact FreshA.int _ _ | exact FreshA.bool _ | exact FreshA.str _ | exact fresh_nil | refine fresh_cons ?_ ?_ | with_reducible refine fresh_aggR ?_ | with_reducible refine fresh_agg ?_ | with_reducible exact fresh_nilA | with_reducible refine fresh_consA ?_ ?_)); done)
              ))
              | ((conv => whnf) <;> (first
              | (with_reducible refine and_same ?_)
              | (with_reducible refine and_side ?_ ?_)
              | (with_reducible refine Br.yes rfl ?_)
              | ((with_reducible apply Br.yes) ; (focus omega))
              | ((with_reducible apply Br.no) ; (focus omega))
              | ((with_reducible apply blkAt_step) ; (focus (first
              | ((repeat (first
              | assumption
              )); done)
              )) ; (focus (first | rfl | assumption | omega)) ; (focus (first | rfl | assumption)) ; (try dsimp only))
              | (with_reducible refine NOut.lit ?_)
              ))
              )
            all_goals (conv => whnf)
            all_goals (try dsimp only)
            exact ret_bool rfl
      · rw [Bool.not_eq_true] at h4
        rw [h4] at hRL
        refine call_one hRL (.cons (Looks.int _ _ _) (.cons (looks_chg _ _ _) .nil)) rfl fun σ5 hg5 => ?_
        repeat' (first
          | ((with_reducible refine Side.intro ?_) <;> (first
          | (simp only [List.append_nil, List.nil_append, List.map_nil]; first | exact List.nodup_nil | exact nodup_bid1 _ | exact nodup_bid2 (by assumption))
          | ((first | refine fresh_tup ?_ | skip); (repeat (first |  exact FreshA.sl _ _ FreshA_bs | exact FreshA.sl _ _ FreshA_is | exact FreshA.nils | exact FreshA.nilp | exact FreshA.int _ _ | exact FreshA.bool _ | exact FreshA.str _ | exact fresh_nil | refine fresh_cons ?_ ?_ | with_reducible refine fresh_aggR ?_ | with_reducible refine fresh_agg ?_ | with_reducible exact fresh_nilA | with_reducible refine fresh_consA ?_ ?_)); done)
          ))
          | ((conv => whnf) <;> (first
          | (with_reducible refine and_side ?_ ?_)
          | (with_reducible refine NOut.lit ?_)
          ))
          )
        all_goals (conv => whnf)
        all_goals (try dsimp only)
        exact ret_bool rfl
    · rw [decide_eq_false h3] at hR
      refine call_one hR (.cons (hLg _ g) (.cons (Looks.int _ _ _) .nil)) rfl fun σ4 hg4 => ?_
      repeat' (first
        | ((with_reducible refine Side.intro ?_) <;> (first
        | (simp only [List.append_nil, List.nil_append, List.map_nil]; first | exact List.nodup_nil | exact nodup_bid1 _ | exact nodup_bid2 (by assumption))
        | ((first | refine fresh_tup ?_ | skip); (repeat (first |  exact FreshA.sl _ _ FreshA_bs | exact FreshA.sl _ _ FreshA_is | exact FreshA.nils | exact FreshA.nilp | exact FreshA.int _ _ | exact FreshA.bool _ | exact FreshA.str _ | exact fresh_nil | refine fresh_cons ?_ ?_ | with_reducible refine fresh_aggR ?_ | with_reducible refine fresh_agg ?_ | with_reducible exact fresh_nilA | with_reducible refine fresh_consA ?_ ?_)); done)
        ))
        | ((conv => whnf) <;> (first
        | (with_reducible refine and_side ?_ ?_)
        | (with_reducible refine NOut.lit ?_)
        ))
        )
      all_goals (conv => whnf)
      all_goals (try dsimp only)
      exact ret_bool rfl
  · rw [decide_eq_false hf] at hF
    refine call_one hF (.cons (looks_chg _ _ _) .nil) rfl fun σ2 hg2 => ?_
    repeat' (first
      | ((with_reducible refine Side.intro ?_) <;> (first
      | omega
      | (simp only [List.append_nil, List.nil_append, List.map_nil]; first | exact List.nodup_nil | exact nodup_bid1 _ | exact nodup_bid2 (by assumption))
      | ((first | refine fresh_tup ?_ | skip); (repeat (first |  exact FreshA.sl _ _ FreshA_bs | exact FreshA.sl _ _ FreshA_is | exact FreshA.nils | exact FreshA.nilp | exact FreshA.int _ _ | exact FreshA.bool _ | exact FreshA.str _ | exact fresh_nil | refine fresh_cons ?_ ?_ | with_reducible refine fresh_aggR ?_ | with_reducible refine fresh_agg ?_ | with_reducible exact fresh_nilA | with_reducible refine fresh_consA ?_ ?_)); done)
      ))
      | ((conv => whnf) <;> (first
      | (with_reducible refine and_same ?_)
      | (with_reducible refine and_side ?_ ?_)
      | ((with_reducible apply Br.yes) ; (focus omega))
      | (with_reducible refine NOut.lit ?_)
      | (with_reducible refine lenR_sl ?_)
      ))
      )
    all_goals (conv => whnf)
    all_goals (try dsimp only)
    exact ret_bool rfl
end Go.Proofs.Ytppccaacbpkgiaa

namespace Go.Proofs.Ytppccaacbpkgiaa
open Go Go.Proofs.Ytppccaacbpkgiaa.V
theorem readsLog {B : BulkF} (hB : Bulky B) : ReadsA Try.prog B 23 (fun g : LogV => .agg (logR g)) (fun _ => 1) (fun g => inI g.Mark ∧ inI g.First ∧ inI g.Room) := by
  have h := Reads.struct3 (n1 := 1) (n2 := 1) (n3 := 1) hB Try.underlying23 (by kernel_rfl) (.i64 hB (by kernel_rfl)) (.i64 hB (by kernel_rfl)) (.i64 hB (by kernel_rfl)) rfl (by kernel_rfl) rfl (by kernel_rfl) rfl (by kernel_rfl)
  have h2 := Reads.iso h (fun x => (⟨x.1, x.2.1, x.2.2.1⟩ : LogV)) (enc' := logR) (μ' := fun _ => 1) (ok' := fun g => inI g.Mark ∧ inI g.First ∧ inI g.Room) (fun _ => rfl) (fun _ _ => by omega) (fun _ ho => ⟨ho.1, ho.2.1, ho.2.2.1⟩)
  exact ReadsA.struct Try.underlying23 h2
theorem readsChange5 {B : BulkF} (hB : Bulky B) : Reads Try.prog B 66 (fun p : Int × List UInt8 => [.int .i64 p.1, .sl 1 (bs p.2) false]) (fun p => p.2.length + 1) (fun p => inI p.1) := by
  have h := Reads.struct2 (n1 := 1) (n2 := 1) hB Try.underlying66 (by kernel_rfl) (.i64 hB (by kernel_rfl)) (.bytes (e := 5) hB (by kernel_rfl) (by kernel_rfl) (by kernel_rfl)) rfl (by kernel_rfl) rfl (by kernel_rfl)
  exact h.iso (fun p => (p.1, p.2.1)) (fun _ => rfl) (fun p _ => by dsimp only; omega) (fun _ q => q.1)
theorem readsChanges5 {B : BulkF} (hB : Bulky B) : ReadsA Try.prog B 24 (fun L : List (Int × List UInt8) => .sl 2 (chg false L) false) (fun L => (L.map fun p => p.2.length + 1).sum) (fun L => ∀ p, p ∈ L → inI p.1) := by
  refine .slice Try.underlying24 ?_
  exact Reads.iso (Reads.slice hB (sz := 2) Try.underlying24 (by kernel_rfl) (readsChange5 hB) (fun _ => rfl)) id (fun _ => rfl) (fun l _ => Nat.le_succ _) (fun _ q => q)
theorem chg_bd {l : List (Int × List UInt8)} {n : Nat} (h : (l.map fun p => p.2.length + 1).sum ≤ n) : l.length ≤ n ∧ ∀ p, p ∈ l → p.2.length ≤ n := by
  induction l generalizing n with
  | nil => simp
  | cons d D ih =>
    simp only [List.map_cons, List.sum_cons] at h
    obtain ⟨h1, h2⟩ := ih (n := n - (d.2.length + 1)) (by omega)
    refine ⟨by simp only [List.length_cons]; omega, fun e he => ?_⟩
    rcases List.mem_cons.1 he with rfl | he
    · omega
    · have := h2 e he; omega
theorem chg_in {l : List (Int × List UInt8)} (h : ∀ p, p ∈ l → inI p.1) : ∀ p, p ∈ l → inI2 p.1 := fun p hp => by
  have := h p hp
  exact ⟨this.2, this.1⟩
end Go.Proofs.Ytppccaacbpkgiaa

