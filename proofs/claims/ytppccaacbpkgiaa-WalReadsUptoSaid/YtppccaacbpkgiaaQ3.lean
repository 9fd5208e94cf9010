import Derived.Test.YtppccaacbpkgiaaQ2
import Derived.Test.YtppccaacbpkgiaaQ1
import Derived.Test.YtppccaacbpkgiaaVJ
namespace Go.Proofs.Ytppccaacbpkgiaa
open Go Go.Proofs.Ytppccaacbpkgiaa.V
set_option maxRecDepth 20000
attribute [local irreducible] CallS AOK AOKn ALoop Side Ref.ok
def one64 : List UInt8 := List.replicate 64 1
theorem ones_ok : AOKn Try.prog F.joistlaw05_ones [] fun y => y = .sl 1 (bs one64) true := by
  refine AOKn.by_steps mixed fc_joistlaw05_ones_ok (by simp [fc_joistlaw05_ones]) ?_
  repeat' (first
    | ((with_reducible refine Side.intro ?_) <;> (first
    | omega
    ))
    | ((conv => whnf) <;> (first
    | (with_reducible refine and_side ?_ ?_)
    ))
    )
  all_goals (conv => whnf)
  all_goals (try dsimp only)
  refine loop_at (α := Nat × AH) (fun k => [(2, .int .i64 k.1)]) (fun k => k.2) (fun k => k.1 ≤ 64 ∧ k.2[0]? = some { sz := 1, els := bs (List.replicate k.1 1 ++ List.replicate (64 - k.1) 0), gen := 0, wr := true, pure := true }) (fun k => 64 - k.1) (0, _) ⟨by decide, get_new⟩ rfl rfl ?_
  rintro ⟨k, τ⟩ ⟨hk, hb⟩
  dsimp only at hk hb ⊢
  have hl : (bs (List.replicate k 1 ++ List.replicate (64 - k) 0)).length = 64 := by rw [bs_length]; simp; omega
  by_cases hlt : k < 64
  · have hgt : (List.replicate k (1 : UInt8) ++ List.replicate (64 - k) 0)[((k : Nat) : Int).toNat]? = some 0 := by
      rw [Int.toNat_natCast, List.getElem?_append_right (by simp), List.getElem?_replicate, if_pos (by simp; omega)]
    have e1 : (bs (List.replicate k (1 : UInt8) ++ List.replicate (64 - k) 0)).set (0 + ((k : Nat) : Int).toNat) [.int .u8 1] = bs (List.replicate (k + 1) 1 ++ List.replicate (64 - (k + 1)) 0) := by
      obtain ⟨m, hm⟩ : ∃ m, 64 - k = m + 1 := ⟨64 - k - 1, by omega⟩
      have := bs_set (List.replicate k (1 : UInt8) ++ List.replicate (64 - k) 0) k 1
      rw [Nat.zero_add, Int.toNat_natCast]
      refine this.trans ?_
      rw [hm, show 64 - (k + 1) = m by omega, List.set_append_right _ _ (by simp), List.replicate_succ (n := m), List.replicate_succ' (n := k)]
      simp
    repeat' (first
      | ((with_reducible refine Side.intro ?_) <;> (first
      | omega
      | exact Nat.le_of_ble_eq_true rfl
      | exact rfl
      ))
      | ((conv => whnf) <;> (first
      | (with_reducible refine and_same ?_)
      | (with_reducible refine and_side ?_ ?_)
      | ((with_reducible apply Br.yes) ; (focus omega))
      | ((with_reducible apply blkAt_step) ; (focus (first
      | ((repeat (first
      | assumption
      )); done)
      )) ; (focus (first | rfl | assumption | omega)) ; (focus (first | rfl | assumption)) ; (try dsimp only))
      | ((with_reducible apply nthR_bs1) ; (focus assumption))
      | (with_reducible refine IaW.of ?_)
      | (with_reducible refine nthR_z ?_)
      | (with_reducible refine lenR_rsl ?_)
      ))
      )
    all_goals (conv => whnf)
    all_goals (try dsimp only)
    rw [e1]
    exact ⟨(k + 1, _), rfl, rfl, ⟨hlt, get_set hb⟩, by dsimp only; omega⟩
  · have ek : k = 64 := by omega
    subst ek
    have hb64 : (bs one64).length = 64 := by rw [bs_length]; decide
    have ho : Own τ 1 (.rsl 0 0 0 64 none) (bs one64) := Own.mk' (sp := []) hb (by simp [bs_length, one64]) (by simp [one64])
    repeat' (first
      | ((with_reducible refine Side.intro ?_) <;> (first
      | ((first | refine fresh_tup ?_ | skip); (repeat (first |  exact FreshA.sl _ _ FreshA_bs | exact FreshA.sl _ _ FreshA_is | exact FreshA.nils | exact FreshA.nilp | exact FreshA.int _ _ | exact FreshA.bool _ | exact FreshA.str _ | exact fresh_nil | refine fresh_cons ?_ ?_ | with_reducible refine fresh_aggR ?_ | with_reducible refine fresh_agg ?_ | with_reducible exact fresh_nilA | with_reducible refine fresh_consA ?_ ?_)); done)
      ))
      | ((conv => whnf) <;> (first
      | (with_reducible refine and_same ?_)
      | (with_reducible refine and_side ?_ ?_)
      | ((with_reducible apply Br.no) ; (focus omega))
      | ((with_reducible apply lenR_own) ; (focus assumption))
      | ((with_reducible apply NOut.own) ; (focus assumption))
      ))
      )
    all_goals (conv => whnf)
    all_goals (try dsimp only)
    · exact ret_same rfl
    · exact Side.intro (nodup_bid1 _)
theorem markB_length (n : Nat) (s : List UInt8) : (markB n s).length = 64 := by
  unfold markB
  split
  · simp
  · exact lineB_length (by simp)
/-! ### The small case -/
def sg : LogV := ⟨1, 2, 2⟩
def z512 : List UInt8 := List.replicate 512 0
def sdv : Dv := ⟨z512, z512, [], 0, 0, false⟩
def sL1 : List (Int × List UInt8) := [(7, one64)]
def sL3 : List (Int × List UInt8) := [(0, one64), (6, one64), (7, one64)]
def sL2 : List (Int × List UInt8) := [(1, one64)]
theorem sdv_ok : DvR sdv := DvR.new (s := z512) (by decide)
theorem small1 : ∃ d Z, commitD sg sL1 sdv = (0, d) ∧ Cl d Z Z ∧ Z.length = 512 ∧ Z[511]? = some 1 ∧ Z[64]? = some 0 := by
  have hr : rightB 8 sL1 = true := by decide +kernel
  have hw : wrE sg sL1 = 0 := by decide +kernel
  have e : commitD sg sL1 sdv = comD sg sL1 sdv := by
    have hl : linesD sdv = 8 := by decide
    unfold commitD
    rw [hl, hw, if_neg, if_neg]
    · rintro (q | q)
      · exact q rfl
      · cases q
    · rintro (q | q)
      · exact q (by decide)
      · rw [hr] at q; cases q
  have hrl := recsB_lenR hr
  have hcl : Cl sdv z512 z512 := ⟨sdv_ok, rfl, rfl, (fun j v h => by cases h), rfl⟩
  have hz : z512.length = 512 := by decide
  have h1 : one64.length = 64 := by decide
  have hcL : ∀ c, c ∈ sL1 → 0 ≤ c.1 ∧ c.1 * 64 + c.2.length ≤ z512.length := by
    intro c hc
    rw [sL1, List.mem_singleton] at hc
    subst hc
    rw [hz]
    dsimp only
    omega
  have hP1 : PutOk z512 sg.First (recsB sL1) := by
    unfold PutOk
    rw [hrl, hz]
    decide
  have ho := com_outC (g := sg) (L := sL1) hcl hcL (by rw [hz]; decide) hP1 (markB_length _ _) (P := fun _ _ => True) trivial trivial trivial trivial (fun _ _ => trivial) trivial trivial
  have l1 : (c1S sg sL1 z512).length = 512 := (sto_len hP1).trans hz
  have hP2 : PutOk (c1S sg sL1 z512) sg.Mark (markB sL1.length (recsB sL1)) := by
    unfold PutOk
    rw [l1, markB_length]
    decide
  have l2 : (c2S sg sL1 z512).length = 512 := (sto_len hP2).trans l1
  have l3 : (lays (c2S sg sL1 z512) sL1).length = 512 := lays_len l2 (by rw [hz] at hcL; exact hcL)
  have hP4 : PutOk (lays (c2S sg sL1 z512) sL1) sg.Mark zer64 := by
    unfold PutOk
    rw [l3]
    decide
  rw [e]
  rcases ho with ⟨_, h0, ⟨hg, _⟩, _⟩ | ⟨h, _⟩
  · refine ⟨(comD sg sL1 sdv).2, _, by rw [← h0], hg, (sto_len hP4).trans l3, ?_, ?_⟩
    · unfold finS sto
      rw [store_at (by rw [l3]; decide), if_neg (by decide)]
      show (sto (c2S sg sL1 z512) 7 one64)[511]? = some 1
      unfold sto
      rw [store_at (by rw [l2]; decide), if_pos (by decide)]
      decide
    · unfold finS sto
      rw [store_at (by rw [l3]; decide), if_pos (by decide)]
      decide
  · exact absurd h.1 (by decide)
theorem small2 {d : Dv} (h : d.S.length = 512) : commitD sg sL3 d = (6, d) := by
  have hl : linesD d = 8 := by unfold linesD; rw [h]; rfl
  have hw : wrE sg sL3 = 6 := by decide +kernel
  unfold commitD
  rw [hl, hw, if_neg, if_pos]
  · left; decide
  · rintro (q | q)
    · exact q (by decide)
    · rw [show rightB 8 sL3 = true by decide +kernel] at q; cases q
theorem small3 {d : Dv} (h : d.S.length = 512) : commitD sg sL2 d = (1, d) := by
  have hl : linesD d = 8 := by unfold linesD; rw [h]; rfl
  have hw : wrE sg sL2 = 1 := by decide +kernel
  unfold commitD
  rw [hl, hw, if_neg, if_pos]
  · left; decide
  · rintro (q | q)
    · exact q (by decide)
    · rw [show rightB 8 sL2 = true by decide +kernel] at q; cases q
theorem bid_ne5 {σ : AH} {sz : Nat} {x : AV} {rows : List (List AV)} (hx : Own σ sz x rows) {id : Nat} (h : σ.length ≤ id) : x.bid ≠ some id := fun e => by
  have := hx.lt e
  omega
theorem chg1 {σ : AH} {X : Nat → Prop} {y : AV} {b : List UInt8} {n : Int} {id : Nat} {p : Bool} (hy : Own σ 1 y (bs b)) (hb : σ[id]? = some { sz := 2, els := [[.int .i64 n, y]], gen := 0, wr := true, pure := p }) (hne : y.bid ≠ some id) (h1 : ¬ X id) (h2 : ∀ i, X i → y.bid ≠ some i) : ChgR σ X (.rsl id 0 0 1 none) [(n, b)] := by
  refine .nest [y] (.inr ⟨id, 0, p, rfl, hb, ?_⟩) ?_ (fun i w e => ?_) (fun z hz i w => ?_)
  · intro r hr z hz
    have : crow [n] [y] = [[.int .i64 n, y]] := rfl
    simp only [List.map_cons, List.map_nil] at hr
    rw [this, List.mem_singleton] at hr
    subst hr
    simp only [List.mem_cons, List.not_mem_nil, or_false] at hz
    rcases hz with rfl | rfl
    · intro e; cases e
    · exact hne
  · exact Sep.snoc (xs := []) (D := []) (Sep.nil _) hy fun z hz => by simp at hz
  · cases e; exact h1 w
  · rw [List.mem_singleton] at hz
    subst hz
    exact h2 i w
theorem chg3 {σ : AH} {X : Nat → Prop} {y1 y2 y3 : AV} {b1 b2 b3 : List UInt8} {n1 n2 n3 : Int} {id : Nat} {p : Bool} (o1 : Own σ 1 y1 (bs b1)) (o2 : Own σ 1 y2 (bs b2)) (o3 : Own σ 1 y3 (bs b3)) (hb : σ[id]? = some { sz := 2, els := [[.int .i64 n1, y1], [.int .i64 n2, y2], [.int .i64 n3, y3]], gen := 0, wr := true, pure := p })
    (e1 : y1.bid ≠ some id) (e2 : y2.bid ≠ some id) (e3 : y3.bid ≠ some id) (d12 : y1.bid = none ∨ y1.bid ≠ y2.bid) (d13 : y1.bid = none ∨ y1.bid ≠ y3.bid) (d23 : y2.bid = none ∨ y2.bid ≠ y3.bid) (h1 : ¬ X id) (x1 : ∀ i, X i → y1.bid ≠ some i) (x2 : ∀ i, X i → y2.bid ≠ some i) (x3 : ∀ i, X i → y3.bid ≠ some i) :
    ChgR σ X (.rsl id 0 0 3 none) [(n1, b1), (n2, b2), (n3, b3)] := by
  refine .nest [y1, y2, y3] (.inr ⟨id, 0, p, rfl, hb, ?_⟩) ?_ (fun i w e => ?_) (fun z hz i w => ?_)
  · intro r hr z hz
    have : crow [n1, n2, n3] [y1, y2, y3] = [[.int .i64 n1, y1], [.int .i64 n2, y2], [.int .i64 n3, y3]] := rfl
    simp only [List.map_cons, List.map_nil] at hr
    rw [this] at hr
    simp only [List.mem_cons, List.not_mem_nil, or_false] at hr
    rcases hr with rfl | rfl | rfl
    · simp only [List.mem_cons, List.not_mem_nil, or_false] at hz
      rcases hz with rfl | rfl
      · intro e; cases e
      · exact e1
    · simp only [List.mem_cons, List.not_mem_nil, or_false] at hz
      rcases hz with rfl | rfl
      · intro e; cases e
      · exact e2
    · simp only [List.mem_cons, List.not_mem_nil, or_false] at hz
      rcases hz with rfl | rfl
      · intro e; cases e
      · exact e3
  · refine Sep.snoc (xs := [y1, y2]) (D := [b1, b2]) (Sep.snoc (xs := [y1]) (D := [b1]) (Sep.snoc (xs := []) (D := []) (Sep.nil _) o1 fun z hz => by simp at hz) o2 fun z hz => ?_) o3 fun z hz => ?_
    · rw [List.mem_singleton] at hz
      subst hz
      exact d12
    · simp only [List.mem_cons, List.not_mem_nil, or_false] at hz
      rcases hz with rfl | rfl
      · exact d13
      · exact d23
  · cases e; exact h1 w
  · simp only [List.mem_cons, List.not_mem_nil, or_false] at hz
    rcases hz with rfl | rfl | rfl
    · exact x1 i w
    · exact x2 i w
    · exact x3 i w
theorem small_ok : AOKn Try.prog F.joistlaw05_small [] fun y => y = .bool true := by
  obtain ⟨d1, Z, hc1, hcl1, hZl, hZ1, hZ2⟩ := small1
  have hLg := looks_log
  have hz : z512.length = 512 := by decide
  refine AOKn.by_steps mixed fc_joistlaw05_small_ok (by simp [fc_joistlaw05_small]) ?_
  repeat' (first
    | ((with_reducible refine Side.intro ?_) <;> (first
    | omega
    | exact Nat.le_of_ble_eq_true rfl
    | exact rfl
    ))
    | ((conv => whnf) <;> (first
    | (with_reducible refine and_same ?_)
    | (with_reducible refine and_side ?_ ?_)
    | ((with_reducible apply blkAt_step) ; (focus (first
    | exact rfl
    )) ; (focus (first | rfl | assumption | omega)) ; (focus (first | rfl | assumption)) ; (try dsimp only))
    ))
    )
  all_goals (conv => whnf)
  all_goals (try dsimp only)
  refine New_ok (s := z512) (.own (Own.mk' (sp := []) get_new (by rw [bs_length, hz]; rfl) (by rw [List.append_nil, z512, ← bs_replicate]; rfl))) (by rw [hz]; decide) _ ?_ (fun q => absurd (by decide) q)
  intro _ a σ1 hg1 hD1 hn1
  have box1 := hD1.box
  dsimp only at box1
  have vb1 : σ1[0]? = some { sz := 3, els := [logR sg], gen := 0, wr := true, pure := true } := hg1.2 0 _ (get_old (get_set get_new)) (by simp)
  have hl0 : 1 < σ1.length := by have := hg1.1; simp [newB] at this; omega
  have ha0 : ∀ id, a.has id → 1 < id := fun id w => by have := hn1 id w; simp [newB] at this; omega
  repeat' (first
    | ((with_reducible refine Side.intro ?_) <;> (first
    | exact Nat.le_of_ble_eq_true rfl
    ))
    | ((conv => whnf) <;> (first
    | (with_reducible refine and_same ?_)
    | (with_reducible refine and_side ?_ ?_)
    | ((with_reducible apply Br.no) ; (focus omega))
    | ((with_reducible apply blkAt_step) ; (focus (first
    | ((repeat (first
    | assumption
    )); done)
    )) ; (focus (first | rfl | assumption | omega)) ; (focus (first | rfl | assumption)) ; (try dsimp only))
    ))
    )
  all_goals (conv => whnf)
  all_goals (try dsimp only)
  refine call_sl ones_ok .nil fun σ2 y hg2 hy hny => ?_
  have hD2 := hD1.keepN hg2
  have vb2 := hg2.2 _ _ vb1 (by simp)
  obtain ⟨c1, c2, c3⟩ := hy.one
  repeat' (first
    | ((with_reducible apply Gr.side) ; with_reducible assumption)
    | ((with_reducible apply Gr.side) ; (repeat (first | exact Gr.refl _ _ | assumption | with_reducible refine Gr.trans ?_ (Gr.boxN _ _ _ _ _) | refine Gr.setNew ?_ (by first | exact Nat.le_refl _ | (simp only [newB_length, List.length_set, List.length_append, List.length_singleton]; omega) | omega) _ | refine Gr.addN ?_ _ | refine Gr.newN ?_ _ _ _ | exact Gr.trans (by assumption) (by assumption) | refine Gr.trans ?_ (by assumption) | refine Gr.trans (by assumption) ?_)) ; (first | done | fail))
    | ((with_reducible refine Side.intro ?_) <;> (first
    | omega
    | exact Nat.le_of_ble_eq_true rfl
    | exact rfl
    ))
    | ((conv => whnf) <;> (first
    | (with_reducible refine and_side ?_ ?_)
    ))
    )
  all_goals (conv => whnf)
  all_goals (try dsimp only)
  rotate_left
  · rw [c1]; exact Side.intro rfl
  rw [c1]
  have hI1 : ∀ p, p ∈ sL1 → inI2 p.1 := by
    intro p hp
    rw [sL1, List.mem_singleton] at hp
    subst hp
    unfold inI2
    decide
  have hI2 : ∀ p, p ∈ sL2 → inI2 p.1 := by
    intro p hp
    rw [sL2, List.mem_singleton] at hp
    subst hp
    unfold inI2
    decide
  have hI3 : ∀ p, p ∈ sL3 → inI2 p.1 := by
    intro p hp
    simp only [sL3, List.mem_cons, List.not_mem_nil, or_false] at hp
    rcases hp with rfl | rfl | rfl
    all_goals
      unfold inI2
      decide
  have na : ∀ (τ : AH) (z : AV), σ1.length ≤ τ.length → New τ z → ∀ i, a.has i → z.bid ≠ some i := fun τ z h1 h2 i w e => by
    have := hD1.lt i w
    have := h2 i e
    omega
  have n2 : ¬ a.has σ2.length := fun w => by have := hD2.lt _ w; omega
  refine Commit_ok (d := sdv) (hD2.keepN (by (repeat (first
        | exact Gr.refl _ _
        | refine Gr.addN ?_ _
        )))) sdv_ok sg sL1 (chg1 (hy.keepN (by (repeat (first
        | exact Gr.refl _ _
        | refine Gr.addN ?_ _
        )))) get_new (bid_ne5 hy (Nat.le_refl _)) n2 (na _ _ (Nat.le_refl _) hny)) (by decide) hI1 _ fun σ3 hD3 hR3 hg3 => ?_
  rw [hc1] at hD3 hR3 ⊢
  dsimp only at hD3 hR3
  have vb3 := hg3.2 _ _ ((show Gr σ2 _ none by (repeat (first
        | exact Gr.refl _ _
        | refine Gr.addN ?_ _
        ))).2 _ _ vb2 (by simp)) fun w => by have := ha0 _ w; omega
  have l3 : σ2.length ≤ σ3.length := Nat.le_trans (by simp [newB]) hg3.1
  have hL3 : d1.L.length = 512 := by rw [hcl1.L]; exact hZl
  have hS3 : d1.S.length = 512 := by rw [hcl1.S]; exact hZl
  skip
  all_goals (conv => whnf)
  all_goals (try dsimp only)
  refine Image_ok hD3 (by omega) _ fun v σ4 hg4 hv hnv => ?_
  rw [hcl1.L] at hv
  have hD4 := hD3.keepN hg4
  have vb4 := hg4.2 _ _ vb3 (by simp)
  repeat' (first
    | ((with_reducible refine Side.intro ?_) <;> (first
    | exact Nat.le_of_ble_eq_true rfl
    ))
    | ((conv => whnf) <;> (first
    | (with_reducible refine and_side ?_ ?_)
    | ((with_reducible apply blkAt_step) ; (focus (first
    | ((repeat (first
    | assumption
    )); done)
    )) ; (focus (first | rfl | assumption | omega)) ; (focus (first | rfl | assumption)) ; (try dsimp only))
    ))
    )
  all_goals (conv => whnf)
  all_goals (try dsimp only)
  refine call_sl ones_ok .nil fun σ5 y1 hg5 hy1 hny1 => ?_
  have vb5 := hg5.2 _ _ vb4 (by simp)
  obtain ⟨c11, c12, c13⟩ := hy1.one
  repeat' (first
    | ((with_reducible apply Gr.side) ; with_reducible assumption)
    | ((with_reducible refine Side.intro ?_) <;> (first
    | omega
    | exact Nat.le_of_ble_eq_true rfl
    | exact rfl
    ))
    | ((conv => whnf) <;> (first
    | (with_reducible refine and_side ?_ ?_)
    ))
    )
  all_goals (conv => whnf)
  all_goals (try dsimp only)
  refine call_sl ones_ok .nil fun σ6 y2 hg6 hy2 hny2 => ?_
  have vb6 := hg6.2 _ _ vb5 (by simp)
  have e12 := disj_new hy1 hny2
  replace hy1 := hy1.keepN hg6
  obtain ⟨c21, c22, c23⟩ := hy2.one
  repeat' (first
    | ((with_reducible apply Gr.side) ; with_reducible assumption)
    | ((with_reducible refine Side.intro ?_) <;> (first
    | omega
    | exact Nat.le_of_ble_eq_true rfl
    | exact rfl
    ))
    | ((conv => whnf) <;> (first
    | (with_reducible refine and_side ?_ ?_)
    ))
    )
  all_goals (conv => whnf)
  all_goals (try dsimp only)
  refine call_sl ones_ok .nil fun σ7 y3 hg7 hy3 hny3 => ?_
  have vb7 := hg7.2 _ _ vb6 (by simp)
  have e13 := disj_new hy1 hny3
  have e23 := disj_new hy2 hny3
  replace hy1 := hy1.keepN hg7
  replace hy2 := hy2.keepN hg7
  obtain ⟨c31, c32, c33⟩ := hy3.one
  have hv7 := ((hv.keepN hg5).keepN hg6).keepN hg7
  have hD7 := ((hD4.keepN hg5).keepN hg6).keepN hg7
  have l4 := hg4.1
  have l5 := hg5.1
  have l6 := hg6.1
  have l7 := hg7.1
  have l2 := hg2.1
  repeat' (first
    | ((with_reducible apply Gr.side) ; with_reducible assumption)
    | ((with_reducible apply Gr.side) ; (repeat (first | exact Gr.refl _ _ | assumption | with_reducible refine Gr.trans ?_ (Gr.boxN _ _ _ _ _) | refine Gr.setNew ?_ (by first | exact Nat.le_refl _ | (simp only [newB_length, List.length_set, List.length_append, List.length_singleton]; omega) | omega) _ | refine Gr.addN ?_ _ | refine Gr.newN ?_ _ _ _ | exact Gr.trans (by assumption) (by assumption) | refine Gr.trans ?_ (by assumption) | refine Gr.trans (by assumption) ?_)) ; (first | done | fail))
    | ((with_reducible refine Side.intro ?_) <;> (first
    | omega
    | exact Nat.le_of_ble_eq_true rfl
    | exact rfl
    ))
    | ((conv => whnf) <;> (first
    | (with_reducible refine and_side ?_ ?_)
    ))
    )
  all_goals (conv => whnf)
  all_goals (try dsimp only)
  rotate_left
  · rw [c31]; exact Side.intro rfl
  · rw [c21]; exact Side.intro rfl
  · rw [c11]; exact Side.intro rfl
  rw [c11, c21, c31]
  have n7 : ¬ a.has σ7.length := fun w => by have := hD7.lt _ w; omega
  refine Commit_ok (hD7.keepN (by (repeat (first
        | exact Gr.refl _ _
        | refine Gr.addN ?_ _
        )))) hR3 sg sL3 (chg3 (hy1.keepN (by (repeat (first
        | exact Gr.refl _ _
        | refine Gr.addN ?_ _
        )))) (hy2.keepN (by (repeat (first
        | exact Gr.refl _ _
        | refine Gr.addN ?_ _
        )))) (hy3.keepN (by (repeat (first
        | exact Gr.refl _ _
        | refine Gr.addN ?_ _
        )))) get_new (bid_ne5 hy1 (Nat.le_refl _)) (bid_ne5 hy2 (Nat.le_refl _)) (bid_ne5 hy3 (Nat.le_refl _)) e12 e13 e23 n7 (na _ _ (by omega) hny1) (na _ _ (by omega) hny2) (na _ _ (by omega) hny3)) (by decide) hI3 _ fun σ8 hD8 hR8 hg8 => ?_
  rw [small2 hS3] at hD8 hR8 ⊢
  dsimp only at hD8 hR8
  have g78 : GrP σ7 σ8 a.has := (GrP.of (by (repeat (first
        | exact Gr.refl _ _
        | refine Gr.addN ?_ _
        ))) _).trans hg8
  have vb8 := g78.2 _ _ vb7 fun w => by have := ha0 _ w; omega
  have hv8 := Own.keepP hv7 g78 fun i w e => by
    have := hnv i e
    have := hD1.lt i w
    omega
  have l8 := g78.1
  clear hg8
  repeat' (first
    | ((with_reducible refine Side.intro ?_) <;> (first
    | exact Nat.le_of_ble_eq_true rfl
    ))
    | ((conv => whnf) <;> (first
    | (with_reducible refine and_side ?_ ?_)
    | ((with_reducible apply blkAt_step) ; (focus (first
    | ((repeat (first
    | assumption
    )); done)
    )) ; (focus (first | rfl | assumption | omega)) ; (focus (first | rfl | assumption)) ; (try dsimp only))
    ))
    )
  all_goals (conv => whnf)
  all_goals (try dsimp only)
  refine call_sl ones_ok .nil fun σ9 y4 hg9 hy4 hny4 => ?_
  have vb9 := hg9.2 _ _ vb8 (by simp)
  obtain ⟨c41, c42, c43⟩ := hy4.one
  have hD9 := hD8.keepN hg9
  have hv9 := hv8.keepN hg9
  repeat' (first
    | ((with_reducible apply Gr.side) ; with_reducible assumption)
    | ((with_reducible apply Gr.side) ; (repeat (first | exact Gr.refl _ _ | assumption | with_reducible refine Gr.trans ?_ (Gr.boxN _ _ _ _ _) | refine Gr.setNew ?_ (by first | exact Nat.le_refl _ | (simp only [newB_length, List.length_set, List.length_append, List.length_singleton]; omega) | omega) _ | refine Gr.addN ?_ _ | refine Gr.newN ?_ _ _ _ | exact Gr.trans (by assumption) (by assumption) | refine Gr.trans ?_ (by assumption) | refine Gr.trans (by assumption) ?_)) ; (first | done | fail))
    | ((with_reducible refine Side.intro ?_) <;> (first
    | omega
    | exact Nat.le_of_ble_eq_true rfl
    | exact rfl
    ))
    | ((conv => whnf) <;> (first
    | (with_reducible refine and_side ?_ ?_)
    ))
    )
  all_goals (conv => whnf)
  all_goals (try dsimp only)
  rotate_left
  · rw [c41]; exact Side.intro rfl
  rw [c41]
  have n9 : ¬ a.has σ9.length := fun w => by have := hD9.lt _ w; omega
  have l9 := hg9.1
  refine Commit_ok (hD9.keepN (by (repeat (first
        | exact Gr.refl _ _
        | refine Gr.addN ?_ _
        )))) hR8 sg sL2 (chg1 (hy4.keepN (by (repeat (first
        | exact Gr.refl _ _
        | refine Gr.addN ?_ _
        )))) get_new (bid_ne5 hy4 (Nat.le_refl _)) n9 (na _ _ (by omega) hny4)) (by decide) hI2 _ fun σ10 hD10 hR10 hg10 => ?_
  rw [small3 hS3] at hD10 hR10 ⊢
  dsimp only at hD10 hR10
  have g9 : GrP σ9 σ10 a.has := (GrP.of (by (repeat (first
        | exact Gr.refl _ _
        | refine Gr.addN ?_ _
        ))) _).trans hg10
  have vb10 := g9.2 _ _ vb9 fun w => by have := ha0 _ w; omega
  have hv10 := Own.keepP hv9 g9 fun i w e => by
    have := hnv i e
    have := hD1.lt i w
    omega
  have hbz := bs_length Z
  have hi1 : Z[Int.toNat 511]? = some 1 := hZ1
  have hi2 : Z[Int.toNat 64]? = some 0 := hZ2
  have r6 := wRight_ok sg 6 (by omega)
  rw [show decide (rightG sg 6) = true by decide] at r6
  have r5 := wRight_ok sg 5 (by omega)
  rw [show decide (rightG sg 5) = false by decide] at r5
  have m5 := wMine_ok sg 5 (by omega)
  rw [show decide (mineG sg 5) = true by decide] at m5
  repeat' (first
    | ((with_reducible refine Side.intro ?_) <;> (first
    | omega
    | exact Nat.le_of_ble_eq_true rfl
    ))
    | ((conv => whnf) <;> (first
    | (with_reducible refine and_same ?_)
    | (with_reducible refine and_side ?_ ?_)
    | (with_reducible refine Br.yes rfl ?_)
    | ((with_reducible apply Br.yes) ; (focus omega))
    | ((with_reducible apply blkAt_step) ; (focus (first
    | ((repeat (first
    | assumption
    )); done)
    )) ; (focus (first | rfl | assumption | omega)) ; (focus (first | rfl | assumption)) ; (try dsimp only))
    | ((with_reducible apply nthR_bs1) ; (focus assumption))
    | ((with_reducible apply lenR_own) ; (focus assumption))
    | ((with_reducible apply ia_own) ; (focus assumption))
    | (with_reducible refine nthR_z ?_)
    | ((with_reducible apply nthR_left) ; (focus (first | omega | (simp only [List.length_append, List.length_cons, List.length_nil, List.length_take, List.length_drop, bs_length]; omega))))
    | (with_reducible intro _)
    ))
    )
  all_goals (conv => whnf)
  all_goals (try dsimp only)
  refine call_one r6 (.cons (hLg _ sg) (.cons (Looks.int _ _ _) .nil)) rfl fun σ11 hg11 => ?_
  have vb11 := hg11.2 _ _ vb10 (by simp)
  repeat' (first
    | ((with_reducible refine Side.intro ?_) <;> (first
    | exact Nat.le_of_ble_eq_true rfl
    ))
    | ((conv => whnf) <;> (first
    | (with_reducible refine and_side ?_ ?_)
    | ((with_reducible apply blkAt_step) ; (focus (first
    | ((repeat (first
    | assumption
    )); done)
    )) ; (focus (first | rfl | assumption | omega)) ; (focus (first | rfl | assumption)) ; (try dsimp only))
    ))
    )
  all_goals (conv => whnf)
  all_goals (try dsimp only)
  refine call_one r5 (.cons (hLg _ sg) (.cons (Looks.int _ _ _) .nil)) rfl fun σ12 hg12 => ?_
  have vb12 := hg12.2 _ _ vb11 (by simp)
  repeat' (first
    | ((with_reducible refine Side.intro ?_) <;> (first
    | exact Nat.le_of_ble_eq_true rfl
    ))
    | ((conv => whnf) <;> (first
    | (with_reducible refine and_side ?_ ?_)
    | ((with_reducible apply blkAt_step) ; (focus (first
    | ((repeat (first
    | assumption
    )); done)
    )) ; (focus (first | rfl | assumption | omega)) ; (focus (first | rfl | assumption)) ; (try dsimp only))
    ))
    )
  all_goals (conv => whnf)
  all_goals (try dsimp only)
  refine call_one m5 (.cons (hLg _ sg) (.cons (Looks.int _ _ _) .nil)) rfl fun σ13 hg13 => ?_
  repeat' (first
    | ((with_reducible refine Side.intro ?_) <;> (first
    | (simp only [List.append_nil, List.nil_append, List.map_nil]; first | exact List.nodup_nil | exact nodup_bid1 _ | exact nodup_bid2 (by assumption))
    | ((first | refine fresh_tup ?_ | skip); (repeat (first |  exact FreshA.sl _ _ FreshA_bs | exact FreshA.sl _ _ FreshA_is | exact FreshA.nils | exact FreshA.nilp | exact FreshA.int _ _ | exact FreshA.bool _ | exact FreshA.str _ | exact fresh_nil | refine fresh_cons ?_ ?_ | with_reducible refine fresh_aggR ?_ | with_reducible refine fresh_agg ?_ | with_reducible exact fresh_nilA | with_reducible refine fresh_consA ?_ ?_)); done)
    ))
    | ((conv => whnf) <;> (first
    | (with_reducible refine and_side ?_ ?_)
    | (with_reducible refine NOut.lit ?_)
    ))
    )
  all_goals (conv => whnf)
  all_goals (try dsimp only)
  exact ret_bool rfl
end Go.Proofs.Ytppccaacbpkgiaa

namespace Go.Proofs.Ytppccaacbpkgiaa
open Go Go.Proofs.Ytppccaacbpkgiaa.V
set_option maxRecDepth 20000
attribute [local irreducible] CallS AOK AOKn ALoop Side Ref.ok
/-- Blocks of changes. -/
def SpX (a : AV) (xs : List AV) (id : Nat) : Prop := a.bid = some id ∨ ∃ y, y ∈ xs ∧ y.bid = some id
theorem Spoil_callP {σ : AH} {a : AV} {L : List Int} {xs : List AV} {D : List (List UInt8)} (hb : L.length ≤ 4611686018427) (hl : xs.length = L.length) (ha : NestR σ 2 a (crow L xs)) (hs : Sep σ xs D) (Q : AV → AH → Prop) (h : ∀ σ', GrP σ σ' (SpX a xs) → Q (.tup []) σ') : CallS Try.prog F.joistlaw04_Spoil [a] σ Q := by
  have hcl := crow_length hl
  refine call_of_body mixed fc_joistlaw04_Spoil_ok (by simp [fc_joistlaw04_Spoil]) ?_
  rcases ha with ⟨rfl, _⟩ | ⟨ia, ga, p, rfl, hbk, hne⟩
  · skip
    all_goals (conv => whnf)
    all_goals (try dsimp only)
    refine loop_at (α := Unit) (fun a => [(2, .int .i64 0)]) (fun a => σ) (fun a => True) (fun a => 0) () trivial rfl rfl ?_
    rintro ⟨⟩ _
    repeat' (first
      | ((conv => whnf) <;> (first
      | (with_reducible refine and_same ?_)
      | ((with_reducible apply Br.no) ; (focus omega))
      | (with_reducible refine lenR_nils ?_)
      ))
      )
    all_goals (conv => whnf)
    all_goals (try dsimp only)
    exact h _ (.refl _ _)
  · have hne' : ∀ x, x ∈ xs → x.bid ≠ some ia := fun x hx => by
      obtain ⟨j, hj⟩ := List.mem_iff_getElem?.1 hx
      have hjl : j < L.length := by rw [← hl]; exact (List.getElem?_eq_some_iff.1 hj).1
      exact hne _ (List.mem_of_getElem? (crow_get (List.getElem?_eq_getElem hjl) hj)) x (by simp)
    skip
    all_goals (conv => whnf)
    all_goals (try dsimp only)
    refine loop_at (α := Nat × AH × List Int × Bool) (fun a => [(2, .int .i64 a.1)]) (fun a => a.2.1) (fun a => a.1 ≤ L.length ∧ a.2.2.1.length = L.length ∧ a.2.1[ia]? = some { sz := 2, els := crow a.2.2.1 xs, gen := ga, wr := true, pure := a.2.2.2 } ∧ (∀ (j : Nat) (x : AV), xs[j]? = some x → a.1 ≤ j → ∃ rows, Own a.2.1 1 x rows) ∧ GrP σ a.2.1 (SpX (.rsl ia ga 0 (crow L xs).length none) xs)) (fun a => L.length - a.1)
      (0, σ, L, p) ⟨by omega, rfl, hbk, (fun j x hj _ => by obtain ⟨d, _, ho⟩ := hs.row hj; exact ⟨_, ho⟩), .refl _ _⟩ rfl rfl ?_
    rintro ⟨i, σ1, L1, p1⟩ ⟨hi, hL1, hb1, ho1, hG⟩
    dsimp only at hi hL1 hb1 ho1 hG ⊢
    rw [hcl]
    have hcl1 := crow_length (L := L1) (xs := xs) (by rw [hl, hL1])
    by_cases hlt : i < L.length
    · obtain ⟨n, hn, hn'⟩ := getN (l := L1) (k := i) (by omega)
      obtain ⟨x, hx, hx'⟩ := getN (l := xs) (k := i) (by omega)
      have hrow := crow_get hn' hx'
      obtain ⟨rows, hxo⟩ := ho1 i x hx' (Nat.le_refl _)
      obtain ⟨ox1, ox2, ox3⟩ := hxo.one
      have hxia : x.bid ≠ some ia := hne' x (List.mem_of_getElem? hx')
      have hial := (List.getElem?_eq_some_iff.1 hb1).1
      repeat' (first
        | ((with_reducible refine Side.intro ?_) <;> (first
        | omega
        | exact Nat.le_of_ble_eq_true rfl
        ))
        | ((conv => whnf) <;> (first
        | (with_reducible refine and_same ?_)
        | (with_reducible refine and_side ?_ ?_)
        | ((with_reducible apply Br.yes) ; (focus omega))
        | ((with_reducible apply blkAt_step) ; (focus (first
        | ((repeat (first
        | assumption
        )); done)
        )) ; (focus (first | rfl | assumption | omega)) ; (focus (first | rfl | assumption)) ; (try dsimp only))
        | ((with_reducible apply nthR_row) ; (focus assumption))
        | (with_reducible refine IaW.of ?_)
        | (with_reducible refine lenR_rsl ?_)
        ))
        )
      all_goals (conv => whnf)
      all_goals (try dsimp only)
      rw [ox1]
      have hnew : Gr σ1 (newB σ1 1 ((List.replicate 1 [AV.nils]).set 0 [x]) (allFlatL ((List.replicate 1 [AV.nils]).set 0 [x]))) none := Gr.append _ _
      refine Owned_own _ [x] σ1.length 0 _ true false get_new ?_ ?_ ?_ (by simp) _ ?_
      · intro j z hj
        match j, hj with
        | 0, hj => simp at hj; subst hj; exact ⟨_, hxo.keepN hnew⟩
      · intro j k z w hj hk hjk
        match j, k, hj, hk with
        | 0, 0, _, _ => omega
      · intro j z hj
        match j, hj with
        | 0, hj =>
          simp at hj; subst hj
          intro e
          have := hxo.lt e
          omega
      intro σ2 hE
      have hb2 : σ2[ia]? = some { sz := 2, els := crow L1 xs, gen := ga, wr := true, pure := p1 } := by
        refine hE.2 _ _ (hnew.2 _ _ hb1 (by simp)) fun j z hj e => ?_
        match j, hj with
        | 0, hj => simp at hj; subst hj; exact hxia e
      have ho2 : ∀ (j : Nat) (z : AV), xs[j]? = some z → i + 1 ≤ j → ∃ rows, Own σ2 1 z rows := fun j z hj hij => by
        obtain ⟨rz, hz⟩ := ho1 j z hj (by omega)
        refine ⟨rz, Own.els hE (hz.keepN hnew) fun k w hk => ?_⟩
        match k, hk with
        | 0, hk =>
          simp at hk; subst hk
          rcases hs.dis j i z x hj hx' (by omega) with q | q
          · exact .inl q
          · exact .inr fun e => q e.symm
      have hG2 : GrP σ σ2 (SpX (.rsl ia ga 0 (crow L xs).length none) xs) := (hG.new _ _ _).trans ⟨hE.1, fun id b hb hn => hE.2 id b hb fun j z hj e => by
        match j, hj with
        | 0, hj => simp at hj; subst hj; exact hn (.inr ⟨x, List.mem_of_getElem? hx', e⟩)⟩
      repeat' (first
        | ((with_reducible refine Side.intro ?_) <;> (first
        | omega
        | exact Nat.le_of_ble_eq_true rfl
        | exact rfl
        ))
        | ((conv => whnf) <;> (first
        | (with_reducible refine and_same ?_)
        | (with_reducible refine and_side ?_ ?_)
        | ((with_reducible apply Br.yes) ; (focus omega))
        | ((with_reducible apply blkAt_step) ; (focus (first
        | ((repeat (first
        | assumption
        )); done)
        )) ; (focus (first | rfl | assumption | omega)) ; (focus (first | rfl | assumption)) ; (try dsimp only))
        | ((with_reducible apply nthR_row) ; (focus assumption))
        | (with_reducible refine IaW.of ?_)
        ))
        )
      all_goals (conv => whnf)
      all_goals (try dsimp only)
      refine ⟨(i + 1, _, L1.set i (-7), p1 && allFlat (AV.int IntKind.i64 (-7)).cells), rfl, rfl, ⟨by omega, by rw [List.length_set]; exact hL1, ?_, fun j z hj hij => ?_, hG2.setT (.inl rfl) _⟩, by omega⟩
      · dsimp only
        rw [get_set hb2, show 0 + (i : Int).toNat = i from by omega, crow_set (by rw [hl, hL1]) hx']
      · dsimp only at hij ⊢
        obtain ⟨rz, hz⟩ := ho2 j z hj hij
        exact ⟨rz, hz.keep (Gr.set _ _ _) (.inr fun e => hne' z (List.mem_of_getElem? hj) e.symm)⟩
    · repeat' (first
        | ((conv => whnf) <;> (first
        | (with_reducible refine and_same ?_)
        | ((with_reducible apply Br.no) ; (focus omega))
        | ((with_reducible apply blkAt_step) ; (focus (first
        | ((repeat (first
        | assumption
        )); done)
        )) ; (focus (first | rfl | assumption | omega)) ; (focus (first | rfl | assumption)) ; (try dsimp only))
        | (with_reducible refine lenR_rsl ?_)
        ))
        )
      all_goals (conv => whnf)
      all_goals (try dsimp only)
      exact h _ hG
end Go.Proofs.Ytppccaacbpkgiaa

namespace Go.Proofs.Ytppccaacbpkgiaa
open Go Go.Proofs.Ytppccaacbpkgiaa.V
set_option maxRecDepth 20000
attribute [local irreducible] CallS AOK AOKn ALoop Side Ref.ok
theorem all2 {x y : AV} {p : AV → Prop} (hx : p x) (hy : p y) : ∀ (j : Nat) (a : AV), [x, y][j]? = some a → p a := by
  rintro j a h
  match j with
  | 0 => simp at h; subst h; exact hx
  | 1 => simp at h; subst h; exact hy
  | j + 2 => simp at h
theorem disj2 {x y : AV} (h : x.bid = none ∨ x.bid ≠ y.bid) : ∀ (j k : Nat) (a b : AV), [x, y][j]? = some a → [x, y][k]? = some b → j ≠ k → a.bid = none ∨ a.bid ≠ b.bid := by
  rintro j k a b h1 h2 hn
  match j, k with
  | 0, 0 => exact absurd rfl hn
  | 1, 1 => exact absurd rfl hn
  | 0, 1 => simp at h1 h2; subst h1; subst h2; exact h
  | 1, 0 => simp at h1 h2; subst h1; subst h2; exact disj_symm h
  | j + 2, _ => simp at h1
  | _, k + 2 => simp at h2
theorem disj_of {x y : AV} (h : ∀ id, x.bid = some id → y.bid ≠ some id) : x.bid = none ∨ x.bid ≠ y.bid := by
  cases hx : x.bid with
  | none => exact .inl rfl
  | some i => exact .inr fun e => h i hx e.symm
def fewL (L : List (Int × List UInt8)) : Prop := (∀ p, p ∈ L → p.2.length ≤ 1024) ∧ L.length ≤ 300
theorem WalCodes_ok (g : LogV) (n k : Int) (L : List (Int × List UInt8)) (hn : inI2 n) (hk : inI2 k) (hL : L.length ≤ 1048576) (hI : ∀ p, p ∈ L → inI2 p.1) : AOKn Try.prog F.joistlaw05_WalCodes [.agg (logR g), .int .i64 n, .int .i64 k, .sl 2 (chg false L) false] fun y => y = .bool true := by
  have hLg := looks_log
  have hF := Few_ok L (by omega)
  refine AOKn.by_steps mixed fc_joistlaw05_WalCodes_ok (by simp [fc_joistlaw05_WalCodes]) ?_
  repeat' (first
    | ((with_reducible refine Side.intro ?_) <;> (first
    | exact rfl
    ))
    | ((conv => whnf) <;> (first
    | (with_reducible refine and_side ?_ ?_)
    ))
    )
  all_goals (conv => whnf)
  all_goals (try dsimp only)
  refine call_one small_ok .nil rfl fun σ1 hg1 => ?_
  have b1 : σ1[0]? = some { sz := 3, els := [logR g], gen := 0, wr := true, pure := true } := hg1.2 0 _ get_new (by simp)
  skip
  all_goals (conv => whnf)
  all_goals (try dsimp only)
  by_cases hf : (∀ p, p ∈ L → p.2.length ≤ 1024) ∧ L.length ≤ 300
  · rw [decide_eq_true hf] at hF
    refine call_one hF (.cons (looks_chg _ _ _) .nil) rfl fun σ2 hg2 => ?_
    have b2 := hg2.2 _ _ b1 (by simp)
    repeat' (first
      | ((with_reducible refine Side.intro ?_) <;> (first
      | exact Nat.le_of_ble_eq_true rfl
      ))
      | ((conv => whnf) <;> (first
      | (with_reducible refine and_side ?_ ?_)
      | ((with_reducible apply blkAt_step) ; (focus (first
      | ((repeat (first
      | assumption
      )); done)
      )) ; (focus (first | rfl | assumption | omega)) ; (focus (first | rfl | assumption)) ; (try dsimp only))
      ))
      )
    all_goals (conv => whnf)
    all_goals (try dsimp only)
    refine call_ss1 (wWrite_ok g L hL hI) (.cons (hLg _ g) (.cons (looks_chg _ _ _) .nil)) rfl fun σ3 x y hg3 hx hy hnx hny hd => ?_
    have b3 := hg3.2 _ _ b2 (by simp)
    repeat' (first
      | ((with_reducible refine Side.intro ?_) <;> (first
      | exact Nat.le_of_ble_eq_true rfl
      ))
      | ((conv => whnf) <;> (first
      | (with_reducible refine and_side ?_ ?_)
      | ((with_reducible apply blkAt_step) ; (focus (first
      | ((repeat (first
      | assumption
      )); done)
      )) ; (focus (first | rfl | assumption | omega)) ; (focus (first | rfl | assumption)) ; (try dsimp only))
      ))
      )
    all_goals (conv => whnf)
    all_goals (try dsimp only)
    refine call_ss1 (rWrite_ok g L hL hI) (.cons (hLg _ g) (.cons (looks_chg _ _ _) .nil)) rfl fun σ4 u v hg4 hu hv hnu hnv hd2 => ?_
    have b4 := hg4.2 _ _ b3 (by simp)
    replace hx := hx.keepN hg4
    replace hy := hy.keepN hg4
    obtain ⟨c1, k1, m1⟩ := hx.one
    obtain ⟨c2, k2, m2⟩ := hy.one
    have n0 : ∀ z, New σ2 z → z.bid ≠ some 0 := fun z hz e => by
      have := hz 0 e
      have := (List.getElem?_eq_some_iff.1 b2).1
      omega
    repeat' (first
      | ((with_reducible refine Side.intro ?_) <;> (first
      | omega
      | exact Nat.le_of_ble_eq_true rfl
      ))
      | ((conv => whnf) <;> (first
      | (with_reducible refine and_side ?_ ?_)
      | (with_reducible refine Br.yes rfl ?_)
      | ((with_reducible apply rowsR_own) ; (focus assumption))
      | ((with_reducible apply bytesR_intro) ; (focus (first | rfl | (simp only [bs_take, bs_drop, bs_append]; rfl))))
      ))
      )
    all_goals (conv => whnf)
    all_goals (try dsimp only)
    rw [c1, c2]
    refine Owned_own (newB σ4 1 (List.map (fun x => [x]) [x, y]) _) [x, y] σ4.length 0 _ true false get_new (all2 ⟨_, hx.keepN (by (repeat (first
          | exact Gr.refl _ _
          | refine Gr.addN ?_ _
          )))⟩ ⟨_, hy.keepN (by (repeat (first
          | exact Gr.refl _ _
          | refine Gr.addN ?_ _
          )))⟩) (disj2 (disj_of hd)) (all2 (bid_ne5 hx (Nat.le_refl _)) (bid_ne5 hy (Nat.le_refl _))) (by simp) _ ?_
    intro σ5 hE
    have b5 : σ5[0]? = some { sz := 3, els := [logR g], gen := 0, wr := true, pure := true } := hE.2 _ _ (get_old b4) (all2 (n0 x hnx) (n0 y hny))
    have r1 := wRight_ok g n hn
    have r2 := rRight_ok g n hn
    have m1 := wMine_ok g k hk
    have m2 := rMine_ok g k hk
    generalize decide (rightG g n) = B1 at r1 r2
    generalize decide (mineG g k) = B2 at m1 m2
    have bb1 : B1 = B1 := rfl
    have bb2 : B2 = B2 := rfl
    repeat' (first
      | ((with_reducible refine Side.intro ?_) <;> (first
      | exact Nat.le_of_ble_eq_true rfl
      ))
      | ((conv => whnf) <;> (first
      | (with_reducible refine and_same ?_)
      | (with_reducible refine and_side ?_ ?_)
      | (with_reducible refine Br.yes rfl ?_)
      | ((with_reducible apply blkAt_step) ; (focus (first
      | ((repeat (first
      | assumption
      )); done)
      )) ; (focus (first | rfl | assumption | omega)) ; (focus (first | rfl | assumption)) ; (try dsimp only))
      ))
      )
    all_goals (conv => whnf)
    all_goals (try dsimp only)
    refine call_one r1 (.cons (hLg _ g) (.cons (Looks.int _ _ _) .nil)) rfl fun σ6 hg6 => ?_
    have b6 := hg6.2 _ _ b5 (by simp)
    repeat' (first
      | ((with_reducible apply Gr.side) ; with_reducible assumption)
      | ((conv => whnf) <;> (first
      | (with_reducible refine and_side ?_ ?_)
      ))
      )
    all_goals (conv => whnf)
    all_goals (try dsimp only)
    refine call_one r2 (.cons (hLg _ g) (.cons (Looks.int _ _ _) .nil)) rfl fun σ7 hg7 => ?_
    have b7 := hg7.2 _ _ b6 (by simp)
    repeat' (first
      | ((with_reducible refine Side.intro ?_) <;> (first
      | exact Nat.le_of_ble_eq_true rfl
      ))
      | ((conv => whnf) <;> (first
      | (with_reducible refine and_side ?_ ?_)
      | (with_reducible refine Br.yes rfl ?_)
      | ((with_reducible apply blkAt_step) ; (focus (first
      | ((repeat (first
      | assumption
      )); done)
      )) ; (focus (first | rfl | assumption | omega)) ; (focus (first | rfl | assumption)) ; (try dsimp only))
      ))
      )
    all_goals (conv => whnf)
    all_goals (try dsimp only)
    refine call_one m1 (.cons (hLg _ g) (.cons (Looks.int _ _ _) .nil)) rfl fun σ8 hg8 => ?_
    have b8 := hg8.2 _ _ b7 (by simp)
    repeat' (first
      | ((with_reducible apply Gr.side) ; with_reducible assumption)
      | ((conv => whnf) <;> (first
      | (with_reducible refine and_side ?_ ?_)
      ))
      )
    all_goals (conv => whnf)
    all_goals (try dsimp only)
    refine call_one m2 (.cons (hLg _ g) (.cons (Looks.int _ _ _) .nil)) rfl fun σ9 hg9 => ?_
    repeat' (first
      | ((with_reducible refine Side.intro ?_) <;> (first
      | (simp only [List.append_nil, List.nil_append, List.map_nil]; first | exact List.nodup_nil | exact nodup_bid1 _ | exact nodup_bid2 (by assumption))
      | ((first | refine fresh_tup ?_ | skip); (repeat (first |  exact FreshA.sl _ _ FreshA_bs | exact FreshA.sl _ _ FreshA_is | exact FreshA.nils | exact FreshA.nilp | exact FreshA.int _ _ | exact FreshA.bool _ | exact FreshA.str _ | exact fresh_nil | refine fresh_cons ?_ ?_ | with_reducible refine fresh_aggR ?_ | with_reducible refine fresh_agg ?_ | with_reducible exact fresh_nilA | with_reducible refine fresh_consA ?_ ?_)); done)
      ))
      | ((conv => whnf) <;> (first
      | (with_reducible refine and_side ?_ ?_)
      | (with_reducible refine Br.yes rfl ?_)
      | (with_reducible refine NOut.lit ?_)
      ))
      )
    all_goals (conv => whnf)
    all_goals (try dsimp only)
    exact ret_bool rfl
  · rw [decide_eq_false hf] at hF
    refine call_one hF (.cons (looks_chg _ _ _) .nil) rfl fun σ2 hg2 => ?_
    repeat' (first
      | ((with_reducible refine Side.intro ?_) <;> (first
      | (simp only [List.append_nil, List.nil_append, List.map_nil]; first | exact List.nodup_nil | exact nodup_bid1 _ | exact nodup_bid2 (by assumption))
      | ((first | refine fresh_tup ?_ | skip); (repeat (first |  exact FreshA.sl _ _ FreshA_bs | exact FreshA.sl _ _ FreshA_is | exact FreshA.nils | exact FreshA.nilp | exact FreshA.int _ _ | exact FreshA.bool _ | exact FreshA.str _ | exact fresh_nil | refine fresh_cons ?_ ?_ | with_reducible refine fresh_aggR ?_ | with_reducible refine fresh_agg ?_ | with_reducible exact fresh_nilA | with_reducible refine fresh_consA ?_ ?_)); done)
      ))
      | ((conv => whnf) <;> (first
      | (with_reducible refine and_side ?_ ?_)
      | (with_reducible refine NOut.lit ?_)
      ))
      )
    all_goals (conv => whnf)
    all_goals (try dsimp only)
    exact ret_bool rfl
theorem WalRooms_ok (g : LogV) (L : List (Int × List UInt8)) (hL : L.length ≤ 1048576) (hI : ∀ p, p ∈ L → inI2 p.1) : AOKn Try.prog F.joistlaw05_WalRooms [.agg (logR g), .sl 2 (chg false L) false] fun y => y = .bool true := by
  have hLg := looks_log
  have hF := Few_ok L (by omega)
  have hcl := chg_length false L
  have hE : wrE g L = 1 ∨ (wrE g L = 6 ∧ g.Room < L.length) ∨ (wrE g L = 0 ∧ ¬ g.Room < L.length) := by
    unfold wrE
    split
    · exact .inl rfl
    · split
      · rename_i q; exact .inr (.inl ⟨rfl, q⟩)
      · rename_i q; exact .inr (.inr ⟨rfl, q⟩)
  have ntt : ¬ (true ≠ true) := by simp
  have nff : ¬ (false ≠ false) := by simp
  refine AOKn.by_steps mixed fc_joistlaw05_WalRooms_ok (by simp [fc_joistlaw05_WalRooms]) ?_
  repeat' (first
    | ((with_reducible refine Side.intro ?_) <;> (first
    | exact rfl
    ))
    | ((conv => whnf) <;> (first
    | (with_reducible refine and_side ?_ ?_)
    ))
    )
  all_goals (conv => whnf)
  all_goals (try dsimp only)
  refine call_one small_ok .nil rfl fun σ1 hg1 => ?_
  have b1 : σ1[0]? = some { sz := 3, els := [logR g], gen := 0, wr := true, pure := true } := hg1.2 0 _ get_new (by simp)
  skip
  all_goals (conv => whnf)
  all_goals (try dsimp only)
  generalize decide ((∀ p, p ∈ L → p.2.length ≤ 1024) ∧ L.length ≤ 300) = B at hF
  refine call_one hF (.cons (looks_chg _ _ _) .nil) rfl fun σ2 hg2 => ?_
  have b2 := hg2.2 _ _ b1 (by simp)
  repeat' (first
    | ((with_reducible refine Side.intro ?_) <;> (first
    | exact Nat.le_of_ble_eq_true rfl
    ))
    | ((conv => whnf) <;> (first
    | (with_reducible refine and_side ?_ ?_)
    | ((with_reducible apply blkAt_step) ; (focus (first
    | ((repeat (first
    | assumption
    )); done)
    )) ; (focus (first | rfl | assumption | omega)) ; (focus (first | rfl | assumption)) ; (try dsimp only))
    ))
    )
  all_goals (conv => whnf)
  all_goals (try dsimp only)
  refine call_ss1 (wWrite_ok g L hL hI) (.cons (hLg _ g) (.cons (looks_chg _ _ _) .nil)) rfl fun σ3 x y hg3 hx hy hnx hny hd => ?_
  have b3 := hg3.2 _ _ b2 (by simp)
  generalize wrE g L = e at *
  cases B with
  | false =>
    repeat' (first
      | ((with_reducible refine Side.intro ?_) <;> (first
      | (simp only [List.append_nil, List.nil_append, List.map_nil]; first | exact List.nodup_nil | exact nodup_bid1 _ | exact nodup_bid2 (by assumption))
      | ((first | refine fresh_tup ?_ | skip); (repeat (first |  exact FreshA.sl _ _ FreshA_bs | exact FreshA.sl _ _ FreshA_is | exact FreshA.nils | exact FreshA.nilp | exact FreshA.int _ _ | exact FreshA.bool _ | exact FreshA.str _ | exact fresh_nil | refine fresh_cons ?_ ?_ | with_reducible refine fresh_aggR ?_ | with_reducible refine fresh_agg ?_ | with_reducible exact fresh_nilA | with_reducible refine fresh_consA ?_ ?_)); done)
      ))
      | ((conv => whnf) <;> (first
      | (with_reducible refine and_side ?_ ?_)
      | (with_reducible refine NOut.lit ?_)
      ))
      )
    all_goals (conv => whnf)
    all_goals (try dsimp only)
    exact ret_bool rfl
  | true =>
    rcases hE with rfl | ⟨rfl, hr⟩ | ⟨rfl, hr⟩
    · repeat' (first
        | ((with_reducible refine Side.intro ?_) <;> (first
        | (simp only [List.append_nil, List.nil_append, List.map_nil]; first | exact List.nodup_nil | exact nodup_bid1 _ | exact nodup_bid2 (by assumption))
        | ((first | refine fresh_tup ?_ | skip); (repeat (first |  exact FreshA.sl _ _ FreshA_bs | exact FreshA.sl _ _ FreshA_is | exact FreshA.nils | exact FreshA.nilp | exact FreshA.int _ _ | exact FreshA.bool _ | exact FreshA.str _ | exact fresh_nil | refine fresh_cons ?_ ?_ | with_reducible refine fresh_aggR ?_ | with_reducible refine fresh_agg ?_ | with_reducible exact fresh_nilA | with_reducible refine fresh_consA ?_ ?_)); done)
        ))
        | ((conv => whnf) <;> (first
        | (with_reducible refine and_same ?_)
        | (with_reducible refine and_side ?_ ?_)
        | (with_reducible refine Br.yes rfl ?_)
        | (with_reducible refine NOut.lit ?_)
        ))
        )
      all_goals (conv => whnf)
      all_goals (try dsimp only)
      exact ret_bool rfl
    · repeat' (first
        | ((with_reducible refine Side.intro ?_) <;> (first
        | (simp only [List.append_nil, List.nil_append, List.map_nil]; first | exact List.nodup_nil | exact nodup_bid1 _ | exact nodup_bid2 (by assumption))
        | ((first | refine fresh_tup ?_ | skip); (repeat (first |  exact FreshA.sl _ _ FreshA_bs | exact FreshA.sl _ _ FreshA_is | exact FreshA.nils | exact FreshA.nilp | exact FreshA.int _ _ | exact FreshA.bool _ | exact FreshA.str _ | exact fresh_nil | refine fresh_cons ?_ ?_ | with_reducible refine fresh_aggR ?_ | with_reducible refine fresh_agg ?_ | with_reducible exact fresh_nilA | with_reducible refine fresh_consA ?_ ?_)); done)
        ))
        | ((conv => whnf) <;> (first
        | (with_reducible refine and_same ?_)
        | (with_reducible refine and_side ?_ ?_)
        | (with_reducible refine Br.yes rfl ?_)
        | ((with_reducible apply Br.yes) ; (focus omega))
        | ((with_reducible apply Br.no) ; (focus omega))
        | ((with_reducible apply blkAt_step) ; (focus (first
        | ((repeat (first
        | assumption
        )); done)
        )) ; (focus (first | rfl | assumption | omega)) ; (focus (first | rfl | assumption)) ; (try dsimp only))
        | (with_reducible refine NOut.lit ?_)
        | (with_reducible refine lenR_sl ?_)
        ))
        )
      all_goals (conv => whnf)
      all_goals (try dsimp only)
      exact ret_bool rfl
    · repeat' (first
        | ((with_reducible refine Side.intro ?_) <;> (first
        | (simp only [List.append_nil, List.nil_append, List.map_nil]; first | exact List.nodup_nil | exact nodup_bid1 _ | exact nodup_bid2 (by assumption))
        | ((first | refine fresh_tup ?_ | skip); (repeat (first |  exact FreshA.sl _ _ FreshA_bs | exact FreshA.sl _ _ FreshA_is | exact FreshA.nils | exact FreshA.nilp | exact FreshA.int _ _ | exact FreshA.bool _ | exact FreshA.str _ | exact fresh_nil | refine fresh_cons ?_ ?_ | with_reducible refine fresh_aggR ?_ | with_reducible refine fresh_agg ?_ | with_reducible exact fresh_nilA | with_reducible refine fresh_consA ?_ ?_)); done)
        ))
        | ((conv => whnf) <;> (first
        | (with_reducible refine and_same ?_)
        | (with_reducible refine and_side ?_ ?_)
        | (with_reducible refine Br.yes rfl ?_)
        | ((with_reducible apply Br.yes) ; (focus omega))
        | ((with_reducible apply Br.no) ; (focus omega))
        | ((with_reducible apply blkAt_step) ; (focus (first
        | ((repeat (first
        | assumption
        )); done)
        )) ; (focus (first | rfl | assumption | omega)) ; (focus (first | rfl | assumption)) ; (try dsimp only))
        | (with_reducible refine NOut.lit ?_)
        | (with_reducible refine lenR_sl ?_)
        ))
        )
      all_goals (conv => whnf)
      all_goals (try dsimp only)
      exact ret_bool rfl
theorem WalReads_ok (g : LogV) (s : List UInt8) (hs : s.length ≤ 1048576) : AOKn Try.prog F.joistlaw05_WalReads [.agg (logR g), .sl 1 (bs s) false] fun y => y = .bool true := by
  have hLg := looks_log
  have hns := bs_length s
  refine AOKn.by_steps mixed fc_joistlaw05_WalReads_ok (by simp [fc_joistlaw05_WalReads]) ?_
  repeat' (first
    | ((with_reducible refine Side.intro ?_) <;> (first
    | exact rfl
    ))
    | ((conv => whnf) <;> (first
    | (with_reducible refine and_side ?_ ?_)
    ))
    )
  all_goals (conv => whnf)
  all_goals (try dsimp only)
  refine call_one small_ok .nil rfl fun σ1 hg1 => ?_
  have b1 : σ1[0]? = some { sz := 3, els := [logR g], gen := 0, wr := true, pure := true } := hg1.2 0 _ get_new (by simp)
  by_cases h1 : 8192 < (s.length : Int)
  · repeat' (first
      | ((with_reducible refine Side.intro ?_) <;> (first
      | (simp only [List.append_nil, List.nil_append, List.map_nil]; first | exact List.nodup_nil | exact nodup_bid1 _ | exact nodup_bid2 (by assumption))
      | ((first | refine fresh_tup ?_ | skip); (repeat (first |  exact FreshA.sl _ _ FreshA_bs | exact FreshA.sl _ _ FreshA_is | exact FreshA.nils | exact FreshA.nilp | exact FreshA.int _ _ | exact FreshA.bool _ | exact FreshA.str _ | exact fresh_nil | refine fresh_cons ?_ ?_ | with_reducible refine fresh_aggR ?_ | with_reducible refine fresh_agg ?_ | with_reducible exact fresh_nilA | with_reducible refine fresh_consA ?_ ?_)); done)
      ))
      | ((conv => whnf) <;> (first
      | (with_reducible refine and_same ?_)
      | (with_reducible refine and_side ?_ ?_)
      | ((with_reducible apply Br.yes) ; (focus omega))
      | (with_reducible refine NOut.lit ?_)
      | (with_reducible refine lenR_sl ?_)
      ))
      )
    all_goals (conv => whnf)
    all_goals (try dsimp only)
    exact ret_bool rfl
  repeat' (first
    | ((conv => whnf) <;> (first
    | (with_reducible refine and_same ?_)
    | ((with_reducible apply Br.no) ; (focus omega))
    | (with_reducible refine lenR_sl ?_)
    ))
    )
  all_goals (conv => whnf)
  all_goals (try dsimp only)
  refine Lent_val _ s false (by omega) _ ?_
  have hblk : (σ1 ++ [{ sz := 1, els := bs (s ++ [77]), gen := 0, wr := true, pure := true }])[σ1.length]? = some ({ sz := 1, els := bs (s ++ [77]), gen := 0, wr := true, pure := true } : Blk) := get_new
  have b2 : (σ1 ++ [({ sz := 1, els := bs (s ++ [77]), gen := 0, wr := true, pure := true } : Blk)])[0]? = some { sz := 3, els := [logR g], gen := 0, wr := true, pure := true } := get_old b1
  have l2 : (σ1 ++ [({ sz := 1, els := bs (s ++ [77]), gen := 0, wr := true, pure := true } : Blk)]).length = σ1.length + 1 := by simp
  generalize σ1 ++ [({ sz := 1, els := bs (s ++ [77]), gen := 0, wr := true, pure := true } : Blk)] = σ2 at *
  have hin : Own σ2 1 (.rsl σ1.length 0 0 s.length none) (bs s) := Own.mk' (sp := bs [77]) hblk (by rw [bs_length]) (by rw [bs_append])
  repeat' (first
    | ((with_reducible refine Side.intro ?_) <;> (first
    | exact Nat.le_of_ble_eq_true rfl
    ))
    | ((conv => whnf) <;> (first
    | (with_reducible refine and_side ?_ ?_)
    | ((with_reducible apply blkAt_step) ; (focus (first
    | ((repeat (first
    | assumption
    )); done)
    )) ; (focus (first | rfl | assumption | omega)) ; (focus (first | rfl | assumption)) ; (try dsimp only))
    ))
    )
  all_goals (conv => whnf)
  all_goals (try dsimp only)
  refine Read_call g s (by omega) (Looks.ownbs hin) fun σ3 x xs hg3 hN hSp hOff hnx hnxs => ?_
  have b3 := hg3.2 _ _ b2 (by simp)
  have hb3 := hg3.2 _ _ hblk (by simp)
  skip
  all_goals (conv => whnf)
  all_goals (try dsimp only)
  refine Kept_val _ s _ _ [] false (by omega) hb3 _ ?_
  repeat' (first
    | ((with_reducible refine Side.intro ?_) <;> (first
    | exact Nat.le_of_ble_eq_true rfl
    ))
    | ((conv => whnf) <;> (first
    | (with_reducible refine and_side ?_ ?_)
    | ((with_reducible apply blkAt_step) ; (focus (first
    | ((repeat (first
    | assumption
    )); done)
    )) ; (focus (first | rfl | assumption | omega)) ; (focus (first | rfl | assumption)) ; (try dsimp only))
    ))
    )
  all_goals (conv => whnf)
  all_goals (try dsimp only)
  refine call_sl1 (rRead_ok g s (by omega)) (.cons (hLg _ g) (.cons (.bs _ _ _) .nil)) rfl fun σ4 y hg4 hy hny => ?_
  have hb4 := hg4.2 _ _ hb3 (by simp)
  have hN4 := NestR.keepN hg4 hN
  have hSp4 := Sep.keepN hg4 hSp
  have hml : (rdR g s).length ≤ 1048576 := by
    by_cases h0 : rdR g s = []
    · rw [h0]; decide
    · have q := rdR_ok h0
      have := q.2.2.2
      have hgr := q.2.1
      unfold rightG at hgr
      omega
  have hSm := ref_Same_ok (rdR g s) (rdR g s) (by omega) (by omega)
  rw [decide_eq_true rfl] at hSm
  skip
  all_goals (conv => whnf)
  all_goals (try dsimp only)
  refine call_one hSm (.cons (NestR.looksC hN4 hSp4) (.cons (Looks.ownchg hy) .nil)) rfl fun σ5 hg5 => ?_
  have hb5 := hg5.2 _ _ hb4 (by simp)
  skip
  all_goals (conv => whnf)
  all_goals (try dsimp only)
  refine Spoil_callP (by rw [List.length_map]; omega) (by rw [hSp.len, List.length_map, List.length_map]) (NestR.keepN hg5 hN4) (Sep.keepN hg5 hSp4) _ fun σ6 hg6 => ?_
  have hb6 := hg6.2 _ _ hb5 (by
    rintro (q | ⟨z, hz, q⟩)
    · have := hnx _ q; omega
    · have := hnxs z hz _ q; omega)
  repeat' (first
    | ((conv => whnf) <;> (first
    | (with_reducible refine and_same ?_)
    | (with_reducible refine Br.yes rfl ?_)
    ))
    )
  all_goals (conv => whnf)
  all_goals (try dsimp only)
  refine Kept_val _ s _ _ [] false (by omega) hb6 _ ?_
  repeat' (first
    | ((with_reducible refine Side.intro ?_) <;> (first
    | (simp only [List.append_nil, List.nil_append, List.map_nil]; first | exact List.nodup_nil | exact nodup_bid1 _ | exact nodup_bid2 (by assumption))
    | ((first | refine fresh_tup ?_ | skip); (repeat (first |  exact FreshA.sl _ _ FreshA_bs | exact FreshA.sl _ _ FreshA_is | exact FreshA.nils | exact FreshA.nilp | exact FreshA.int _ _ | exact FreshA.bool _ | exact FreshA.str _ | exact fresh_nil | refine fresh_cons ?_ ?_ | with_reducible refine fresh_aggR ?_ | with_reducible refine fresh_agg ?_ | with_reducible exact fresh_nilA | with_reducible refine fresh_consA ?_ ?_)); done)
    ))
    | ((conv => whnf) <;> (first
    | (with_reducible refine and_side ?_ ?_)
    | (with_reducible refine NOut.lit ?_)
    ))
    )
  all_goals (conv => whnf)
  all_goals (try dsimp only)
  exact ret_bool rfl
end Go.Proofs.Ytppccaacbpkgiaa

namespace Go.Proofs.Ytppccaacbpkgiaa
open Go Go.Proofs.Ytppccaacbpkgiaa.V
theorem readsLog {B : BulkF} (hB : Bulky B) : ReadsA Try.prog B 23 (fun g : LogV => .agg (logR g)) (fun _ => 1) (fun g => inI g.Mark ∧ inI g.First ∧ inI g.Room) := by
  have h := Reads.struct3 (n1 := 1) (n2 := 1) (n3 := 1) hB Try.underlying23 (by kernel_rfl) (.i64 hB (by kernel_rfl)) (.i64 hB (by kernel_rfl)) (.i64 hB (by kernel_rfl)) rfl (by kernel_rfl) rfl (by kernel_rfl) rfl (by kernel_rfl)
  have h2 := Reads.iso h (fun x => (⟨x.1, x.2.1, x.2.2.1⟩ : LogV)) (enc' := logR) (μ' := fun _ => 1) (ok' := fun g => inI g.Mark ∧ inI g.First ∧ inI g.Room) (fun _ => rfl) (fun _ _ => by omega) (fun _ ho => ⟨ho.1, ho.2.1, ho.2.2.1⟩)
  exact ReadsA.struct Try.underlying23 h2
theorem readsChange5 {B : BulkF} (hB : Bulky B) : Reads Try.prog B 66 (fun p : Int × List UInt8 => [.int .i64 p.1, .sl 1 (bs p.2) false]) (fun p => p.2.length + 1) (fun p => inI p.1) := by
  have h := Reads.struct2 (n1 := 1) (n2 := 1) hB Try.underlying66 (by kernel_rfl) (.i64 hB (by kernel_rfl)) (.bytes (e := 5) hB (by kernel_rfl) (by kernel_rfl) (by kernel_rfl)) rfl (by kernel_rfl) rfl (by kernel_rfl)
  exact h.iso (fun p => (p.1, p.2.1)) (fun _ => rfl) (fun p _ => by dsimp only; omega) (fun _ q => q.1)
theorem readsChanges5 {B : BulkF} (hB : Bulky B) : ReadsA Try.prog B 24 (fun L : List (Int × List UInt8) => .sl 2 (chg false L) false) (fun L => (L.map fun p => p.2.length + 1).sum) (fun L => ∀ p, p ∈ L → inI p.1) := by
  refine .slice Try.underlying24 ?_
  exact Reads.iso (Reads.slice hB (sz := 2) Try.underlying24 (by kernel_rfl) (readsChange5 hB) (fun _ => rfl)) id (fun _ => rfl) (fun l _ => Nat.le_succ _) (fun _ q => q)
theorem chg_bd {l : List (Int × List UInt8)} {n : Nat} (h : (l.map fun p => p.2.length + 1).sum ≤ n) : l.length ≤ n ∧ ∀ p, p ∈ l → p.2.length ≤ n := by
  induction l generalizing n with
  | nil => simp
  | cons d D ih =>
    simp only [List.map_cons, List.sum_cons] at h
    obtain ⟨h1, h2⟩ := ih (n := n - (d.2.length + 1)) (by omega)
    refine ⟨by simp only [List.length_cons]; omega, fun e he => ?_⟩
    rcases List.mem_cons.1 he with rfl | he
    · omega
    · have := h2 e he; omega
theorem chg_in {l : List (Int × List UInt8)} (h : ∀ p, p ∈ l → inI p.1) : ∀ p, p ∈ l → inI2 p.1 := fun p hp => by
  have := h p hp
  exact ⟨this.2, this.1⟩
end Go.Proofs.Ytppccaacbpkgiaa

