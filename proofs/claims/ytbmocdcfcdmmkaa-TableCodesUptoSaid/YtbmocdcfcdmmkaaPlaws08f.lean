import Derived.Test.YtbmocdcfcdmmkaaPlaws08c
namespace Go.Proofs.Ytbmocdcfcdmmkaa
open Go Go.Proofs.Ytbmocdcfcdmmkaa.V
set_option maxRecDepth 20000
attribute [local irreducible] CallS AOK AOKn ALoop Side Ref.ok
/-! ### Words of slots -/
def fl (s : Sl) : Int := 4 * s.g + (if s.lv then 2 else 0) + (if s.tw then 1 else 0)
def fo : List Sl → Nat → Nat
  | [], _ => 0
  | s :: r, i => if opn s then i + 1 else fo r (i + 1)
def qw (l : List Sl) (i : Nat) : List Int := [fl (gat l i), (gat l i).a, (gat l i).n, if opn (gat l i) then ((fo (l.drop (i + 1)) (i + 1) : Nat) : Int) else 0]
def ww (l : List Sl) (i : Nat) : List Int := (List.range' i (l.length - i)).flatMap (qw l)
theorem ww_end (l : List Sl) : ww l l.length = [] := by simp [ww]
theorem ww_step {l : List Sl} {i : Nat} (h : i < l.length) : ww l i = qw l i ++ ww l (i + 1) := by
  unfold ww
  rw [show l.length - i = (l.length - (i + 1)) + 1 from by omega, List.range'_succ]
  rfl
theorem ww_length (l : List Sl) : ∀ (k i : Nat), k = l.length - i → (ww l i).length = 4 * k
  | 0, i, h => by simp [ww, ← h]
  | k + 1, i, h => by
    rw [ww_step (by omega), List.length_append, ww_length l k (i + 1) (by omega)]
    simp [qw]; omega
theorem fo_step {l : List Sl} {i : Nat} (h : i < l.length) : fo (l.drop i) i = if opn (gat l i) then i + 1 else fo (l.drop (i + 1)) (i + 1) := by
  have e : l.drop i = gat l i :: l.drop (i + 1) := by
    rw [List.drop_eq_getElem_cons h]; simp [gat, List.getD, h]
  rw [e]; rfl
theorem fo_le : ∀ (l : List Sl) (i : Nat), fo l i ≤ i + l.length
  | [], i => by simp [fo]
  | s :: r, i => by
    unfold fo
    split
    · simp
    · have := fo_le r (i + 1); simp only [List.length_cons]; omega
theorem or_lo {a b : Int} {n c k : Nat} (ha : a = ((n * 2 ^ k : Nat) : Int)) (hb : b = (c : Nat)) (hc : c < 2 ^ k) (hn : n * 2 ^ k + c < 9223372036854775808) :
    IntKind.wrap .i64 (((BitVec.ofInt IntKind.i64.bits a ||| BitVec.ofInt IntKind.i64.bits b).toNat : Nat) : Int) = ((n * 2 ^ k + c : Nat) : Int) := by
  subst ha; subst hb
  show IntKind.wrap .i64 (((BitVec.ofInt 64 ((n * 2 ^ k : Nat) : Int) ||| BitVec.ofInt 64 (c : Int)).toNat : Nat) : Int) = _
  rw [BitVec.toNat_or, bv_nat (by omega), bv_nat (by omega)]
  have := Nat.shiftLeft_add_eq_or_of_lt (i := k) (b := c) hc n
  rw [Nat.shiftLeft_eq] at this
  rw [← this, wrap_nat hn]
theorem flags_ok (s : Sl) (hs : okS s = true) : AOKn Try.prog F.table_flags [s.av] fun y => y = .int .i64 (fl s) := by
  have hg := okS_g hs
  obtain ⟨g, lv, tw, a, n⟩ := s
  dsimp only at hg
  show AOKn _ _ [.agg [.int .i64 g, .bool lv, .bool tw, .int .i64 a, .int .i64 n]] _
  obtain ⟨m, rfl⟩ : ∃ m : Nat, g = m := ⟨g.toNat, by omega⟩
  have e1 := or_lo (a := 4 * (m : Int)) (b := 2) (n := m) (c := 2) (k := 2) (by omega) rfl (by omega) (by omega)
  have e2 := or_lo (a := 4 * (m : Int)) (b := 1) (n := 2 * m) (c := 1) (k := 1) (by omega) rfl (by omega) (by omega)
  have e3 := or_lo (a := ((m * 2 ^ 2 + 2 : Nat) : Int)) (b := 1) (n := 2 * m + 1) (c := 1) (k := 1) (by omega) rfl (by omega) (by omega)
  refine AOKn.by_steps mixed fc_table_flags_ok (by simp [fc_table_flags]) ?_
  cases lv
  · cases tw
    · repeat' (first
        | ((with_reducible refine Side.intro ?_) <;> (first
        | (simp only [List.append_nil, List.nil_append, List.map_nil]; first | exact List.nodup_nil | exact nodup_bid1 _ | exact nodup_bid2 (by assumption))
        | ((first | refine fresh_tup ?_ | skip); (repeat (first | exact fresh_ss _ |  exact FreshA.sl _ _ FreshA_bs | exact FreshA.sl _ _ FreshA_is | exact FreshA.nils | exact FreshA.nilp | exact FreshA.int _ _ | exact FreshA.bool _ | exact FreshA.str _ | exact fresh_nil | refine fresh_cons ?_ ?_ | with_reducible refine fresh_aggR ?_ | with_reducible refine fresh_agg ?_ | with_reducible exact fresh_nilA | with_reducible refine fresh_consA ?_ ?_)); done)
        | exact rfl
        ))
        | ((conv => whnf) <;> (first
        | (with_reducible refine and_same ?_)
        | (with_reducible refine and_side ?_ ?_)
        | ((with_reducible apply Br.yes) ; (focus omega))
        | ((with_reducible apply blkAt_intro) ; (focus (first
        | exact rfl
        )) ; (focus (first | rfl | assumption | omega)) ; (try dsimp only))
        | (with_reducible refine NOut.lit ?_)
        ))
        )
      all_goals (conv => whnf)
      all_goals (try dsimp only)
      all_goals exact ret_same (by simp only [fl, AV.int.injEq, true_and]; simp)
    · repeat' (first
        | ((with_reducible refine Side.intro ?_) <;> (first
        | (simp only [List.append_nil, List.nil_append, List.map_nil]; first | exact List.nodup_nil | exact nodup_bid1 _ | exact nodup_bid2 (by assumption))
        | ((first | refine fresh_tup ?_ | skip); (repeat (first | exact fresh_ss _ |  exact FreshA.sl _ _ FreshA_bs | exact FreshA.sl _ _ FreshA_is | exact FreshA.nils | exact FreshA.nilp | exact FreshA.int _ _ | exact FreshA.bool _ | exact FreshA.str _ | exact fresh_nil | refine fresh_cons ?_ ?_ | with_reducible refine fresh_aggR ?_ | with_reducible refine fresh_agg ?_ | with_reducible exact fresh_nilA | with_reducible refine fresh_consA ?_ ?_)); done)
        | exact rfl
        ))
        | ((conv => whnf) <;> (first
        | (with_reducible refine and_same ?_)
        | (with_reducible refine and_side ?_ ?_)
        | ((with_reducible apply Br.yes) ; (focus omega))
        | ((with_reducible apply blkAt_intro) ; (focus (first
        | exact rfl
        )) ; (focus (first | rfl | assumption | omega)) ; (try dsimp only))
        | (with_reducible refine NOut.lit ?_)
        ))
        )
      all_goals (conv => whnf)
      all_goals (try dsimp only)
      all_goals
        rw [e2]
        exact ret_same (by simp only [fl, AV.int.injEq, true_and]; simp; omega)
  · cases tw
    · repeat' (first
        | ((with_reducible refine Side.intro ?_) <;> (first
        | (simp only [List.append_nil, List.nil_append, List.map_nil]; first | exact List.nodup_nil | exact nodup_bid1 _ | exact nodup_bid2 (by assumption))
        | ((first | refine fresh_tup ?_ | skip); (repeat (first | exact fresh_ss _ |  exact FreshA.sl _ _ FreshA_bs | exact FreshA.sl _ _ FreshA_is | exact FreshA.nils | exact FreshA.nilp | exact FreshA.int _ _ | exact FreshA.bool _ | exact FreshA.str _ | exact fresh_nil | refine fresh_cons ?_ ?_ | with_reducible refine fresh_aggR ?_ | with_reducible refine fresh_agg ?_ | with_reducible exact fresh_nilA | with_reducible refine fresh_consA ?_ ?_)); done)
        | exact rfl
        ))
        | ((conv => whnf) <;> (first
        | (with_reducible refine and_same ?_)
        | (with_reducible refine and_side ?_ ?_)
        | ((with_reducible apply Br.yes) ; (focus omega))
        | ((with_reducible apply blkAt_intro) ; (focus (first
        | exact rfl
        )) ; (focus (first | rfl | assumption | omega)) ; (try dsimp only))
        | (with_reducible refine NOut.lit ?_)
        ))
        )
      all_goals (conv => whnf)
      all_goals (try dsimp only)
      all_goals
        rw [e1]
        exact ret_same (by simp only [fl, AV.int.injEq, true_and]; simp; omega)
    · repeat' (first
        | ((with_reducible refine Side.intro ?_) <;> (first
        | (simp only [List.append_nil, List.nil_append, List.map_nil]; first | exact List.nodup_nil | exact nodup_bid1 _ | exact nodup_bid2 (by assumption))
        | ((first | refine fresh_tup ?_ | skip); (repeat (first | exact fresh_ss _ |  exact FreshA.sl _ _ FreshA_bs | exact FreshA.sl _ _ FreshA_is | exact FreshA.nils | exact FreshA.nilp | exact FreshA.int _ _ | exact FreshA.bool _ | exact FreshA.str _ | exact fresh_nil | refine fresh_cons ?_ ?_ | with_reducible refine fresh_aggR ?_ | with_reducible refine fresh_agg ?_ | with_reducible exact fresh_nilA | with_reducible refine fresh_consA ?_ ?_)); done)
        | exact rfl
        ))
        | ((conv => whnf) <;> (first
        | (with_reducible refine and_same ?_)
        | (with_reducible refine and_side ?_ ?_)
        | ((with_reducible apply Br.yes) ; (focus omega))
        | ((with_reducible apply blkAt_intro) ; (focus (first
        | exact rfl
        )) ; (focus (first | rfl | assumption | omega)) ; (try dsimp only))
        | (with_reducible refine NOut.lit ?_)
        ))
        )
      all_goals (conv => whnf)
      all_goals (try dsimp only)
      all_goals
        rw [e1]
        rw [e3]
        exact ret_same (by simp only [fl, AV.int.injEq, true_and]; simp; omega)
theorem flags_call (s : Sl) (hs : okS s = true) {σ : AH} {Q : AV → AH → Prop} (h : ∀ σ', Gr σ σ' none → Q (.int .i64 (fl s)) σ') : CallS Try.prog F.table_flags [s.av] σ Q :=
  call_one (flags_ok s hs) (.cons (.same rfl) .nil) rfl h
theorem look_new {σ : AH} {i : Nat} {b : Blk} (h : i = σ.length) : (σ ++ [b])[i]? = some b := by subst h; simp
/-- What stands while slots from i on are written. -/
def wk (l : List Sl) (i : Nat) : List Int := List.replicate (4 * i) 0 ++ ww l i
theorem wk_length (l : List Sl) (i : Nat) (h : i ≤ l.length) : (wk l i).length = 4 * l.length := by
  rw [wk, List.length_append, List.length_replicate, ww_length l _ i rfl]; omega
theorem copy3 (l : List Sl) (i m : Nat) (f a n : Int) (hm : 4 * i + 4 ≤ m) :
    List.take (0 + ((i : Int) * 4).toNat) (is (wk l (i + 1))) ++ List.take (min 3 (((m : Nat) : Int).toNat - ((i : Int) * 4).toNat)) (is [f, a, n]) ++ List.drop (0 + ((i : Int) * 4).toNat + min 3 (((m : Nat) : Int).toNat - ((i : Int) * 4).toNat)) (is (wk l (i + 1))) = is (List.replicate (4 * i) 0 ++ ([f, a, n, 0] ++ ww l (i + 1))) := by
  have e1 : 0 + ((i : Int) * 4).toNat = 4 * i := by omega
  have e2 : min 3 (((m : Nat) : Int).toNat - ((i : Int) * 4).toNat) = 3 := by omega
  rw [e1, e2, is_take, is_drop, is_take, is_append, is_append]
  congr 1
  have e3 : List.take (4 * i) (wk l (i + 1)) = List.replicate (4 * i) 0 := by
    unfold wk
    rw [List.take_append_of_le_length (by rw [List.length_replicate]; omega), List.take_replicate]
    congr 1; omega
  have e4 : List.drop (4 * i + 3) (wk l (i + 1)) = 0 :: ww l (i + 1) := by
    unfold wk
    rw [List.drop_append_of_le_length (by rw [List.length_replicate]; omega), List.drop_replicate, show 4 * (i + 1) - (4 * i + 3) = 1 from by omega]
    rfl
  rw [e3, e4, List.append_assoc]
  rfl
theorem set3 (l : List Sl) (i : Nat) (f a n v : Int) : (is (List.replicate (4 * i) 0 ++ ([f, a, n, 0] ++ ww l (i + 1)))).set (4 * i + 3) [.int .i64 v] = is (List.replicate (4 * i) 0 ++ ([f, a, n, v] ++ ww l (i + 1))) := by
  have h := is_set (List.replicate (4 * i) 0 ++ ([f, a, n, 0] ++ ww l (i + 1))) (4 * i + 3) v
  rw [h]
  congr 1
  rw [List.set_append_right _ _ (by rw [List.length_replicate]; omega), List.length_replicate, show 4 * i + 3 - 4 * i = 3 from by omega]
  rfl
theorem put_val (σ : AH) (l : List Sl) (ho : okL l = true) (i : Nat) (hi : i < l.length) (p0 p2 p3 wid wgen : Nat) (pu0 pu2 : Bool)
    (b0 : σ[p0]? = some { sz := 1, els := [[.sl 5 (ss l) false]], gen := 0, wr := true, pure := pu0 })
    (b2 : σ[p2]? = some { sz := 1, els := [[.rsl wid wgen 0 (4 * l.length) none]], gen := 0, wr := true, pure := pu2 })
    (b3 : σ[p3]? = some { sz := 1, els := [[.int .i64 (fo (l.drop (i + 1)) (i + 1) : Nat)]], gen := 0, wr := true, pure := true })
    (bw : σ[wid]? = some { sz := 1, els := is (wk l (i + 1)), gen := wgen, wr := true, pure := true })
    (d1 : p0 ≠ p3) (d2 : p2 ≠ p3) (d3 : wid ≠ p3) (d4 : wid ≠ p0) (d5 : wid ≠ p2) (Q : AV → AH → Prop)
    (h : ∀ σ', σ'[p0]? = some { sz := 1, els := [[.sl 5 (ss l) false]], gen := 0, wr := true, pure := pu0 } → σ'[p2]? = some { sz := 1, els := [[.rsl wid wgen 0 (4 * l.length) none]], gen := 0, wr := true, pure := pu2 } →
      σ'[p3]? = some { sz := 1, els := [[.int .i64 (fo (l.drop i) i : Nat)]], gen := 0, wr := true, pure := true } → σ'[wid]? = some { sz := 1, els := is (wk l i), gen := wgen, wr := true, pure := true } → Q (.tup []) σ') :
    CallS Try.prog F.table_Bytes_1 [.int .i64 i, .ptr p0 0 0 0, .ptr p2 0 0 0, .ptr p3 0 0 0] σ Q := by
  have hn := ss_length l
  have hp := some_gat (l := l) (k := (i : Int).toNat) (by omega)
  have hg : gat l (i : Int).toNat = gat l i := by rw [Int.toNat_natCast]
  have hS := okS_gat ho hi
  have hL := (okL_iff.1 ho).2
  rw [hg] at hp
  have hwl := wk_length l (i + 1) (by omega)
  have hwi := is_length (wk l (i + 1))
  have l0 := (List.getElem?_eq_some_iff.1 b0).1
  have l2 := (List.getElem?_eq_some_iff.1 b2).1
  have l3 := (List.getElem?_eq_some_iff.1 b3).1
  have lw := (List.getElem?_eq_some_iff.1 bw).1
  have hfs := fo_step hi
  have hst := ww_step hi
  have hq : qw l i = [fl (gat l i), (gat l i).a, (gat l i).n, if opn (gat l i) then ((fo (l.drop (i + 1)) (i + 1) : Nat) : Int) else 0] := rfl
  generalize gat l i = s at *
  obtain ⟨g, lv, tw, a, n⟩ := s
  dsimp only at hq
  refine call_of_body mixed fc_table_Bytes_1_ok (by simp [fc_table_Bytes_1]) ?_
  repeat' (first
    | ((with_reducible refine Side.intro ?_) <;> (first
    | omega
    | exact Nat.le_of_ble_eq_true rfl
    | exact rfl
    ))
    | ((conv => whnf) <;> (first
    | (with_reducible refine and_same ?_)
    | (with_reducible refine and_side ?_ ?_)
    | ((with_reducible apply Br.yes) ; (focus omega))
    | ((with_reducible apply blkAt_intro) ; (focus (first
    | ((repeat (first
    | assumption
    | exact get_new
    | exact get_set get_new
    | apply get_old
    | (apply get_set_ne; (focus (first | omega | (simp only [newB_length, List.length_set, List.length_append, List.length_singleton, List.length_nil]; omega))))
    )); done)
    )) ; (focus (first | rfl | assumption | omega)) ; (try dsimp only))
    | ((with_reducible apply nthR_ss1) ; (focus assumption))
    | (with_reducible refine ia_sl ?_ ?_)
    | (with_reducible refine SliceW.of ?_)
    ))
    )
  all_goals (conv => whnf)
  all_goals (try dsimp only)
  refine flags_call ⟨g, lv, tw, a, n⟩ hS fun H1 hg1 => ?_
  have bs1 := hg1.2 σ.length _ (by (first
        | ((repeat (first
        | exact get_set get_new
        )); done)
        )) (by simp)
  replace b0 := hg1.2 p0 _ (by (first
        | ((repeat (first
        | assumption
        | apply get_old
        | (apply get_set_ne; (focus (first | omega | (simp only [newB_length, List.length_set, List.length_append, List.length_singleton, List.length_nil]; omega))))
        )); done)
        )) (by simp)
  replace b2 := hg1.2 p2 _ (by (first
        | ((repeat (first
        | assumption
        | apply get_old
        | (apply get_set_ne; (focus (first | omega | (simp only [newB_length, List.length_set, List.length_append, List.length_singleton, List.length_nil]; omega))))
        )); done)
        )) (by simp)
  replace b3 := hg1.2 p3 _ (by (first
        | ((repeat (first
        | assumption
        | apply get_old
        | (apply get_set_ne; (focus (first | omega | (simp only [newB_length, List.length_set, List.length_append, List.length_singleton, List.length_nil]; omega))))
        )); done)
        )) (by simp)
  replace bw := hg1.2 wid _ (by (first
        | ((repeat (first
        | assumption
        | apply get_old
        | (apply get_set_ne; (focus (first | omega | (simp only [newB_length, List.length_set, List.length_append, List.length_singleton, List.length_nil]; omega))))
        )); done)
        )) (by simp)
  have m1 := (List.getElem?_eq_some_iff.1 bs1).1
  have m2 := (List.getElem?_eq_some_iff.1 b2).1
  have m3 := (List.getElem?_eq_some_iff.1 b3).1
  have mw := (List.getElem?_eq_some_iff.1 bw).1
  repeat' (first
    | ((with_reducible apply Gr.side) ; with_reducible assumption)
    | ((with_reducible apply Gr.side) ; (repeat (first | exact Gr.refl _ _ | assumption | with_reducible refine Gr.trans ?_ (Gr.boxN _ _ _ _ _) | refine Gr.setNew ?_ (by first | exact Nat.le_refl _ | (simp only [newB_length, List.length_set, List.length_append, List.length_singleton]; omega) | omega) _ | refine Gr.addN ?_ _ | refine Gr.newN ?_ _ _ _ | exact Gr.trans (by assumption) (by assumption) | refine Gr.trans ?_ (by assumption) | refine Gr.trans (by assumption) ?_)) ; (first | done | fail))
    | ((with_reducible refine Side.intro ?_) <;> (first
    | omega
    | exact Nat.le_of_ble_eq_true rfl
    | exact rfl
    ))
    | ((conv => whnf) <;> (first
    | (with_reducible refine and_same ?_)
    | (with_reducible refine and_side ?_ ?_)
    | ((with_reducible apply blkAt_intro) ; (focus (first
    | ((repeat (first
    | assumption
    | exact get_new
    | apply get_old
    | (apply get_set_ne; (focus (first | omega | (simp only [newB_length, List.length_set, List.length_append, List.length_singleton, List.length_nil]; omega))))
    )); done)
    )) ; (focus (first | rfl | assumption | omega)) ; (try dsimp only))
    | (with_reducible refine CopyW.of ?_)
    | (with_reducible refine rowsR_rsl ?_)
    ))
    )
  all_goals (conv => whnf)
  all_goals (try dsimp only)
  refine open_call ⟨g, lv, tw, a, n⟩ fun H2 hg2 => ?_
  replace b0 := hg2.2 p0 _ (by (first
        | ((repeat (first
        | assumption
        | apply get_old
        | (apply get_set_ne; (focus (first | omega | (simp only [newB_length, List.length_set, List.length_append, List.length_singleton, List.length_nil]; omega))))
        )); done)
        )) (by simp)
  replace b2 := hg2.2 p2 _ (by (first
        | ((repeat (first
        | assumption
        | apply get_old
        | (apply get_set_ne; (focus (first | omega | (simp only [newB_length, List.length_set, List.length_append, List.length_singleton, List.length_nil]; omega))))
        )); done)
        )) (by simp)
  replace b3 := hg2.2 p3 _ (by (first
        | ((repeat (first
        | assumption
        | apply get_old
        | (apply get_set_ne; (focus (first | omega | (simp only [newB_length, List.length_set, List.length_append, List.length_singleton, List.length_nil]; omega))))
        )); done)
        )) (by simp)
  replace bw := hg2.2 wid _ (by (first
        | ((repeat (first
        | assumption
        | with_reducible apply get_set
        | apply get_old
        )); done)
        )) (by simp)
  clear hg1 hg2 bs1
  replace bw : H2[wid]? = some { sz := 1, els := is (List.replicate (4 * i) 0 ++ ([fl ⟨g, lv, tw, a, n⟩, a, n, 0] ++ ww l (i + 1))), gen := wgen, wr := true, pure := true } := by
    rw [← copy3 l i (4 * l.length) (fl ⟨g, lv, tw, a, n⟩) a n (by omega)]
    exact bw
  have hll := is_length (List.replicate (4 * i) 0 ++ ([fl ⟨g, lv, tw, a, n⟩, a, n, 0] ++ ww l (i + 1)))
  have hll2 : (List.replicate (4 * i) 0 ++ ([fl ⟨g, lv, tw, a, n⟩, a, n, 0] ++ ww l (i + 1))).length = 4 * l.length := by
    rw [List.length_append, List.length_append, ww_length l _ (i + 1) rfl, List.length_replicate]
    simp only [List.length_cons, List.length_nil]; omega
  have hwk : wk l i = List.replicate (4 * i) 0 ++ (qw l i ++ ww l (i + 1)) := by rw [wk, hst]
  rw [hq] at hwk
  cases hopn : opn ⟨g, lv, tw, a, n⟩
  · rw [hopn] at hfs hwk
    simp only [Bool.false_eq_true, if_false] at hfs hwk
    skip
    all_goals (conv => whnf)
    all_goals (try dsimp only)
    refine h _ b0 b2 ?_ ?_
    · rw [hfs]; exact b3
    · rw [hwk]; exact bw
  · rw [hopn] at hfs hwk
    simp only [if_true] at hfs hwk
    have hfl := fo_le (l.drop (i + 1)) (i + 1)
    rw [List.length_drop] at hfl
    have hvv : ∃ v, (List.replicate (4 * i) 0 ++ ([fl ⟨g, lv, tw, a, n⟩, a, n, 0] ++ ww l (i + 1)))[0 + ((i : Int) * 4 + 3).toNat]? = some v := by
      refine ⟨_, List.getElem?_eq_getElem ?_⟩
      omega
    obtain ⟨v, hv⟩ := hvv
    repeat' (first
      | ((with_reducible refine Side.intro ?_) <;> (first
      | omega
      | exact Nat.le_of_ble_eq_true rfl
      | exact rfl
      ))
      | ((conv => whnf) <;> (first
      | (with_reducible refine and_same ?_)
      | (with_reducible refine and_side ?_ ?_)
      | ((with_reducible apply Br.yes) ; (focus omega))
      | ((with_reducible apply blkAt_intro) ; (focus (first
      | ((repeat (first
      | assumption
      | (apply get_set_ne; (focus (first | omega | (simp only [newB_length, List.length_set, List.length_append, List.length_singleton, List.length_nil]; omega))))
      )); done)
      )) ; (focus (first | rfl | assumption | omega)) ; (try dsimp only))
      | ((with_reducible apply nthR_is1) ; (focus assumption))
      | (with_reducible refine IaW.of ?_)
      ))
      )
    all_goals (conv => whnf)
    all_goals (try dsimp only)
    refine h _ (get_set_ne (fun e => d1 e.symm) (get_set_ne d4 b0)) (get_set_ne (fun e => d2 e.symm) (get_set_ne d5 b2)) ?_ ?_
    · rw [get_set (get_set_ne d3 b3), hfs, Int.natCast_add]
      rfl
    · rw [get_set_ne (fun e => d3 e.symm) (get_set bw), hwk, show 0 + ((i : Int) * 4 + 3).toNat = 4 * i + 3 from by omega, set3]
      rfl
def btR (l : List Sl) : List UInt8 := if okL l then cat (ww l 0) else []
def btE (l : List Sl) : Int := if okL l then 0 else 1
theorem fl_bd {s : Sl} (h : okS s = true) : 0 ≤ fl s ∧ fl s ≤ 262143 := by
  have := okS_g h
  unfold fl
  split <;> split <;> omega
theorem okS_an {s : Sl} (h : okS s = true) : 0 ≤ s.a ∧ s.a ≤ 2048 ∧ 0 ≤ s.n ∧ s.n ≤ 2048 := by
  simp only [okS, Bool.and_eq_true, decide_eq_true_eq] at h
  obtain ⟨_, h2⟩ := h
  cases hl : s.lv
  · rw [hl] at h2
    simp only [Bool.false_eq_true, if_false, decide_eq_true_eq] at h2
    omega
  · rw [hl] at h2
    simp only [if_true, decide_eq_true_eq] at h2
    omega
theorem qw_may {l : List Sl} (h : okL l = true) {i : Nat} (hi : i < l.length) : (qw l i).all mayW = true := by
  have h1 := okS_gat h hi
  have h2 := fl_bd h1
  have h3 := okS_an h1
  have h4 := fo_le (l.drop (i + 1)) (i + 1)
  have h5 := (okL_iff.1 h).2
  rw [List.length_drop] at h4
  simp only [qw, List.all_cons, List.all_nil, Bool.and_true, Bool.and_eq_true, mayW, decide_eq_true_eq]
  refine ⟨by omega, by omega, by omega, ?_⟩
  split <;> omega
theorem ww_may {l : List Sl} (h : okL l = true) : (ww l 0).all mayW = true := by
  rw [List.all_eq_true]
  intro x hx
  simp only [ww, List.mem_flatMap, List.mem_range'_1] at hx
  obtain ⟨i, hi, hx⟩ := hx
  exact List.all_eq_true.1 (qw_may h (by omega)) x hx
theorem Bytes_ok8 (l : List Sl) (hs : l.length ≤ 4611686018) : AOKn Try.prog F.table_Bytes [.sl 5 (ss l) false] fun y => y = .tup [.sl 1 (bs (btR l)) true, .int .i64 (btE l)] := by
  have hn := ss_length l
  refine AOKn.by_steps mixed fc_table_Bytes_ok (by simp [fc_table_Bytes]) ?_
  repeat' (first
    | ((with_reducible refine Side.intro ?_) <;> (first
    | exact rfl
    ))
    | ((conv => whnf) <;> (first
    | (with_reducible refine and_side ?_ ?_)
    | ((with_reducible apply blkAt_intro) ; (focus (first
    | exact rfl
    )) ; (focus (first | rfl | assumption | omega)) ; (try dsimp only))
    ))
    )
  all_goals (conv => whnf)
  all_goals (try dsimp only)
  refine Right_call l (by omega) (Looks.ss _ _ _) fun H1 hg1 => ?_
  have b0 := hg1.2 0 _ rfl (by simp)
  have l1 := (List.getElem?_eq_some_iff.1 b0).1
  cases ho : okL l
  · rw [show btR l = [] from by simp [btR, ho], show btE l = 1 from by simp [btE, ho]]
    repeat' (first
      | ((with_reducible refine Side.intro ?_) <;> (first
      | (simp only [List.append_nil, List.nil_append, List.map_nil]; first | exact List.nodup_nil | exact nodup_bid1 _ | exact nodup_bid2 (by assumption))
      | ((first | refine fresh_tup ?_ | skip); (repeat (first | exact fresh_ss _ |  exact FreshA.sl _ _ FreshA_bs | exact FreshA.sl _ _ FreshA_is | exact FreshA.nils | exact FreshA.nilp | exact FreshA.int _ _ | exact FreshA.bool _ | exact FreshA.str _ | exact fresh_nil | refine fresh_cons ?_ ?_ | with_reducible refine fresh_aggR ?_ | with_reducible refine fresh_agg ?_ | with_reducible exact fresh_nilA | with_reducible refine fresh_consA ?_ ?_)); done)
      ))
      | ((conv => whnf) <;> (first
      | (with_reducible refine and_side ?_ ?_)
      | (with_reducible refine NOut.lit ?_)
      ))
      )
    all_goals (conv => whnf)
    all_goals (try dsimp only)
    exact ret_nilt rfl
  · have hL := (okL_iff.1 ho).2
    have e4 : ((l.length : Int) * 4).toNat = 4 * l.length := by omega
    have hw0 : List.replicate (4 * l.length) [AV.int .i64 0] = is (wk l l.length) := by rw [wk, ww_end, List.append_nil, is_replicate]
    repeat' (first
      | ((with_reducible refine Side.intro ?_) <;> (first
      | omega
      | exact Nat.le_of_ble_eq_true rfl
      | exact rfl
      ))
      | ((conv => whnf) <;> (first
      | (with_reducible refine and_same ?_)
      | (with_reducible refine and_side ?_ ?_)
      | ((with_reducible apply Br.yes) ; (focus omega))
      | ((with_reducible apply blkAt_intro) ; (focus (first
      | ((repeat (first
      | assumption
      | exact get_new
      | apply get_old
      | (apply get_set_ne; (focus (first | omega | (simp only [newB_length, List.length_set, List.length_append, List.length_singleton, List.length_nil]; omega))))
      )); done)
      )) ; (focus (first | rfl | assumption | omega)) ; (try dsimp only))
      | (with_reducible refine lenR_sl ?_)
      ))
      )
    all_goals (conv => whnf)
    all_goals (try dsimp only)
    simp only [newB_length, List.length_set, List.length_nil, hn, e4, hw0]
    refine loop_at (α := Nat × AH) (fun a => [(7, .int .i64 ((a.1 : Int) - 1))]) (fun a => a.2)
      (fun a => a.1 ≤ l.length ∧ a.2[0]? = some { sz := 1, els := [[.sl 5 (ss l) false]], gen := 0, wr := true, pure := allFlat (AV.sl 5 (ss l) false).cells } ∧ a.2[H1.length + 1]? = some { sz := 1, els := [[.rsl H1.length 0 0 (4 * l.length) none]], gen := 0, wr := true, pure := false } ∧
        a.2[H1.length + 1 + 1]? = some { sz := 1, els := [[.int .i64 (fo (l.drop a.1) a.1 : Nat)]], gen := 0, wr := true, pure := true } ∧ a.2[H1.length]? = some { sz := 1, els := is (wk l a.1), gen := 0, wr := true, pure := true }) (fun a => a.1) (l.length, _) ⟨by dsimp only; omega, ?_, ?_, ?_, ?_⟩ rfl rfl ?_
    · exact get_set_ne (by omega) (get_old (get_set_ne (by omega) (get_old (get_old b0))))
    · exact get_set_ne (by omega) (get_old (get_set (b0 := { sz := 1, els := [[.nils]], gen := 0, wr := true, pure := true }) (by simp [newB]; rfl)))
    · have hfo : fo (l.drop l.length) l.length = 0 := by rw [List.drop_length]; rfl
      dsimp only
      rw [hfo]
      exact get_set (look_new (by simp only [List.length_set, newB_length]))
    · exact get_set_ne (by omega) (get_old (get_set_ne (by omega) (get_old get_new)))
    rintro ⟨k, σ⟩ ⟨hk, c0, c2, c3, cw⟩
    dsimp only at hk c0 c2 c3 cw ⊢
    by_cases hpos : 0 < k
    · obtain ⟨i, rfl⟩ : ∃ i, k = i + 1 := ⟨k - 1, by omega⟩
      have ei : ((i + 1 : Nat) : Int) - 1 = (i : Int) := by omega
      rw [ei]
      repeat' (first
        | ((conv => whnf) <;> (first
        | (with_reducible refine and_same ?_)
        | ((with_reducible apply Br.yes) ; (focus omega))
        ))
        )
      all_goals (conv => whnf)
      all_goals (try dsimp only)
      refine put_val σ l ho i (by omega) 0 (H1.length + 1) (H1.length + 1 + 1) H1.length 0 _ _ c0 c2 c3 cw (by omega) (by omega) (by omega) (by omega) (by omega) _ ?_
      intro σ' d0 d2 d3 dw
      repeat' (first
        | ((conv => whnf) <;> (first
        | (with_reducible refine and_same ?_)
        | ((with_reducible apply Br.yes) ; (focus omega))
        ))
        )
      all_goals (conv => whnf)
      all_goals (try dsimp only)
      exact ⟨(i, σ'), by rfl, rfl, ⟨by dsimp only; omega, d0, d2, d3, dw⟩, by dsimp only; omega⟩
    · have hk0 : k = 0 := by omega
      subst hk0
      have hwl := wk_length l 0 (by omega)
      have hw : wk l 0 = ww l 0 := by simp [wk]
      rw [hw] at cw hwl
      have hown : Own σ 1 (.rsl H1.length 0 0 (4 * l.length) none) (is (ww l 0)) := .mk' (sp := []) cw (by rw [is_length, hwl]) (by rw [List.append_nil])
      have hR : ofR (ww l 0) = btR l := by rw [ofR, ww_may ho, if_pos rfl, btR, ho, if_pos rfl]
      have hE : ofE (ww l 0) = btE l := by rw [ofE, ww_may ho, if_pos rfl, btE, ho, if_pos rfl]
      repeat' (first
        | ((conv => whnf) <;> (first
        | (with_reducible refine and_same ?_)
        | ((with_reducible apply Br.no) ; (focus omega))
        | ((with_reducible apply blkAt_intro) ; (focus (first
        | ((repeat (first
        | assumption
        )); done)
        )) ; (focus (first | rfl | assumption | omega)) ; (try dsimp only))
        ))
        )
      all_goals (conv => whnf)
      all_goals (try dsimp only)
      refine Of_call (ww l 0) (by omega) (Looks.ownis hown) fun H3 y hg3 hy hn3 => ?_
      rw [hR] at hy
      rw [hE]
      repeat' (first
        | ((with_reducible refine Side.intro ?_) <;> (first
        | (simp only [List.append_nil, List.nil_append, List.map_nil]; first | exact List.nodup_nil | exact nodup_bid1 _ | exact nodup_bid2 (by assumption))
        | ((first | refine fresh_tup ?_ | skip); (repeat (first | exact fresh_ss _ |  exact FreshA.sl _ _ FreshA_bs | exact FreshA.sl _ _ FreshA_is | exact FreshA.nils | exact FreshA.nilp | exact FreshA.int _ _ | exact FreshA.bool _ | exact FreshA.str _ | exact fresh_nil | refine fresh_cons ?_ ?_ | with_reducible refine fresh_aggR ?_ | with_reducible refine fresh_agg ?_ | with_reducible exact fresh_nilA | with_reducible refine fresh_consA ?_ ?_)); done)
        ))
        | ((conv => whnf) <;> (first
        | (with_reducible refine and_side ?_ ?_)
        | ((with_reducible apply NOut.own) ; (focus assumption))
        | (with_reducible refine NOut.lit ?_)
        ))
        )
      all_goals (conv => whnf)
      all_goals (try dsimp only)
      exact ret_same rfl
end Go.Proofs.Ytbmocdcfcdmmkaa
