import Derived.Test.YtbmocdcfcdmmkaaPtable2
namespace Go.Proofs.Ytbmocdcfcdmmkaa
open Go Go.Proofs.Ytbmocdcfcdmmkaa.V
set_option maxRecDepth 20000
attribute [local irreducible] CallS AOK AOKn ALoop Side Ref.ok
theorem okL_iff {l : List Sl} : okL l = true ↔ (l.all okS = true ∧ (2 ≤ (l.length : Int) ∧ (l.length : Int) ≤ 32 ∧ (l.length : Int) % 2 = 0)) := by simp [okL, lenOk]
theorem okS_gat {l : List Sl} (h : okL l = true) {k : Nat} (hk : k < l.length) : okS (gat l k) = true := by
  have h1 := (okL_iff.1 h).1
  exact List.all_eq_true.1 h1 _ (List.mem_of_getElem? (some_gat hk))
theorem okS_g {s : Sl} (h : okS s = true) : 0 ≤ s.g ∧ s.g ≤ 65535 := by
  simp only [okS, Bool.and_eq_true, decide_eq_true_eq] at h; exact h.1
def fill (s : Sl) (g : Int) : Sl := ⟨g, true, s.tw, s.a, s.n⟩
def tkS (l : List Sl) (s : Sl) : Sl := fill s (gat l (nxtV l)).g
def tkOk (l : List Sl) (s : Sl) : Bool := okL l && (nxtOk l && okS (tkS l s))
def tkE (l : List Sl) (s : Sl) : Int := if tkOk l s then 0 else if okL l && !nxtOk l then 9 else 1
def tkR (l : List Sl) (s : Sl) : List Sl := if tkOk l s then l.set (nxtV l) (tkS l s) else []
def tkI (l : List Sl) (s : Sl) : Int := if tkOk l s then (nxtV l : Nat) else 0
def tkG (l : List Sl) (s : Sl) : Int := if tkOk l s then (tkS l s).g else 0
def frOk (l : List Sl) (k : Int) : Bool := okL l && (decide (0 ≤ k ∧ k < l.length) && (gat l k.toNat).lv)
def frS (l : List Sl) (k : Int) : Sl := ⟨min ((gat l k.toNat).g + 1) 65535, false, false, 0, 0⟩
def frR (l : List Sl) (k : Int) : List Sl := if frOk l k then l.set k.toNat (frS l k) else []
def frE (l : List Sl) (k : Int) : Int := if frOk l k then 0 else 1
theorem ss_replace (l : List Sl) (k : Nat) (g a n : Int) (lv tw : Bool) (hk : k < l.length) :
    List.take ((List.drop (Int.toNat 0) (List.take (k : Int).toNat (ss l))).length + (List.take 1 (List.drop 0 ((List.replicate 1 [AV.int .i64 0, AV.bool false, AV.bool false, AV.int .i64 0, AV.int .i64 0]).set 0 (AV.agg [.int .i64 g, .bool lv, .bool tw, .int .i64 a, .int .i64 n]).cells))).length + (List.drop ((k : Int) + 1).toNat (List.take ((ss l).length : Int).toNat (ss l))).length)
      (List.take ((List.drop (Int.toNat 0) (List.take (k : Int).toNat (ss l))).length + (List.take 1 (List.drop 0 ((List.replicate 1 [AV.int .i64 0, AV.bool false, AV.bool false, AV.int .i64 0, AV.int .i64 0]).set 0 (AV.agg [.int .i64 g, .bool lv, .bool tw, .int .i64 a, .int .i64 n]).cells))).length)
        (List.drop (Int.toNat 0) (List.take (k : Int).toNat (ss l)) ++ List.take 1 (List.drop 0 ((List.replicate 1 [AV.int .i64 0, AV.bool false, AV.bool false, AV.int .i64 0, AV.int .i64 0]).set 0 (AV.agg [.int .i64 g, .bool lv, .bool tw, .int .i64 a, .int .i64 n]).cells)))
        ++ List.drop ((k : Int) + 1).toNat (List.take ((ss l).length : Int).toNat (ss l))) = ss (l.set k ⟨g, lv, tw, a, n⟩) := by
  have key : ∀ A B C : List (List AV), List.take (A.length + B.length + C.length) (List.take (A.length + B.length) (A ++ B) ++ C) = A ++ B ++ C := by
    intro A B C
    rw [List.take_of_length_le (l := A ++ B) (by simp), List.take_of_length_le (by simp only [List.length_append]; omega)]
  rw [key]
  have eA : List.drop (Int.toNat 0) (List.take (k : Int).toNat (ss l)) = ss (l.take k) := by rw [ss_take]; rfl
  have eB : List.take 1 (List.drop 0 ((List.replicate 1 [AV.int .i64 0, AV.bool false, AV.bool false, AV.int .i64 0, AV.int .i64 0]).set 0 (AV.agg [.int .i64 g, .bool lv, .bool tw, .int .i64 a, .int .i64 n]).cells)) = ss [⟨g, lv, tw, a, n⟩] := rfl
  have eC : List.drop ((k : Int) + 1).toNat (List.take ((ss l).length : Int).toNat (ss l)) = ss (l.drop (k + 1)) := by
    rw [Int.toNat_natCast, List.take_length, ss_drop]; rfl
  rw [eA, eB, eC, ss_append, ss_append]
  congr 1
  rw [List.set_eq_take_append_cons_drop, if_pos hk]
  simp
theorem with_ok (l : List Sl) (k : Nat) (s : Sl) (hk : k < l.length) (hs : l.length ≤ 1000000) : AOKn Try.prog F.table_with [.sl 5 (ss l) false, .int .i64 k, s.av] fun y => y = .sl 5 (ss (l.set k s)) true := by
  have hn := ss_length l
  obtain ⟨g, lv, tw, a, n⟩ := s
  show AOKn _ _ [.sl 5 (ss l) false, .int .i64 k, .agg [.int .i64 g, .bool lv, .bool tw, .int .i64 a, .int .i64 n]] _
  refine AOKn.by_steps mixed fc_table_with_ok (by simp [fc_table_with]) ?_
  repeat' (first
    | ((with_reducible refine Side.intro ?_) <;> (first
    | omega
    | exact Nat.le_of_ble_eq_true rfl
    | (simp only [bs_length, List.length_append, List.length_cons, List.length_nil, List.length_take, List.length_drop, List.length_set, List.length_replicate]; omega)
    | exact rfl
    | (simp; done)
    ))
    | ((conv => whnf) <;> (first
    | (with_reducible refine and_same ?_)
    | (with_reducible refine and_side ?_ ?_)
    | (with_reducible refine Br.yes (by omega) ?_)
    | ((with_reducible apply blkAt_intro) ; (focus (first
    | exact rfl
    )) ; (focus (first | rfl | assumption | omega)) ; (try dsimp only))
    | ((with_reducible apply appendR_lit) ; (focus (first
    | exact rfl
    )) ; (focus (first | rfl | assumption)) ; (focus rfl) ; (focus rfl) ; (focus rfl) ; (focus (first | exact Nat.zero_le _ | omega | (simp; done) | (simp; omega))) ; (try dsimp only))
    | (with_reducible refine SliceW.of ?_)
    | (with_reducible refine NOut.lit ?_)
    | (with_reducible refine rowsR_sl ?_)
    | (with_reducible refine rowsR_rsl ?_)
    | (with_reducible refine appendR_slx ?_ ?_ ?_)
    ))
    )
  all_goals (conv => whnf)
  all_goals (try dsimp only)
  all_goals rw [ss_replace _ _ _ _ _ _ _ hk]
  · exact ret_same rfl
  · exact Side.intro (fresh_ss _)
theorem with_call (l : List Sl) (k : Nat) (s : Sl) (hk : k < l.length) (hs : l.length ≤ 1000000) {σ : AH} {x : AV} (hx : Looks σ x (.sl 5 (ss l) false)) {Q : AV → AH → Prop} (h : ∀ σ' y, Gr σ σ' none → Own σ' 5 y (ss (l.set k s)) → New σ y → Q y σ') : CallS Try.prog F.table_with [x, .int .i64 k, s.av] σ Q :=
  call_sl (with_ok l k s hk hs) (.cons hx (.cons (.int _ _ _) (.cons (.same rfl) .nil))) h
theorem TSame_ok (l : List Sl) (hs : l.length ≤ 4611686018) : AOKn Try.prog F.joistref08_Same [.sl 5 (ss l) false, .sl 5 (ss l) false] fun y => y = .bool true := by
  have hn := ss_length l
  refine AOKn.by_steps mixed fc_joistref08_Same_ok (by simp [fc_joistref08_Same]) ?_
  repeat' (first
    | ((conv => whnf) <;> (first
    | (with_reducible refine and_same ?_)
    | (with_reducible refine Br.no (by omega) ?_)
    | (with_reducible refine lenR_sl ?_)
    ))
    )
  all_goals (conv => whnf)
  all_goals (try dsimp only)
  refine loop_at (α := Nat × AH) (fun a => [(5, .int .i64 a.1)]) (fun a => a.2) (fun a => a.1 ≤ l.length) (fun a => l.length - a.1) (0, []) (by dsimp only; omega) rfl rfl ?_
  rintro ⟨k, σ⟩ hk
  dsimp only at hk ⊢
  by_cases hlt : k < l.length
  · obtain ⟨⟨g, lv, tw, a, n⟩, hp, hp'⟩ := getN hlt
    repeat' (first
      | ((with_reducible refine Side.intro ?_) <;> (first
      | omega
      | exact Nat.le_of_ble_eq_true rfl
      ))
      | ((conv => whnf) <;> (first
      | (with_reducible refine and_same ?_)
      | (with_reducible refine and_side ?_ ?_)
      | (with_reducible refine Br.yes (by omega) ?_)
      | (with_reducible refine Br.yes (by ((with_reducible refine And.intro ?_ ?_); (repeat' (first | with_reducible rfl | exact True.intro | with_reducible refine And.intro ?_ ?_ | omega | assumption)); (first | done | fail))) ?_)
      | (with_reducible refine nthR_ss1 (by assumption) ?_)
      | (with_reducible refine ia_sl ?_ ?_)
      | (with_reducible refine lenR_sl ?_)
      ))
      )
    all_goals (conv => whnf)
    all_goals (try dsimp only)
    all_goals first
      | exact ⟨(k + 1, _), rfl, rfl, by dsimp only; omega, by dsimp only; omega⟩
      | trace_state
  · repeat' (first
      | ((with_reducible refine Side.intro ?_) <;> (first
      | (simp only [List.append_nil, List.nil_append, List.map_nil]; first | exact List.nodup_nil | exact nodup_bid1 _ | exact nodup_bid2 (by assumption))
      | ((first | refine fresh_tup ?_ | skip); (repeat (first | exact fresh_ss _ |  exact FreshA.sl _ _ FreshA_bs | exact FreshA.sl _ _ FreshA_is | exact FreshA.nils | exact FreshA.nilp | exact FreshA.int _ _ | exact FreshA.bool _ | exact FreshA.str _ | exact fresh_nil | refine fresh_cons ?_ ?_ | with_reducible refine fresh_aggR ?_ | with_reducible refine fresh_agg ?_ | with_reducible exact fresh_nilA | with_reducible refine fresh_consA ?_ ?_)); done)
      ))
      | ((conv => whnf) <;> (first
      | (with_reducible refine and_same ?_)
      | (with_reducible refine and_side ?_ ?_)
      | (with_reducible refine Br.no (by omega) ?_)
      | (with_reducible refine NOut.lit ?_)
      | (with_reducible refine lenR_sl ?_)
      ))
      )
    all_goals (conv => whnf)
    all_goals (try dsimp only)
    all_goals exact ret_bool rfl
theorem TSame_call (l : List Sl) (hs : l.length ≤ 4611686018) {σ : AH} {x y : AV} (hx : Looks σ x (.sl 5 (ss l) false)) (hy : Looks σ y (.sl 5 (ss l) false)) {Q : AV → AH → Prop} (h : ∀ σ', Gr σ σ' none → Q (.bool true) σ') : CallS Try.prog F.joistref08_Same [x, y] σ Q :=
  call_one (TSame_ok l hs) (.cons hx (.cons hy .nil)) rfl h
def Sl.w : Sl := ⟨-7, false, false, 0, 0⟩
def spo (l : List Sl) (k : Nat) : List Sl := List.replicate k Sl.w ++ l.drop k
theorem spo_length (l : List Sl) (k : Nat) (h : k ≤ l.length) : (spo l k).length = l.length := by simp [spo]; omega
theorem spo_set (l : List Sl) (k : Nat) (h : k < l.length) : (spo l k).set k Sl.w = spo l (k + 1) := by
  unfold spo
  rw [List.drop_eq_getElem_cons h, List.replicate_succ', List.append_assoc]
  have : ∀ (A B : List Sl) (c b : Sl), A.length = k → (A ++ c :: B).set k b = A ++ b :: B := by
    intro A B c b h; subst h; simp
  rw [this _ _ _ _ (by simp)]
  rfl
theorem spoil_val (l : List Sl) (hs : l.length ≤ 4611686018) {σ : AH} {x : AV} (hx : Own σ 5 x (ss l)) {Q : AV → AH → Prop} (h : ∀ σ', Gr σ σ' x.bid → Own σ' 5 x (ss (spo l l.length)) → Q (.tup []) σ') : CallS Try.prog F.joistlaw08_spoil [x] σ Q := by
  have hn := ss_length l
  refine call_of_body mixed fc_joistlaw08_spoil_ok (by simp [fc_joistlaw08_spoil]) ?_
  skip
  all_goals (conv => whnf)
  all_goals (try dsimp only)
  rcases hx with ⟨rfl, h0⟩ | ⟨id, gen, sp, rfl, hb⟩
  · have hl : l.length = 0 := by rw [h0] at hn; exact hn.symm
    refine loop_at (α := Unit) (fun a => [(2, .int .i64 0)]) (fun a => σ) (fun a => True) (fun a => 0) () trivial rfl rfl ?_
    rintro ⟨⟩ _
    repeat' (first
      | ((conv => whnf) <;> (first
      | (with_reducible refine and_same ?_)
      | (with_reducible refine Br.no (by omega) ?_)
      | (with_reducible refine lenR_nils ?_)
      ))
      )
    all_goals (conv => whnf)
    all_goals (try dsimp only)
    refine h _ (Gr.refl _ _) (.inl ⟨rfl, ?_⟩)
    have : l = [] := List.length_eq_zero_iff.1 hl
    subst this; rfl
  · refine loop_at (α := Nat × AH) (fun a => [(2, .int .i64 a.1)]) (fun a => a.2) (fun a => a.1 ≤ l.length ∧ Gr σ a.2 (some id) ∧ a.2[id]? = some { sz := 5, els := ss (spo l a.1) ++ sp, gen := gen, wr := true, pure := true }) (fun a => l.length - a.1) (0, σ) ⟨by dsimp only; omega, Gr.refl _ _, hb⟩ rfl rfl ?_
    rintro ⟨k, τ⟩ ⟨hk, hg, hb1⟩
    dsimp only at hk hg hb1 ⊢
    have hsl := spo_length l k hk
    have hsn := ss_length (spo l k)
    by_cases hlt : k < l.length
    · have hp := some_gat (l := spo l k) (k := (k : Int).toNat) (by omega)
      generalize gat (spo l k) (k : Int).toNat = s at *
      obtain ⟨g, lv, tw, a, n⟩ := s
      have e : (ss (spo l k) ++ sp).set (0 + (k : Int).toNat) [AV.int .i64 (-7), AV.bool false, AV.bool false, AV.int .i64 0, AV.int .i64 0] = ss (spo l (k + 1)) ++ sp := by
        rw [List.set_append_left _ _ (by omega), show 0 + (k : Int).toNat = k from by omega]
        have := ss_set (spo l k) k Sl.w
        rw [spo_set l k hlt] at this
        rw [← this]; rfl
      repeat' (first
        | ((with_reducible refine Side.intro ?_) <;> (first
        | omega
        | exact Nat.le_of_ble_eq_true rfl
        | exact rfl
        ))
        | ((conv => whnf) <;> (first
        | (with_reducible refine and_same ?_)
        | (with_reducible refine and_side ?_ ?_)
        | (with_reducible refine Br.yes (by omega) ?_)
        | ((with_reducible apply blkAt_intro) ; (focus (first
        | ((repeat (first
        | assumption
        )); done)
        )) ; (focus (first | rfl | assumption | omega)) ; (try dsimp only))
        | (with_reducible refine nthR_ss1 (by assumption) ?_)
        | (with_reducible refine IaW.of ?_)
        | (with_reducible refine nthR_z ?_)
        | (with_reducible refine nthR_left (by first | omega | (simp only [List.length_append, List.length_cons, List.length_nil, List.length_take, List.length_drop, bs_length]; omega)) ?_)
        | (with_reducible refine lenR_rsl ?_)
        ))
        )
      all_goals (conv => whnf)
      all_goals (try dsimp only)
      all_goals
        refine ⟨(k + 1, _), rfl, rfl, ⟨by dsimp only; omega, hg.trans (Gr.set _ _ _), ?_⟩, by dsimp only; omega⟩
        dsimp only
        rw [get_set hb1, ← e]
        rfl
    · have hkl : k = l.length := by omega
      subst hkl
      repeat' (first
        | ((conv => whnf) <;> (first
        | (with_reducible refine and_same ?_)
        | (with_reducible refine Br.no (by omega) ?_)
        | ((with_reducible apply blkAt_intro) ; (focus (first
        | ((repeat (first
        | assumption
        )); done)
        )) ; (focus (first | rfl | assumption | omega)) ; (try dsimp only))
        | (with_reducible refine lenR_rsl ?_)
        ))
        )
      all_goals (conv => whnf)
      all_goals (try dsimp only)
      refine h _ hg (.inr ⟨id, gen, sp, by rw [hn, hsn, hsl], hb1⟩)
end Go.Proofs.Ytbmocdcfcdmmkaa
