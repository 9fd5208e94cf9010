import Derived.Test.YtbmocdcfcdmmkaaPtable
namespace Go.Proofs.Ytbmocdcfcdmmkaa
open Go Go.Proofs.Ytbmocdcfcdmmkaa.V
set_option maxRecDepth 20000
attribute [local irreducible] CallS AOK AOKn ALoop Side Ref.ok
/-! ### Open slots -/
def chain (l : List Sl) (k : Nat) : List Nat := (List.range k).filter fun i => opn (gat l i)
def chI (l : List Sl) (k : Nat) : List Int := (chain l k).map fun i => ((i : Nat) : Int)
theorem chain_yes {l : List Sl} {k : Nat} (h : opn (gat l k) = true) : chain l (k + 1) = chain l k ++ [k] := by
  simp [chain, List.range_succ, List.filter_append, h]
theorem chain_no {l : List Sl} {k : Nat} (h : opn (gat l k) = false) : chain l (k + 1) = chain l k := by
  simp [chain, List.range_succ, List.filter_append, h]
theorem chI_yes {l : List Sl} {k : Nat} (h : opn (gat l k) = true) : chI l (k + 1) = chI l k ++ [(k : Int)] := by
  simp [chI, chain_yes h]
theorem chI_no {l : List Sl} {k : Nat} (h : opn (gat l k) = false) : chI l (k + 1) = chI l k := by
  simp [chI, chain_no h]
theorem chain_length (l : List Sl) (k : Nat) : (chain l k).length ≤ k := by
  have := List.length_filter_le (fun i => opn (gat l i)) (List.range k)
  simpa [chain] using this
theorem chI_length (l : List Sl) (k : Nat) : (chI l k).length ≤ k := by
  simpa [chI] using chain_length l k
theorem chain_prefix (l : List Sl) (m : Nat) : ∀ n, m ≤ n → ∃ t, chain l n = chain l m ++ t := by
  intro n h
  induction n with
  | zero => exact ⟨[], by rw [show m = 0 from by omega]; simp⟩
  | succ n ih =>
    by_cases e : m = n + 1
    · exact ⟨[], by rw [e]; simp⟩
    · obtain ⟨t, ht⟩ := ih (by omega)
      cases hb : opn (gat l n)
      · exact ⟨t, by rw [chain_no hb, ht]⟩
      · exact ⟨t ++ [n], by rw [chain_yes hb, ht, List.append_assoc]⟩
def nxtOk (l : List Sl) : Bool := !(chain l l.length).isEmpty
def nxtV (l : List Sl) : Nat := (chain l l.length).headD 0
theorem nxt_found {l : List Sl} {k : Nat} (hk : k < l.length) (h0 : chain l k = []) (h : opn (gat l k) = true) : nxtOk l = true ∧ nxtV l = k := by
  obtain ⟨t, ht⟩ := chain_prefix l (k + 1) l.length (by omega)
  rw [chain_yes h, h0] at ht
  simp [nxtOk, nxtV, ht]
theorem nxt_none {l : List Sl} (h : chain l l.length = []) : nxtOk l = false ∧ nxtV l = 0 := by simp [nxtOk, nxtV, h]
theorem nxt_lt {l : List Sl} (h : nxtOk l = true) : nxtV l < l.length ∧ opn (gat l (nxtV l)) = true := by
  unfold nxtOk nxtV at *
  cases hc : chain l l.length with
  | nil => simp [hc] at h
  | cons a r =>
    have ha : a ∈ chain l l.length := by rw [hc]; simp
    simp only [chain, List.mem_filter, List.mem_range] at ha
    simpa using ha
theorem open_ok (s : Sl) : AOKn Try.prog F.table_open [s.av] fun y => y = .bool (opn s) := by
  obtain ⟨g, lv, tw, a, n⟩ := s
  show AOKn _ _ [.agg [.int .i64 g, .bool lv, .bool tw, .int .i64 a, .int .i64 n]] _
  refine AOKn.by_steps mixed fc_table_open_ok (by simp [fc_table_open]) ?_
  cases lv
  · by_cases h : g = 65535
    · have e : opn ⟨g, false, tw, a, n⟩ = false := by simp [opn, h]
      rw [e]
      repeat' (first
        | ((with_reducible refine Side.intro ?_) <;> (first
        | (simp only [List.append_nil, List.nil_append, List.map_nil]; first | exact List.nodup_nil | exact nodup_bid1 _ | exact nodup_bid2 (by assumption))
        | ((first | refine fresh_tup ?_ | skip); (repeat (first | exact fresh_ss _ |  exact FreshA.sl _ _ FreshA_bs | exact FreshA.sl _ _ FreshA_is | exact FreshA.nils | exact FreshA.nilp | exact FreshA.int _ _ | exact FreshA.bool _ | exact FreshA.str _ | exact fresh_nil | refine fresh_cons ?_ ?_ | with_reducible refine fresh_aggR ?_ | with_reducible refine fresh_agg ?_ | with_reducible exact fresh_nilA | with_reducible refine fresh_consA ?_ ?_)); done)
        | exact rfl
        ))
        | ((conv => whnf) <;> (first
        | (with_reducible refine and_same ?_)
        | (with_reducible refine and_side ?_ ?_)
        | (with_reducible refine Br.no (by omega) ?_)
        | ((with_reducible apply blkAt_intro) ; (focus (first
        | exact rfl
        )) ; (focus (first | rfl | assumption | omega)) ; (try dsimp only))
        | (with_reducible refine NOut.lit ?_)
        ))
        )
      all_goals (conv => whnf)
      all_goals (try dsimp only)
      all_goals exact ret_bool rfl
    · have e : opn ⟨g, false, tw, a, n⟩ = true := by simp [opn, h]
      rw [e]
      repeat' (first
        | ((with_reducible refine Side.intro ?_) <;> (first
        | (simp only [List.append_nil, List.nil_append, List.map_nil]; first | exact List.nodup_nil | exact nodup_bid1 _ | exact nodup_bid2 (by assumption))
        | ((first | refine fresh_tup ?_ | skip); (repeat (first | exact fresh_ss _ |  exact FreshA.sl _ _ FreshA_bs | exact FreshA.sl _ _ FreshA_is | exact FreshA.nils | exact FreshA.nilp | exact FreshA.int _ _ | exact FreshA.bool _ | exact FreshA.str _ | exact fresh_nil | refine fresh_cons ?_ ?_ | with_reducible refine fresh_aggR ?_ | with_reducible refine fresh_agg ?_ | with_reducible exact fresh_nilA | with_reducible refine fresh_consA ?_ ?_)); done)
        | exact rfl
        ))
        | ((conv => whnf) <;> (first
        | (with_reducible refine and_same ?_)
        | (with_reducible refine and_side ?_ ?_)
        | (with_reducible refine Br.yes (by omega) ?_)
        | ((with_reducible apply blkAt_intro) ; (focus (first
        | exact rfl
        )) ; (focus (first | rfl | assumption | omega)) ; (try dsimp only))
        | (with_reducible refine NOut.lit ?_)
        ))
        )
      all_goals (conv => whnf)
      all_goals (try dsimp only)
      all_goals exact ret_bool rfl
  · have e : opn ⟨g, true, tw, a, n⟩ = false := by simp [opn]
    rw [e]
    repeat' (first
      | ((with_reducible refine Side.intro ?_) <;> (first
      | (simp only [List.append_nil, List.nil_append, List.map_nil]; first | exact List.nodup_nil | exact nodup_bid1 _ | exact nodup_bid2 (by assumption))
      | ((first | refine fresh_tup ?_ | skip); (repeat (first | exact fresh_ss _ |  exact FreshA.sl _ _ FreshA_bs | exact FreshA.sl _ _ FreshA_is | exact FreshA.nils | exact FreshA.nilp | exact FreshA.int _ _ | exact FreshA.bool _ | exact FreshA.str _ | exact fresh_nil | refine fresh_cons ?_ ?_ | with_reducible refine fresh_aggR ?_ | with_reducible refine fresh_agg ?_ | with_reducible exact fresh_nilA | with_reducible refine fresh_consA ?_ ?_)); done)
      | exact rfl
      ))
      | ((conv => whnf) <;> (first
      | (with_reducible refine and_side ?_ ?_)
      | ((with_reducible apply blkAt_intro) ; (focus (first
      | exact rfl
      )) ; (focus (first | rfl | assumption | omega)) ; (try dsimp only))
      | (with_reducible refine NOut.lit ?_)
      ))
      )
    all_goals (conv => whnf)
    all_goals (try dsimp only)
    all_goals exact ret_bool rfl
theorem open_call (s : Sl) {σ : AH} {Q : AV → AH → Prop} (h : ∀ σ', Gr σ σ' none → Q (.bool (opn s)) σ') : CallS Try.prog F.table_open [s.av] σ Q :=
  call_one (open_ok s) (.cons (.same rfl) .nil) rfl h
theorem Next_ok (l : List Sl) (hs : l.length ≤ 4611686018427) : AOKn Try.prog F.table_Next [.sl 5 (ss l) false] fun y => y = .tup [.int .i64 (nxtV l : Nat), .bool (nxtOk l)] := by
  have hn := ss_length l
  refine AOKn.by_steps mixed fc_table_Next_ok (by simp [fc_table_Next]) ?_
  repeat' (first
    | ((conv => whnf) <;> (first
    | (with_reducible refine lenR_sl ?_)
    ))
    )
  all_goals (conv => whnf)
  all_goals (try dsimp only)
  refine loop_at (α := Nat × AH) (fun a => [(8, .int .i64 a.1)]) (fun a => a.2) (fun a => a.1 ≤ l.length ∧ chain l a.1 = []) (fun a => l.length - a.1) (0, []) ⟨by omega, rfl⟩ rfl rfl ?_
  rintro ⟨k, σ⟩ ⟨hk, ha⟩
  dsimp only at hk ha ⊢
  by_cases hlt : k < l.length
  · obtain ⟨s, hp, hp'⟩ := getN hlt
    have hgs := gat_some hp'
    repeat' (first
      | ((with_reducible refine Side.intro ?_) <;> (first
      | omega
      | exact Nat.le_of_ble_eq_true rfl
      | exact rfl
      ))
      | ((conv => whnf) <;> (first
      | (with_reducible refine and_same ?_)
      | (with_reducible refine and_side ?_ ?_)
      | (with_reducible refine Br.yes (by omega) ?_)
      | ((with_reducible apply blkAt_intro) ; (focus (first
      | ((repeat (first
      | exact get_new
      | exact get_set get_new
      )); done)
      )) ; (focus (first | rfl | assumption | omega)) ; (try dsimp only))
      | (with_reducible refine nthR_ss1 (by assumption) ?_)
      | (with_reducible refine ia_sl ?_ ?_)
      ))
      )
    all_goals (conv => whnf)
    all_goals (try dsimp only)
    refine open_call s fun H1 hg1 => ?_
    cases hb : opn s
    · repeat' (first
        | ((conv => whnf) <;> (first
        | (with_reducible refine and_same ?_)
        | (with_reducible refine Br.yes (by omega) ?_)
        ))
        )
      all_goals (conv => whnf)
      all_goals (try dsimp only)
      exact ⟨(k + 1, _), rfl, rfl, ⟨by dsimp only; omega, by rw [chain_no (by rw [hgs]; exact hb)]; exact ha⟩, by dsimp only; omega⟩
    · obtain ⟨e1, e2⟩ := nxt_found hlt ha (by rw [hgs]; exact hb)
      rw [e1, e2]
      repeat' (first
        | ((with_reducible refine Side.intro ?_) <;> (first
        | (simp only [List.append_nil, List.nil_append, List.map_nil]; first | exact List.nodup_nil | exact nodup_bid1 _ | exact nodup_bid2 (by assumption))
        | ((first | refine fresh_tup ?_ | skip); (repeat (first | exact fresh_ss _ |  exact FreshA.sl _ _ FreshA_bs | exact FreshA.sl _ _ FreshA_is | exact FreshA.nils | exact FreshA.nilp | exact FreshA.int _ _ | exact FreshA.bool _ | exact FreshA.str _ | exact fresh_nil | refine fresh_cons ?_ ?_ | with_reducible refine fresh_aggR ?_ | with_reducible refine fresh_agg ?_ | with_reducible exact fresh_nilA | with_reducible refine fresh_consA ?_ ?_)); done)
        ))
        | ((conv => whnf) <;> (first
        | (with_reducible refine and_side ?_ ?_)
        | (with_reducible refine NOut.lit ?_)
        ))
        )
      all_goals (conv => whnf)
      all_goals (try dsimp only)
      exact ret_same rfl
  · have hkl : k = l.length := by omega
    subst hkl
    obtain ⟨e1, e2⟩ := nxt_none ha
    rw [e1, e2]
    repeat' (first
      | ((with_reducible refine Side.intro ?_) <;> (first
      | (simp only [List.append_nil, List.nil_append, List.map_nil]; first | exact List.nodup_nil | exact nodup_bid1 _ | exact nodup_bid2 (by assumption))
      | ((first | refine fresh_tup ?_ | skip); (repeat (first | exact fresh_ss _ |  exact FreshA.sl _ _ FreshA_bs | exact FreshA.sl _ _ FreshA_is | exact FreshA.nils | exact FreshA.nilp | exact FreshA.int _ _ | exact FreshA.bool _ | exact FreshA.str _ | exact fresh_nil | refine fresh_cons ?_ ?_ | with_reducible refine fresh_aggR ?_ | with_reducible refine fresh_agg ?_ | with_reducible exact fresh_nilA | with_reducible refine fresh_consA ?_ ?_)); done)
      ))
      | ((conv => whnf) <;> (first
      | (with_reducible refine and_same ?_)
      | (with_reducible refine and_side ?_ ?_)
      | (with_reducible refine Br.no (by omega) ?_)
      | (with_reducible refine NOut.lit ?_)
      ))
      )
    all_goals (conv => whnf)
    all_goals (try dsimp only)
    exact ret_same rfl
theorem Next_call (l : List Sl) (hs : l.length ≤ 4611686018427) {σ : AH} {x : AV} (hx : Looks σ x (.sl 5 (ss l) false)) {Q : AV → AH → Prop} (h : ∀ σ', Gr σ σ' none → Q (.tup [.int .i64 (nxtV l : Nat), .bool (nxtOk l)]) σ') : CallS Try.prog F.table_Next [x] σ Q :=
  call_two (Next_ok l hs) (.cons hx .nil) rfl rfl h
theorem Chain_ok (l : List Sl) (hs : l.length ≤ 4611686018) : AOKn Try.prog F.table_Chain [.sl 5 (ss l) false] fun y => y = .sl 1 (is (chI l l.length)) true := by
  have hn := ss_length l
  refine AOKn.by_steps mixed fc_table_Chain_ok (by simp [fc_table_Chain]) ?_
  repeat' (first
    | ((conv => whnf) <;> (first
    | (with_reducible refine lenR_sl ?_)
    ))
    )
  all_goals (conv => whnf)
  all_goals (try dsimp only)
  refine loop_at (α := Nat × AH × AV) (fun a => [(3, a.2.2), (8, .int .i64 a.1)]) (fun a => a.2.1) (fun a => a.1 ≤ l.length ∧ Own a.2.1 1 a.2.2 (is (chI l a.1))) (fun a => l.length - a.1) (0, [], .nils) ⟨by omega, Own.nil _ _⟩ rfl rfl ?_
  rintro ⟨k, σ, acc⟩ ⟨hk, hacc⟩
  dsimp only at hk hacc ⊢
  by_cases hlt : k < l.length
  · obtain ⟨s, hp, hp'⟩ := getN hlt
    have hgs := gat_some hp'
    repeat' (first
      | ((with_reducible refine Side.intro ?_) <;> (first
      | omega
      | exact Nat.le_of_ble_eq_true rfl
      | exact rfl
      ))
      | ((conv => whnf) <;> (first
      | (with_reducible refine and_same ?_)
      | (with_reducible refine and_side ?_ ?_)
      | (with_reducible refine Br.yes (by omega) ?_)
      | ((with_reducible apply blkAt_intro) ; (focus (first
      | ((repeat (first
      | exact get_new
      | exact get_set get_new
      )); done)
      )) ; (focus (first | rfl | assumption | omega)) ; (try dsimp only))
      | (with_reducible refine nthR_ss1 (by assumption) ?_)
      | (with_reducible refine ia_sl ?_ ?_)
      ))
      )
    all_goals (conv => whnf)
    all_goals (try dsimp only)
    refine open_call s fun H1 hg1 => ?_
    cases hb : opn s
    · repeat' (first
        | ((conv => whnf) <;> (first
        | (with_reducible refine and_same ?_)
        | (with_reducible refine Br.yes (by omega) ?_)
        ))
        )
      all_goals (conv => whnf)
      all_goals (try dsimp only)
      exact ⟨(k + 1, _, _), rfl, rfl, ⟨by dsimp only; omega, by dsimp only; rw [chI_no (by rw [hgs]; exact hb)]; exact hacc.keepN (by (repeat (first
            | exact Gr.refl _ _
            | refine Gr.setNew ?_ (by first | exact Nat.le_refl _ | (simp only [newB_length, List.length_set, List.length_append, List.length_singleton]; omega) | omega) _
            | refine Gr.addN ?_ _
            | refine Gr.trans ?_ (by assumption)
            )))⟩, by dsimp only; omega⟩
    · have hcl := chI_length l k
      have hil := is_length (chI l k)
      repeat' (first
        | ((with_reducible refine Side.intro ?_) <;> (first
        | omega
        | exact Nat.le_of_ble_eq_true rfl
        | exact rfl
        ))
        | ((conv => whnf) <;> (first
        | (with_reducible refine and_same ?_)
        | (with_reducible refine and_side ?_ ?_)
        | ((with_reducible apply blkAt_intro) ; (focus (first
        | ((repeat (first
        | exact get_new
        )); done)
        )) ; (focus (first | rfl | assumption | omega)) ; (try dsimp only))
        | (with_reducible refine rowsR_rsl ?_)
        ))
        )
      all_goals (conv => whnf)
      all_goals (try dsimp only)
      refine appendR_own (rows := is (chI l k)) (hacc.keepN (by (repeat (first
            | exact Gr.refl _ _
            | refine Gr.setNew ?_ (by first | exact Nat.le_refl _ | (simp only [newB_length, List.length_set, List.length_append, List.length_singleton]; omega) | omega) _
            | refine Gr.addN ?_ _
            | refine Gr.trans ?_ (by assumption)
            )))) (by rw [hil]; simp only [List.length_take, List.length_drop, List.length_set, List.length_replicate, List.length_cons, List.length_nil]; omega) ?_
      intro acc' σ' ho' hg' hb'
      repeat' (first
        | ((conv => whnf) <;> (first
        | (with_reducible refine and_same ?_)
        | (with_reducible refine Br.yes (by omega) ?_)
        ))
        )
      all_goals (conv => whnf)
      all_goals (try dsimp only)
      refine ⟨(k + 1, σ', acc'), rfl, rfl, ⟨by dsimp only; omega, ?_⟩, by dsimp only; omega⟩
      dsimp only
      rw [chI_yes (by rw [hgs]; exact hb), ← is_append]
      refine (cast (congrArg (fun r => Own σ' 1 acc' (_ ++ r)) ?_) ho')
      simp [is, AV.cells]
  · have hkl : k = l.length := by omega
    subst hkl
    rcases hacc with ⟨rfl, h0⟩ | ⟨id, gen, sp, rfl, hb⟩
    · repeat' (first
        | ((with_reducible refine Side.intro ?_) <;> (first
        | (simp only [List.append_nil, List.nil_append, List.map_nil]; first | exact List.nodup_nil | exact nodup_bid1 _ | exact nodup_bid2 (by assumption))
        | ((first | refine fresh_tup ?_ | skip); (repeat (first | exact fresh_ss _ |  exact FreshA.sl _ _ FreshA_bs | exact FreshA.sl _ _ FreshA_is | exact FreshA.nils | exact FreshA.nilp | exact FreshA.int _ _ | exact FreshA.bool _ | exact FreshA.str _ | exact fresh_nil | refine fresh_cons ?_ ?_ | with_reducible refine fresh_aggR ?_ | with_reducible refine fresh_agg ?_ | with_reducible exact fresh_nilA | with_reducible refine fresh_consA ?_ ?_)); done)
        ))
        | ((conv => whnf) <;> (first
        | (with_reducible refine and_same ?_)
        | (with_reducible refine and_side ?_ ?_)
        | (with_reducible refine Br.no (by omega) ?_)
        | (with_reducible refine NOut.lit ?_)
        ))
        )
      all_goals (conv => whnf)
      all_goals (try dsimp only)
      exact ret_nil h0
    · repeat' (first
        | ((with_reducible refine Side.intro ?_) <;> (first
        | (simp only [bs_length, List.length_append, List.length_cons, List.length_nil, List.length_take, List.length_drop, List.length_set, List.length_replicate]; omega)
        | (simp; done)
        ))
        | ((conv => whnf) <;> (first
        | (with_reducible refine and_same ?_)
        | (with_reducible refine and_side ?_ ?_)
        | (with_reducible refine Br.no (by omega) ?_)
        | ((with_reducible apply blkAt_intro) ; (focus (first
        | ((repeat (first
        | assumption
        )); done)
        )) ; (focus (first | rfl | assumption | omega)) ; (try dsimp only))
        | (with_reducible refine NOut.lit ?_)
        ))
        )
      all_goals (conv => whnf)
      all_goals (try dsimp only)
      all_goals rw [List.take_left]
      · exact ret_same rfl
      · exact Side.intro (FreshA.sl _ _ FreshA_is)
theorem Chain_call (l : List Sl) (hs : l.length ≤ 4611686018) {σ : AH} {x : AV} (hx : Looks σ x (.sl 5 (ss l) false)) {Q : AV → AH → Prop} (h : ∀ σ' y, Gr σ σ' none → Own σ' 1 y (is (chI l l.length)) → New σ y → Q y σ') : CallS Try.prog F.table_Chain [x] σ Q :=
  call_sl (Chain_ok l hs) (.cons hx .nil) h
theorem RChain_ok (l : List Sl) (hs : l.length ≤ 4611686018) : AOKn Try.prog F.joistref08_Chain [.sl 5 (ss l) false] fun y => y = .sl 1 (is (chI l l.length)) true := by
  have hn := ss_length l
  refine AOKn.by_steps mixed fc_joistref08_Chain_ok (by simp [fc_joistref08_Chain]) ?_
  skip
  all_goals (conv => whnf)
  all_goals (try dsimp only)
  refine loop_at (α := Nat × AH × AV) (fun a => [(3, a.2.2), (4, .int .i64 a.1)]) (fun a => a.2.1) (fun a => a.1 ≤ l.length ∧ Own a.2.1 1 a.2.2 (is (chI l a.1))) (fun a => l.length - a.1) (0, [], .nils) ⟨by omega, Own.nil _ _⟩ rfl rfl ?_
  rintro ⟨k, σ, acc⟩ ⟨hk, hacc⟩
  dsimp only at hk hacc ⊢
  by_cases hlt : k < l.length
  · obtain ⟨s, hp, hp'⟩ := getN hlt
    have hgs := gat_some hp'
    have hcl := chI_length l k
    have hil := is_length (chI l k)
    obtain ⟨g, lv, tw, a, n⟩ := s
    cases hb : opn ⟨g, lv, tw, a, n⟩
    · have hno := chI_no (l := l) (k := k) (by rw [hgs]; exact hb)
      cases lv
      · have hg : g = 65535 := by simpa [opn] using hb
        repeat' (first
          | ((with_reducible refine Side.intro ?_) <;> (first
          | omega
          ))
          | ((conv => whnf) <;> (first
          | (with_reducible refine and_same ?_)
          | (with_reducible refine Br.yes (by omega) ?_)
          | (with_reducible refine Br.no (by omega) ?_)
          | (with_reducible refine nthR_ss1 (by assumption) ?_)
          | (with_reducible refine ia_sl ?_ ?_)
          | (with_reducible refine lenR_sl ?_)
          ))
          )
        all_goals (conv => whnf)
        all_goals (try dsimp only)
        exact ⟨(k + 1, _, _), rfl, rfl, ⟨by dsimp only; omega, by dsimp only; rw [hno]; exact hacc.keepN (by (repeat (first
              | exact Gr.refl _ _
              )))⟩, by dsimp only; omega⟩
      · repeat' (first
          | ((with_reducible refine Side.intro ?_) <;> (first
          | omega
          ))
          | ((conv => whnf) <;> (first
          | (with_reducible refine and_same ?_)
          | (with_reducible refine Br.yes (by omega) ?_)
          | (with_reducible refine nthR_ss1 (by assumption) ?_)
          | (with_reducible refine ia_sl ?_ ?_)
          | (with_reducible refine lenR_sl ?_)
          ))
          )
        all_goals (conv => whnf)
        all_goals (try dsimp only)
        exact ⟨(k + 1, _, _), rfl, rfl, ⟨by dsimp only; omega, by dsimp only; rw [hno]; exact hacc.keepN (by (repeat (first
              | exact Gr.refl _ _
              )))⟩, by dsimp only; omega⟩
    · have hyes := chI_yes (l := l) (k := k) (by rw [hgs]; exact hb)
      have hg : lv = false ∧ g ≠ 65535 := by simpa [opn] using hb
      obtain ⟨rfl, hg⟩ := hg
      repeat' (first
        | ((with_reducible refine Side.intro ?_) <;> (first
        | omega
        | exact Nat.le_of_ble_eq_true rfl
        | exact rfl
        ))
        | ((conv => whnf) <;> (first
        | (with_reducible refine and_same ?_)
        | (with_reducible refine and_side ?_ ?_)
        | (with_reducible refine Br.yes (by omega) ?_)
        | ((with_reducible apply blkAt_intro) ; (focus (first
        | ((repeat (first
        | exact get_new
        )); done)
        )) ; (focus (first | rfl | assumption | omega)) ; (try dsimp only))
        | (with_reducible refine nthR_ss1 (by assumption) ?_)
        | (with_reducible refine ia_sl ?_ ?_)
        | (with_reducible refine lenR_sl ?_)
        | (with_reducible refine rowsR_rsl ?_)
        ))
        )
      all_goals (conv => whnf)
      all_goals (try dsimp only)
      refine appendR_own (rows := is (chI l k)) (hacc.keepN (by (repeat (first
            | exact Gr.refl _ _
            | refine Gr.addN ?_ _
            )))) (by rw [hil]; simp only [List.length_take, List.length_drop, List.length_set, List.length_replicate, List.length_cons, List.length_nil]; omega) ?_
      intro acc' σ' ho' hg' hb'
      repeat' (first
        | ((conv => whnf) <;> (first
        | (with_reducible refine and_same ?_)
        | (with_reducible refine Br.yes (by omega) ?_)
        ))
        )
      all_goals (conv => whnf)
      all_goals (try dsimp only)
      refine ⟨(k + 1, σ', acc'), rfl, rfl, ⟨by dsimp only; omega, ?_⟩, by dsimp only; omega⟩
      dsimp only
      rw [hyes, ← is_append]
      refine (cast (congrArg (fun r => Own σ' 1 acc' (_ ++ r)) ?_) ho')
      simp [is, AV.cells]
  · have hkl : k = l.length := by omega
    subst hkl
    rcases hacc with ⟨rfl, h0⟩ | ⟨id, gen, sp, rfl, hb⟩
    · repeat' (first
        | ((with_reducible refine Side.intro ?_) <;> (first
        | (simp only [List.append_nil, List.nil_append, List.map_nil]; first | exact List.nodup_nil | exact nodup_bid1 _ | exact nodup_bid2 (by assumption))
        | ((first | refine fresh_tup ?_ | skip); (repeat (first | exact fresh_ss _ |  exact FreshA.sl _ _ FreshA_bs | exact FreshA.sl _ _ FreshA_is | exact FreshA.nils | exact FreshA.nilp | exact FreshA.int _ _ | exact FreshA.bool _ | exact FreshA.str _ | exact fresh_nil | refine fresh_cons ?_ ?_ | with_reducible refine fresh_aggR ?_ | with_reducible refine fresh_agg ?_ | with_reducible exact fresh_nilA | with_reducible refine fresh_consA ?_ ?_)); done)
        ))
        | ((conv => whnf) <;> (first
        | (with_reducible refine and_same ?_)
        | (with_reducible refine and_side ?_ ?_)
        | (with_reducible refine Br.no (by omega) ?_)
        | (with_reducible refine NOut.lit ?_)
        | (with_reducible refine lenR_sl ?_)
        ))
        )
      all_goals (conv => whnf)
      all_goals (try dsimp only)
      exact ret_nil h0
    · repeat' (first
        | ((with_reducible refine Side.intro ?_) <;> (first
        | (simp only [bs_length, List.length_append, List.length_cons, List.length_nil, List.length_take, List.length_drop, List.length_set, List.length_replicate]; omega)
        | (simp; done)
        ))
        | ((conv => whnf) <;> (first
        | (with_reducible refine and_same ?_)
        | (with_reducible refine and_side ?_ ?_)
        | (with_reducible refine Br.no (by omega) ?_)
        | ((with_reducible apply blkAt_intro) ; (focus (first
        | ((repeat (first
        | assumption
        )); done)
        )) ; (focus (first | rfl | assumption | omega)) ; (try dsimp only))
        | (with_reducible refine NOut.lit ?_)
        | (with_reducible refine lenR_sl ?_)
        ))
        )
      all_goals (conv => whnf)
      all_goals (try dsimp only)
      all_goals rw [List.take_left]
      · exact ret_same rfl
      · exact Side.intro (FreshA.sl _ _ FreshA_is)
theorem RChain_call (l : List Sl) (hs : l.length ≤ 4611686018) {σ : AH} {x : AV} (hx : Looks σ x (.sl 5 (ss l) false)) {Q : AV → AH → Prop} (h : ∀ σ' y, Gr σ σ' none → Own σ' 1 y (is (chI l l.length)) → New σ y → Q y σ') : CallS Try.prog F.joistref08_Chain [x] σ Q :=
  call_sl (RChain_ok l hs) (.cons hx .nil) h
theorem RNext_ok (l : List Sl) (hs : l.length ≤ 4611686018) : AOKn Try.prog F.joistref08_Next [.sl 5 (ss l) false] fun y => y = .tup [.int .i64 (nxtV l : Nat), .bool (nxtOk l)] := by
  have hn := ss_length l
  refine AOKn.by_steps mixed fc_joistref08_Next_ok (by simp [fc_joistref08_Next]) ?_
  skip
  all_goals (conv => whnf)
  all_goals (try dsimp only)
  refine RChain_call l hs (Looks.ss _ _ _) fun H1 y hg1 hy hyn => ?_
  have hil := is_length (chI l l.length)
  cases hc : chain l l.length with
  | nil =>
    obtain ⟨e1, e2⟩ := nxt_none hc
    have hz : chI l l.length = [] := by simp [chI, hc]
    rw [e1, e2]
    rw [hz] at hil hy
    have hil0 : (is []).length = 0 := rfl
    repeat' (first
      | ((with_reducible refine Side.intro ?_) <;> (first
      | (simp only [List.append_nil, List.nil_append, List.map_nil]; first | exact List.nodup_nil | exact nodup_bid1 _ | exact nodup_bid2 (by assumption))
      | ((first | refine fresh_tup ?_ | skip); (repeat (first | exact fresh_ss _ |  exact FreshA.sl _ _ FreshA_bs | exact FreshA.sl _ _ FreshA_is | exact FreshA.nils | exact FreshA.nilp | exact FreshA.int _ _ | exact FreshA.bool _ | exact FreshA.str _ | exact fresh_nil | refine fresh_cons ?_ ?_ | with_reducible refine fresh_aggR ?_ | with_reducible refine fresh_agg ?_ | with_reducible exact fresh_nilA | with_reducible refine fresh_consA ?_ ?_)); done)
      ))
      | ((conv => whnf) <;> (first
      | (with_reducible refine and_same ?_)
      | (with_reducible refine and_side ?_ ?_)
      | (with_reducible refine Br.yes rfl ?_)
      | (with_reducible refine lenR_own (by assumption) ?_)
      | (with_reducible refine NOut.lit ?_)
      ))
      )
    all_goals (conv => whnf)
    all_goals (try dsimp only)
    all_goals exact ret_same rfl
  | cons a r =>
    have e1 : nxtOk l = true := by simp [nxtOk, hc]
    have e2 : nxtV l = a := by simp [nxtV, hc]
    have hz : chI l l.length = (a : Int) :: r.map fun i => ((i : Nat) : Int) := by simp [chI, hc]
    rw [e1, e2]
    rw [hz] at hil hy
    have hl1 : ((a : Int) :: r.map fun i => ((i : Nat) : Int)).length = r.length + 1 := by simp
    have hg0 : ((a : Int) :: r.map fun i => ((i : Nat) : Int))[Int.toNat 0]? = some (a : Int) := rfl
    repeat' (first
      | ((with_reducible refine Side.intro ?_) <;> (first
      | omega
      | (simp only [List.append_nil, List.nil_append, List.map_nil]; first | exact List.nodup_nil | exact nodup_bid1 _ | exact nodup_bid2 (by assumption))
      | ((first | refine fresh_tup ?_ | skip); (repeat (first | exact fresh_ss _ |  exact FreshA.sl _ _ FreshA_bs | exact FreshA.sl _ _ FreshA_is | exact FreshA.nils | exact FreshA.nilp | exact FreshA.int _ _ | exact FreshA.bool _ | exact FreshA.str _ | exact fresh_nil | refine fresh_cons ?_ ?_ | with_reducible refine fresh_aggR ?_ | with_reducible refine fresh_agg ?_ | with_reducible exact fresh_nilA | with_reducible refine fresh_consA ?_ ?_)); done)
      ))
      | ((conv => whnf) <;> (first
      | (with_reducible refine and_same ?_)
      | (with_reducible refine and_side ?_ ?_)
      | (with_reducible refine Br.no (by omega) ?_)
      | ((with_reducible apply blkAt_intro) ; (focus (first
      | ((repeat (first
      | assumption
      )); done)
      )) ; (focus (first | rfl | assumption | omega)) ; (try dsimp only))
      | (with_reducible refine lenR_own (by assumption) ?_)
      | (with_reducible refine ia_own (by assumption) ?_ ?_ (fun _ _ _ _ _ => ?_))
      | (with_reducible refine NOut.lit ?_)
      ))
      )
    all_goals (conv => whnf)
    all_goals (try dsimp only)
    all_goals first
      | exact ret_same rfl
      | trace_state
theorem RNext_call (l : List Sl) (hs : l.length ≤ 4611686018) {σ : AH} {x : AV} (hx : Looks σ x (.sl 5 (ss l) false)) {Q : AV → AH → Prop} (h : ∀ σ', Gr σ σ' none → Q (.tup [.int .i64 (nxtV l : Nat), .bool (nxtOk l)]) σ') : CallS Try.prog F.joistref08_Next [x] σ Q :=
  call_two (RNext_ok l hs) (.cons hx .nil) rfl rfl h
end Go.Proofs.Ytbmocdcfcdmmkaa
