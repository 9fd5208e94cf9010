import Derived.Test.YtbmocdcfcdmmkaaPlaws08b
namespace Go.Proofs.Ytbmocdcfcdmmkaa
open Go Go.Proofs.Ytbmocdcfcdmmkaa.V
set_option maxRecDepth 20000
attribute [local irreducible] CallS AOK AOKn ALoop Side Ref.ok
/-! ### Plain -/
theorem gat_set_eq {l : List Sl} {k : Nat} {s : Sl} (h : k < l.length) : gat (l.set k s) k = s := by simp [gat, List.getD, h]
theorem gat_set_ne {l : List Sl} {k i : Nat} {s : Sl} (h : k ≠ i) : gat (l.set k s) i = gat l i := by simp [gat, List.getD, List.getElem?_set_ne h]
theorem okL_set {l : List Sl} {k : Nat} {s : Sl} (h : okL l = true) (hs : okS s = true) : okL (l.set k s) = true := by
  obtain ⟨h1, h2⟩ := okL_iff.1 h
  refine okL_iff.2 ⟨?_, by rw [List.length_set]; exact h2⟩
  rw [List.all_eq_true] at h1 ⊢
  intro x hx
  rcases List.mem_or_eq_of_mem_set hx with q | q
  · exact h1 x q
  · rw [q]; exact hs
theorem tkOk_iff {l : List Sl} {s : Sl} : tkOk l s = true ↔ (okL l = true ∧ nxtOk l = true ∧ okS (tkS l s) = true) := by simp [tkOk]
theorem frOk_iff {l : List Sl} {k : Int} : frOk l k = true ↔ (okL l = true ∧ (0 ≤ k ∧ k < l.length) ∧ (gat l k.toNat).lv = true) := by simp [frOk]
theorem tkR_ok {l : List Sl} {s : Sl} (h : tkOk l s = true) : okL (tkR l s) = true := by
  obtain ⟨h1, _, h3⟩ := tkOk_iff.1 h
  rw [tkR, h, if_pos rfl]
  exact okL_set h1 h3
theorem frS_ok {l : List Sl} {k : Int} (h : frOk l k = true) : okS (frS l k) = true := by
  obtain ⟨h1, h2, _⟩ := frOk_iff.1 h
  have h3 := okS_g (okS_gat h1 (k := k.toNat) (by omega))
  have h4 : 0 ≤ min ((gat l k.toNat).g + 1) 65535 ∧ min ((gat l k.toNat).g + 1) 65535 ≤ 65535 := by omega
  show (decide (0 ≤ min ((gat l k.toNat).g + 1) 65535 ∧ min ((gat l k.toNat).g + 1) 65535 ≤ 65535) && (if false = true then decide ((0 : Int) ≤ 0 ∧ (0 : Int) ≤ 2048 ∧ (1 : Int) ≤ 0 ∧ (0 : Int) ≤ 2048) else decide (false = false ∧ (0 : Int) = 0 ∧ (0 : Int) = 0))) = true
  rw [decide_eq_true h4]; rfl
theorem frR_ok {l : List Sl} {k : Int} (h : frOk l k = true) : okL (frR l k) = true := by
  rw [frR, h, if_pos rfl]
  exact okL_set (frOk_iff.1 h).1 (frS_ok h)
theorem mem_chain {l : List Sl} {n k : Nat} : k ∈ chain l n ↔ (k < n ∧ opn (gat l k) = true) := by simp [chain]
theorem any_chI {l : List Sl} {n : Nat} {k : Nat} (h : k < n) : (chI l n).any (fun x => decide (x = (k : Int))) = opn (gat l k) := by
  rw [Bool.eq_iff_iff, List.any_eq_true]
  constructor
  · rintro ⟨x, hx, he⟩
    simp only [chI, List.mem_map] at hx
    obtain ⟨i, hi, rfl⟩ := hx
    have : i = k := by simp only [decide_eq_true_eq] at he; omega
    subst this
    exact (mem_chain.1 hi).2
  · intro ho
    exact ⟨(k : Int), by simp only [chI, List.mem_map]; exact ⟨k, mem_chain.2 ⟨h, ho⟩, rfl⟩, by simp⟩
theorem chain_nodup (l : List Sl) (n : Nat) : (chain l n).Nodup := by
  unfold chain
  exact List.Pairwise.filter _ List.nodup_range
theorem chain_set {l : List Sl} {n k : Nat} {t : List Nat} {s : Sl} (hc : chain l n = k :: t) (hk : k < l.length) (hs : opn s = false) : chain (l.set k s) n = t := by
  have hnd := chain_nodup l n
  rw [hc] at hnd
  have h1 : chain (l.set k s) n = (chain l n).filter fun i => decide (i ≠ k) := by
    unfold chain
    rw [List.filter_filter]
    congr 1
    funext i
    by_cases e : i = k
    · subst e; rw [gat_set_eq hk, hs]; simp
    · rw [gat_set_ne (fun q => e q.symm)]; simp [e]
  rw [h1, hc]
  have h2 : ∀ x ∈ t, decide (x ≠ k) = true := by
    intro x hx
    have := (List.nodup_cons.1 hnd).1
    simp only [decide_eq_true_eq]
    intro e; subst e; exact this hx
  rw [List.filter_cons_of_neg (by simp), List.filter_eq_self.2 h2]
theorem TableSpent_ok (l : List Sl) (k : Int) (hs : l.length ≤ 4611686018) : AOKn Try.prog F.joistlaw08_TableSpent [.sl 5 (ss l) false, .int .i64 k] fun y => y = .bool true := by
  have hn := ss_length l
  refine AOKn.by_steps mixed fc_joistlaw08_TableSpent_ok (by simp [fc_joistlaw08_TableSpent]) ?_
  skip
  all_goals (conv => whnf)
  all_goals (try dsimp only)
  refine small_call fun H0 hg0 => ?_
  skip
  all_goals (conv => whnf)
  all_goals (try dsimp only)
  refine Free_call l k hs (Looks.ss _ _ _) fun H1 m hg1 hm hn1 => ?_
  cases hf : frOk l k
  · rw [show frE l k = 1 from by simp [frE, hf]]
    rw [show frR l k = [] from by simp [frR, hf]] at hm
    have h0 : (ss []).length = 0 := rfl
    repeat' (first
      | ((with_reducible refine Side.intro ?_) <;> (first
      | (simp only [List.append_nil, List.nil_append, List.map_nil]; first | exact List.nodup_nil | exact nodup_bid1 _ | exact nodup_bid2 (by assumption))
      | ((first | refine fresh_tup ?_ | skip); (repeat (first | exact fresh_ss _ |  exact FreshA.sl _ _ FreshA_bs | exact FreshA.sl _ _ FreshA_is | exact FreshA.nils | exact FreshA.nilp | exact FreshA.int _ _ | exact FreshA.bool _ | exact FreshA.str _ | exact fresh_nil | refine fresh_cons ?_ ?_ | with_reducible refine fresh_aggR ?_ | with_reducible refine fresh_agg ?_ | with_reducible exact fresh_nilA | with_reducible refine fresh_consA ?_ ?_)); done)
      ))
      | ((conv => whnf) <;> (first
      | (with_reducible refine and_same ?_)
      | (with_reducible refine and_side ?_ ?_)
      | (with_reducible refine Br.yes rfl ?_)
      | (with_reducible refine Br.yes (by omega) ?_)
      | (with_reducible refine lenR_own (by assumption) ?_)
      | (with_reducible refine NOut.lit ?_)
      ))
      )
    all_goals (conv => whnf)
    all_goals (try dsimp only)
    exact ret_bool rfl
  · rw [show frE l k = 0 from by simp [frE, hf]]
    rw [show frR l k = l.set k.toNat (frS l k) from by simp [frR, hf]] at hm
    obtain ⟨ho, hk, hlv⟩ := frOk_iff.1 hf
    have hgs := okS_g (okS_gat ho (k := k.toNat) (by omega))
    have hp := some_gat (l := l) (k := k.toNat) (by omega)
    have hml : (ss (l.set k.toNat (frS l k))).length = l.length := by rw [ss_length, List.length_set]
    have hpm : (l.set k.toNat (frS l k))[0 + k.toNat]? = some (frS l k) := by
      rw [Nat.zero_add, List.getElem?_set_self (by omega)]
    have hany := any_chI (l := l.set k.toNat (frS l k)) (n := l.length) (k := k.toNat) (by omega)
    rw [gat_set_eq (by omega)] at hany
    have hkk : ((k.toNat : Nat) : Int) = k := by omega
    rw [hkk] at hany
    have hopn : opn (frS l k) = decide ((gat l k.toNat).g < 65534) := by
      unfold opn frS
      by_cases hb : (gat l k.toNat).g < 65534
      · rw [show min ((gat l k.toNat).g + 1) 65535 = (gat l k.toNat).g + 1 from by omega, decide_eq_true hb]
        have : (gat l k.toNat).g + 1 ≠ 65535 := by omega
        simp [this]
      · rw [show min ((gat l k.toNat).g + 1) 65535 = 65535 from by omega, decide_eq_false hb]
        simp
    rw [hopn] at hany
    have hfr : frS l k = ⟨min ((gat l k.toNat).g + 1) 65535, false, false, 0, 0⟩ := rfl
    have hcl := chI_length (l.set k.toNat (frS l k)) l.length
    generalize hcc : chI (l.set k.toNat (frS l k)) l.length = c at *
    have hcn := is_length c
    repeat' (first
      | ((with_reducible refine Side.intro ?_) <;> (first
      | omega
      ))
      | ((conv => whnf) <;> (first
      | (with_reducible refine and_same ?_)
      | (with_reducible refine Br.no (by omega) ?_)
      | (with_reducible refine Br.mk (fun _ => ?_) (fun _ => ?_))
      | (with_reducible refine nthR_ss1 (by assumption) ?_)
      | (with_reducible refine lenR_own (by assumption) ?_)
      | (with_reducible refine ia_sl ?_ ?_)
      | (with_reducible refine lenR_sl ?_)
      ))
      )
    all_goals (conv => whnf)
    all_goals (try dsimp only)
    all_goals
      refine Chain_call _ (by rw [List.length_set]; omega) (Looks.ownss hm) fun H2 cc hg2 hc hn2 => ?_
      rw [List.length_set, hcc] at hc
      skip
      all_goals (conv => whnf)
      all_goals (try dsimp only)
      refine loop_at (α := Nat) (fun i => [(10, .bool ((c.take i).any fun x => decide (x = k))), (11, .int .i64 i)]) (fun _ => H2) (fun i => i ≤ c.length) (fun i => c.length - i) 0 (by omega) rfl rfl ?_
      intro i hi
      by_cases hlt : i < c.length
      · obtain ⟨v, hv, hv'⟩ := getN hlt
        have hnx : (c.take (i + 1)).any (fun x => decide (x = k)) = ((c.take i).any (fun x => decide (x = k)) || decide (v = k)) := by
          rw [List.take_add_one, hv', List.any_append]; simp
        cases hd : (c.take i).any fun x => decide (x = k)
        · by_cases hvk : v = k
          · repeat' (first
              | ((with_reducible refine Side.intro ?_) <;> (first
              | omega
              ))
              | ((conv => whnf) <;> (first
              | (with_reducible refine and_same ?_)
              | (with_reducible refine Br.yes (by omega) ?_)
              | ((with_reducible apply blkAt_intro) ; (focus (first
              | ((repeat (first
              | assumption
              )); done)
              )) ; (focus (first | rfl | assumption | omega)) ; (try dsimp only))
              | (with_reducible refine nthR_is1 (by assumption) ?_)
              | (with_reducible refine lenR_own (by assumption) ?_)
              | (with_reducible refine ia_own (by assumption) ?_ ?_ (fun _ _ _ _ _ => ?_))
              | (with_reducible refine nthR_z ?_)
              | (with_reducible refine nthR_left (by first | omega | (simp only [List.length_append, List.length_cons, List.length_nil, List.length_take, List.length_drop, bs_length]; omega)) ?_)
              ))
              )
            all_goals (conv => whnf)
            all_goals (try dsimp only)
            exact ⟨i + 1, by rw [hnx, hd, decide_eq_true hvk]; rfl, rfl, by omega, by omega⟩
          · repeat' (first
              | ((with_reducible refine Side.intro ?_) <;> (first
              | omega
              ))
              | ((conv => whnf) <;> (first
              | (with_reducible refine and_same ?_)
              | (with_reducible refine Br.yes (by omega) ?_)
              | (with_reducible refine Br.no (by omega) ?_)
              | ((with_reducible apply blkAt_intro) ; (focus (first
              | ((repeat (first
              | assumption
              )); done)
              )) ; (focus (first | rfl | assumption | omega)) ; (try dsimp only))
              | (with_reducible refine nthR_is1 (by assumption) ?_)
              | (with_reducible refine lenR_own (by assumption) ?_)
              | (with_reducible refine ia_own (by assumption) ?_ ?_ (fun _ _ _ _ _ => ?_))
              | (with_reducible refine nthR_z ?_)
              | (with_reducible refine nthR_left (by first | omega | (simp only [List.length_append, List.length_cons, List.length_nil, List.length_take, List.length_drop, bs_length]; omega)) ?_)
              ))
              )
            all_goals (conv => whnf)
            all_goals (try dsimp only)
            exact ⟨i + 1, by rw [hnx, hd, decide_eq_false hvk]; rfl, rfl, by omega, by omega⟩
        · repeat' (first
            | ((conv => whnf) <;> (first
            | (with_reducible refine and_same ?_)
            | (with_reducible refine Br.yes (by omega) ?_)
            | (with_reducible refine lenR_own (by assumption) ?_)
            ))
            )
          all_goals (conv => whnf)
          all_goals (try dsimp only)
          exact ⟨i + 1, by rw [hnx, hd]; rfl, rfl, by omega, by omega⟩
      · have hil : i = c.length := by omega
        subst hil
        rw [List.take_length, hany]
        rw [hfr] at hm hpm hml
        have hpm2 := hpm
        rw [Nat.zero_add] at hpm2
        first
          | rw [decide_eq_true (show (gat l k.toNat).g < 65534 from by omega)]
          | rw [decide_eq_false (show ¬ (gat l k.toNat).g < 65534 from by omega)]
        repeat' (first
          | ((with_reducible refine Side.intro ?_) <;> (first
          | omega
          | exact Nat.le_of_ble_eq_true rfl
          | (simp only [List.append_nil, List.nil_append, List.map_nil]; first | exact List.nodup_nil | exact nodup_bid1 _ | exact nodup_bid2 (by assumption))
          | ((first | refine fresh_tup ?_ | skip); (repeat (first | exact fresh_ss _ |  exact FreshA.sl _ _ FreshA_bs | exact FreshA.sl _ _ FreshA_is | exact FreshA.nils | exact FreshA.nilp | exact FreshA.int _ _ | exact FreshA.bool _ | exact FreshA.str _ | exact fresh_nil | refine fresh_cons ?_ ?_ | with_reducible refine fresh_aggR ?_ | with_reducible refine fresh_agg ?_ | with_reducible exact fresh_nilA | with_reducible refine fresh_consA ?_ ?_)); done)
          | exact rfl
          ))
          | ((conv => whnf) <;> (first
          | (with_reducible refine and_same ?_)
          | (with_reducible refine and_side ?_ ?_)
          | (with_reducible refine Br.yes rfl ?_)
          | (with_reducible refine Br.yes (by omega) ?_)
          | (with_reducible refine Br.no (by omega) ?_)
          | (with_reducible refine Br.yes (by ((with_reducible refine And.intro ?_ ?_); (repeat' (first | with_reducible rfl | exact True.intro | with_reducible refine And.intro ?_ ?_ | omega | assumption)); (first | done | fail))) ?_)
          | (with_reducible refine Br.mk (fun _ => ?_) (fun _ => ?_))
          | ((with_reducible apply blkAt_intro) ; (focus (first
          | ((repeat (first
          | assumption
          )); done)
          )) ; (focus (first | rfl | assumption | omega)) ; (try dsimp only))
          | (with_reducible refine nthR_ss1 (by assumption) ?_)
          | (with_reducible refine lenR_own (by assumption) ?_)
          | (with_reducible refine lenR_own (Own.upTo (by assumption) (by ((repeat (first | exact Gr.refl _ _ | assumption | with_reducible refine Gr.trans ?_ (Gr.boxN _ _ _ _ _) | refine Gr.setNew ?_ (by first | exact Nat.le_refl _ | (simp only [newB_length, List.length_set, List.length_append, List.length_singleton]; omega) | omega) _ | refine Gr.addN ?_ _ | refine Gr.newN ?_ _ _ _ | exact Gr.trans (by assumption) (by assumption) | refine Gr.trans ?_ (by assumption) | refine Gr.trans (by assumption) ?_)); (first | done | fail)))) ?_)
          | (with_reducible refine ia_own (Own.upTo (by assumption) (by ((repeat (first | exact Gr.refl _ _ | assumption | with_reducible refine Gr.trans ?_ (Gr.boxN _ _ _ _ _) | refine Gr.setNew ?_ (by first | exact Nat.le_refl _ | (simp only [newB_length, List.length_set, List.length_append, List.length_singleton]; omega) | omega) _ | refine Gr.addN ?_ _ | refine Gr.newN ?_ _ _ _ | exact Gr.trans (by assumption) (by assumption) | refine Gr.trans ?_ (by assumption) | refine Gr.trans (by assumption) ?_)); (first | done | fail)))) ?_ ?_ (fun _ _ _ _ _ => ?_))
          | (with_reducible refine ia_sl ?_ ?_)
          | (with_reducible refine NOut.lit ?_)
          | (with_reducible refine nthR_z ?_)
          | (with_reducible refine nthR_left (by first | omega | (simp only [List.length_append, List.length_cons, List.length_nil, List.length_take, List.length_drop, bs_length]; omega)) ?_)
          | (with_reducible refine lenR_sl ?_)
          ))
          )
        all_goals (conv => whnf)
        all_goals (try dsimp only)
        all_goals first
          | exact ret_bool rfl
          | omega
          | trace_state
end Go.Proofs.Ytbmocdcfcdmmkaa
