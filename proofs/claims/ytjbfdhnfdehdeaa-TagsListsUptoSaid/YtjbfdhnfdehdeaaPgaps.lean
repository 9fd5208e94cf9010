import Derived.Test.YtjbfdhnfdehdeaaPdat
import Derived.Test.YtjbfdhnfdehdeaaPwords
namespace Go.Proofs.Ytjbfdhnfdehdeaa
open Go Go.Proofs.Ytjbfdhnfdehdeaa.V
set_option maxRecDepth 20000
attribute [local irreducible] CallS AOK AOKn ALoop Side Ref.ok
/-! ### What is free between blocks -/
def sC (to at' : Int) (p : Int × Int) : Bool := decide (at' ≤ p.1 ∧ p.1 ≤ to ∧ 4 ≤ p.2 ∧ p.2 ≤ to - p.1 ∧ p.1 % 4 = 0 ∧ p.2 % 4 = 0)
def endp (at' : Int) : List (Int × Int) → Int
  | [] => at'
  | p :: r => endp (p.1 + p.2) r
def sOk (to : Int) : Int → List (Int × Int) → Bool
  | _, [] => true
  | at', p :: r => sC to at' p && sOk to (p.1 + p.2) r
def clP : Int → List (Int × Int) → List (Int × Int)
  | _, [] => []
  | at', p :: r => (at', p.1) :: clP (p.1 + p.2) r
def bG (fr to : Int) : Bool := decide (0 ≤ fr ∧ fr ≤ to ∧ to ≤ 2048 ∧ fr % 4 = 0 ∧ to % 4 = 0)
def rG (fr to : Int) (L : List (Int × Int)) : Bool := bG fr to && sOk to fr L
def cls (fr to : Int) (L : List (Int × Int)) : List (Int × Int) := clP fr L ++ [(endp fr L, to)]
def gpF (M : List (Int × Int)) : List (Int × Int) := M.filterMap fun p => if p.1 < p.2 then some (p.1, p.2 - p.1) else none
def gaps (fr to : Int) (L : List (Int × Int)) : List (Int × Int) := gpF (cls fr to L)
theorem endp_append (at' : Int) (p : Int × Int) : ∀ L, endp at' (L ++ [p]) = p.1 + p.2
  | [] => rfl
  | q :: r => endp_append _ p r
theorem sOk_append (to : Int) (p : Int × Int) : ∀ (at' : Int) (L : List (Int × Int)), sOk to at' (L ++ [p]) = (sOk to at' L && sC to (endp at' L) p)
  | at', [] => by simp [sOk, endp]
  | at', q :: r => by simp only [List.cons_append, sOk, endp, sOk_append to p _ r, Bool.and_assoc]
theorem clP_append (p : Int × Int) : ∀ (at' : Int) (L : List (Int × Int)), clP at' (L ++ [p]) = clP at' L ++ [(endp at' L, p.1)]
  | at', [] => rfl
  | at', q :: r => by simp only [List.cons_append, clP, endp, clP_append p _ r]
theorem gpF_append (L M : List (Int × Int)) : gpF (L ++ M) = gpF L ++ gpF M := by simp [gpF]
theorem gpF_len (M : List (Int × Int)) : (gpF M).length ≤ M.length := List.length_filterMap_le _ _
theorem clP_len : ∀ (at' : Int) (L : List (Int × Int)), (clP at' L).length = L.length
  | _, [] => rfl
  | at', p :: r => by simp [clP, clP_len]
theorem endp_bd {to : Int} : ∀ {L : List (Int × Int)} {at' : Int}, sOk to at' L = true → at' ≤ to → at' ≤ endp at' L ∧ endp at' L ≤ to
  | [], at', _, h => ⟨Int.le_refl _, h⟩
  | p :: r, at', h, ha => by
    simp only [sOk, sC, Bool.and_eq_true, decide_eq_true_eq] at h
    have := endp_bd (L := r) h.2 (by omega)
    simp only [endp]
    omega
theorem endp_mod {to : Int} : ∀ {L : List (Int × Int)} {at' : Int}, sOk to at' L = true → at' % 4 = 0 → endp at' L % 4 = 0
  | [], at', _, h => h
  | p :: r, at', h, ha => by
    simp only [sOk, sC, Bool.and_eq_true, decide_eq_true_eq] at h
    exact endp_mod (L := r) h.2 (by omega)
theorem sOk_take {to : Int} {at' : Int} {L : List (Int × Int)} (h : sOk to at' L = true) (i : Nat) : sOk to at' (L.take i) = true := by
  induction L generalizing at' i with
  | nil => simp [sOk]
  | cons p r ih =>
    cases i with
    | zero => rfl
    | succ i =>
      simp only [sOk, Bool.and_eq_true] at h
      simp only [List.take_succ_cons, sOk, h.1, ih h.2, Bool.true_and]
theorem sOk_false {to at' : Int} {L : List (Int × Int)} {i : Nat} (h : sOk to at' (L.take i) = false) : sOk to at' L = false := by
  cases q : sOk to at' L
  · rfl
  · rw [sOk_take q i] at h; cases h
theorem bG_iff {fr to : Int} : bG fr to = true ↔ 0 ≤ fr ∧ fr ≤ to ∧ to ≤ 2048 ∧ fr % 4 = 0 ∧ to % 4 = 0 := by simp [bG]
theorem even_val (σ : AH) (n : Int) (h0 : 0 ≤ n) (Q : AV → AH → Prop) (h : Q (.bool (decide (n % 4 = 0))) σ) : CallS Try.prog F.gaps_even [.int .i64 n] σ Q := by
  refine call_of_body mixed fc_gaps_even_ok (by simp [fc_gaps_even]) ?_
  by_cases hn : n % 4 = 0
  · rw [decide_eq_true hn] at h
    repeat' (first
      | ((with_reducible refine Side.intro ?_) <;> (first
      | omega
      ))
      | ((conv => whnf) <;> (first
      | (with_reducible refine and_same ?_)
      | (with_reducible refine and_side ?_ ?_)
      | ((with_reducible apply Br.yes) ; (focus omega))
      ))
      )
    all_goals (conv => whnf)
    all_goals (try dsimp only)
    exact h
  · rw [decide_eq_false hn] at h
    repeat' (first
      | ((with_reducible refine Side.intro ?_) <;> (first
      | omega
      ))
      | ((conv => whnf) <;> (first
      | (with_reducible refine and_same ?_)
      | (with_reducible refine and_side ?_ ?_)
      | ((with_reducible apply Br.yes) ; (focus omega))
      | ((with_reducible apply Br.no) ; (focus omega))
      ))
      )
    all_goals (conv => whnf)
    all_goals (try dsimp only)
    exact h
/-- A function handed in, that is called on and on: what it makes of a state, which blocks are its own. -/
structure Doer (g : Nat) (caps : List AV) {S : Type} (J : List (Int × Int) → S → AH → Prop) (own : S → Nat → Prop) : Prop where
  call : ∀ (M : List (Int × Int)) (s : S) (σ : AH) (a e : Int), J M s σ → M.length ≤ 4611686018 → 0 ≤ a → a ≤ 2048 → 0 ≤ e → e ≤ 2048 → CallS Try.prog g ([.int .i64 a, .int .i64 e] ++ caps) σ fun _ σ' =>
    ∃ s', J (M ++ [(a, e)]) s' σ' ∧ σ.length ≤ σ'.length ∧ (∀ id b, σ[id]? = some b → ¬ own s id → σ'[id]? = some b) ∧ ∀ id, own s' id → own s id ∨ σ.length ≤ id
  grow : ∀ (M : List (Int × Int)) (s : S) (σ σ' : AH), J M s σ → Gr σ σ' none → J M s σ'
  lt : ∀ (M : List (Int × Int)) (s : S) (σ : AH), J M s σ → ∀ id, own s id → id < σ.length
theorem between_ok (fr to : Int) (L : List (Int × Int)) (hL : L.length ≤ 4611686) {g : Nat} {caps : List AV} {S : Type} {J : List (Int × Int) → S → AH → Prop} {own : S → Nat → Prop} (D : Doer g caps J own) (s0 : S) (σ : AH) (h0 : J [] s0 σ) (Q : AV → AH → Prop)
    (h : ∀ s σ', (rG fr to L = true → J (cls fr to L) s σ') → σ.length ≤ σ'.length → (∀ id b, σ[id]? = some b → ¬ own s0 id → σ'[id]? = some b) → Q (.bool (rG fr to L)) σ') : CallS Try.prog F.gaps_between [.int .i64 fr, .int .i64 to, .sl 2 (sp L) false, .fn g caps] σ Q := by
  have hn := sp_length L
  refine call_of_body mixed fc_gaps_between_ok (by simp [fc_gaps_between]) ?_
  by_cases hb : bG fr to = true
  · obtain ⟨b1, b2, b3, b4, b5⟩ := bG_iff.1 hb
    repeat' (first
      | ((conv => whnf) <;> (first
      | (with_reducible refine and_same ?_)
      | ((with_reducible apply Br.no) ; (focus omega))
      ))
      )
    all_goals (conv => whnf)
    all_goals (try dsimp only)
    refine even_val _ fr b1 _ ?_
    rw [decide_eq_true b4]
    skip
    all_goals (conv => whnf)
    all_goals (try dsimp only)
    refine even_val _ to (by omega) _ ?_
    rw [decide_eq_true b5]
    repeat' (first
      | ((conv => whnf) <;> (first
      | (with_reducible refine lenR_sl ?_)
      ))
      )
    all_goals (conv => whnf)
    all_goals (try dsimp only)
    refine loop_at (α := Nat × S × AH) (fun a => [(9, .int .i64 (endp fr (L.take a.1))), (36, .int .i64 a.1)]) (fun a => a.2.2) (fun a => a.1 ≤ L.length ∧ sOk to fr (L.take a.1) = true ∧ J (clP fr (L.take a.1)) a.2.1 a.2.2 ∧ σ.length ≤ a.2.2.length ∧ (∀ id b, σ[id]? = some b → ¬ own s0 id → a.2.2[id]? = some b) ∧ ∀ id, own a.2.1 id → own s0 id ∨ σ.length ≤ id) (fun a => L.length - a.1) (0, s0, σ) ⟨Nat.zero_le _, rfl, h0, Nat.le_refl _, fun id b hb _ => hb, fun id h => .inl h⟩ rfl rfl ?_
    rintro ⟨i, s, σ1⟩ ⟨hi, hok, hJ, hlen, hfr, hown⟩
    dsimp only at hi hok hJ hlen hfr hown ⊢
    have hep := endp_bd hok b2
    have hcl : (clP fr (L.take i)).length ≤ L.length := by rw [clP_len, List.length_take]; omega
    by_cases hlt : i < L.length
    · obtain ⟨p, hp, hp'⟩ := getN hlt
      have et : L.take (i + 1) = L.take i ++ [p] := by rw [List.take_add_one, hp']; rfl
      have e1 : sOk to fr (L.take (i + 1)) = sC to (endp fr (L.take i)) p := by rw [et, sOk_append, hok, Bool.true_and]
      have e2 : endp fr (L.take (i + 1)) = p.1 + p.2 := by rw [et, endp_append]
      have e3 : clP fr (L.take (i + 1)) = clP fr (L.take i) ++ [(endp fr (L.take i), p.1)] := by rw [et, clP_append]
      have hno : sC to (endp fr (L.take i)) p = false → ∀ τ : AH, (∃ τ0 : AH, Gr σ1 τ none) → Q (.bool false) τ := fun q τ ⟨_, hg⟩ => by
        have hr : rG fr to L = false := by rw [rG, sOk_false (i := i + 1) (by rw [e1, q]), Bool.and_false]
        have := h s0 τ (fun q => by rw [hr] at q; cases q) (Nat.le_trans hlen hg.1) (fun id b hb hn => hg.2 _ _ (hfr id b hb hn) (by simp))
        rwa [hr] at this
      generalize endp fr (L.take i) = at' at *
      by_cases hc : at' ≤ p.1 ∧ p.1 ≤ to ∧ 4 ≤ p.2 ∧ p.2 ≤ to - p.1
      · by_cases hm1 : p.1 % 4 = 0
        · by_cases hm2 : p.2 % 4 = 0
          · have hsc : sC to at' p = true := by simp only [sC, decide_eq_true_eq]; omega
            repeat' (first
              | ((with_reducible refine Side.intro ?_) <;> (first
              | omega
              | exact Nat.le_of_ble_eq_true rfl
              | exact rfl
              ))
              | ((conv => whnf) <;> (first
              | (with_reducible refine and_same ?_)
              | (with_reducible refine and_side ?_ ?_)
              | ((with_reducible apply Br.yes) ; (focus omega))
              | ((with_reducible apply Br.no) ; (focus omega))
              | ((with_reducible apply blkAt_intro) ; (focus (first
              | ((repeat (first
              | exact get_new
              | exact get_set get_new
              )); done)
              )) ; (focus (first | rfl | assumption | omega)) ; (try dsimp only))
              | ((with_reducible apply nthR_sp) ; (focus assumption))
              | (with_reducible refine ia_sl ?_ ?_)
              ))
              )
            all_goals (conv => whnf)
            all_goals (try dsimp only)
            refine even_val _ p.1 (by omega) _ ?_
            rw [decide_eq_true hm1]
            repeat' (first
              | ((conv => whnf) <;> (first
              | ((with_reducible apply blkAt_intro) ; (focus (first
              | ((repeat (first
              | exact get_set get_new
              )); done)
              )) ; (focus (first | rfl | assumption | omega)) ; (try dsimp only))
              ))
              )
            all_goals (conv => whnf)
            all_goals (try dsimp only)
            refine even_val _ p.2 (by omega) _ ?_
            rw [decide_eq_true hm2]
            repeat' (first
              | ((conv => whnf) <;> (first
              | ((with_reducible apply blkAt_intro) ; (focus (first
              | ((repeat (first
              | exact get_set get_new
              )); done)
              )) ; (focus (first | rfl | assumption | omega)) ; (try dsimp only))
              ))
              )
            all_goals (conv => whnf)
            all_goals (try dsimp only)
            refine (D.call (clP fr (L.take i)) s _ at' p.1 (D.grow _ _ _ _ hJ (by (repeat (first
                  | exact Gr.refl _ _
                  | refine Gr.setNew ?_ (by first | exact Nat.le_refl _ | (simp only [newB_length, List.length_set, List.length_append, List.length_singleton]; omega) | omega) _
                  | refine Gr.addN ?_ _
                  )))) (by omega) (by omega) (by omega) (by omega) (by omega)).mono ?_
            rintro _ σ2 ⟨s', hJ2, hl2, hf2, ho2⟩
            have hbox := hf2 _ _ (get_set get_new) (fun q => by have := D.lt _ _ _ hJ _ q; omega)
            simp only [List.length_set, newB_length] at hl2
            repeat' (first
              | ((conv => whnf) <;> (first
              | (with_reducible refine and_same ?_)
              | ((with_reducible apply Br.yes) ; (focus omega))
              | ((with_reducible apply blkAt_intro) ; (focus (first
              | ((repeat (first
              | assumption
              )); done)
              )) ; (focus (first | rfl | assumption | omega)) ; (try dsimp only))
              ))
              )
            all_goals (conv => whnf)
            all_goals (try dsimp only)
            refine ⟨(i + 1, s', σ2), by dsimp only; rw [e2]; rfl, rfl, ⟨by dsimp only; omega, by dsimp only; rw [e1, hsc], by dsimp only; rw [e3]; exact hJ2, by dsimp only; omega, ?_, ?_⟩, by dsimp only; omega⟩
            · intro id b hb hn
              have hlt' := (List.getElem?_eq_some_iff.1 hb).1
              refine hf2 id b (gr_get (by (repeat (first
                    | exact Gr.refl _ _
                    | refine Gr.setNew ?_ (by first | exact Nat.le_refl _ | (simp only [newB_length, List.length_set, List.length_append, List.length_singleton]; omega) | omega) _
                    | refine Gr.addN ?_ _
                    ))) (hfr id b hb hn)) fun q => ?_
              rcases hown id q with q | q
              · exact hn q
              · omega
            · intro id q
              rcases ho2 id q with q | q
              · exact hown id q
              · simp only [List.length_set, newB_length] at q
                right; omega
          · have hsc : sC to at' p = false := by simp only [sC, decide_eq_false_iff_not]; omega
            repeat' (first
              | ((with_reducible refine Side.intro ?_) <;> (first
              | omega
              | exact Nat.le_of_ble_eq_true rfl
              | exact rfl
              ))
              | ((conv => whnf) <;> (first
              | (with_reducible refine and_same ?_)
              | (with_reducible refine and_side ?_ ?_)
              | ((with_reducible apply Br.yes) ; (focus omega))
              | ((with_reducible apply Br.no) ; (focus omega))
              | ((with_reducible apply blkAt_intro) ; (focus (first
              | ((repeat (first
              | exact get_new
              | exact get_set get_new
              )); done)
              )) ; (focus (first | rfl | assumption | omega)) ; (try dsimp only))
              | ((with_reducible apply nthR_sp) ; (focus assumption))
              | (with_reducible refine ia_sl ?_ ?_)
              ))
              )
            all_goals (conv => whnf)
            all_goals (try dsimp only)
            refine even_val _ p.1 (by omega) _ ?_
            rw [decide_eq_true hm1]
            repeat' (first
              | ((conv => whnf) <;> (first
              | ((with_reducible apply blkAt_intro) ; (focus (first
              | ((repeat (first
              | exact get_set get_new
              )); done)
              )) ; (focus (first | rfl | assumption | omega)) ; (try dsimp only))
              ))
              )
            all_goals (conv => whnf)
            all_goals (try dsimp only)
            refine even_val _ p.2 (by omega) _ ?_
            rw [decide_eq_false hm2]
            skip
            all_goals (conv => whnf)
            all_goals (try dsimp only)
            exact hno hsc _ ⟨σ1, by (repeat (first
                  | exact Gr.refl _ _
                  | refine Gr.setNew ?_ (by first | exact Nat.le_refl _ | (simp only [newB_length, List.length_set, List.length_append, List.length_singleton]; omega) | omega) _
                  | refine Gr.addN ?_ _
                  ))⟩
        · have hsc : sC to at' p = false := by simp only [sC, decide_eq_false_iff_not]; omega
          repeat' (first
            | ((with_reducible refine Side.intro ?_) <;> (first
            | omega
            | exact Nat.le_of_ble_eq_true rfl
            | exact rfl
            ))
            | ((conv => whnf) <;> (first
            | (with_reducible refine and_same ?_)
            | (with_reducible refine and_side ?_ ?_)
            | ((with_reducible apply Br.yes) ; (focus omega))
            | ((with_reducible apply Br.no) ; (focus omega))
            | ((with_reducible apply blkAt_intro) ; (focus (first
            | ((repeat (first
            | exact get_new
            | exact get_set get_new
            )); done)
            )) ; (focus (first | rfl | assumption | omega)) ; (try dsimp only))
            | ((with_reducible apply nthR_sp) ; (focus assumption))
            | (with_reducible refine ia_sl ?_ ?_)
            ))
            )
          all_goals (conv => whnf)
          all_goals (try dsimp only)
          refine even_val _ p.1 (by omega) _ ?_
          rw [decide_eq_false hm1]
          skip
          all_goals (conv => whnf)
          all_goals (try dsimp only)
          exact hno hsc _ ⟨σ1, by (repeat (first
                | exact Gr.refl _ _
                | refine Gr.setNew ?_ (by first | exact Nat.le_refl _ | (simp only [newB_length, List.length_set, List.length_append, List.length_singleton]; omega) | omega) _
                | refine Gr.addN ?_ _
                ))⟩
      · have hsc : sC to at' p = false := by simp only [sC, decide_eq_false_iff_not]; omega
        repeat' (first
          | ((with_reducible refine Side.intro ?_) <;> (first
          | omega
          | exact Nat.le_of_ble_eq_true rfl
          | exact rfl
          ))
          | ((conv => whnf) <;> (first
          | (with_reducible refine and_same ?_)
          | (with_reducible refine and_side ?_ ?_)
          | ((with_reducible apply Br.yes) ; (focus omega))
          | (with_reducible refine Br.mk (fun _ => ?_) (fun _ => ?_))
          | ((with_reducible apply blkAt_intro) ; (focus (first
          | ((repeat (first
          | exact get_new
          | exact get_set get_new
          )); done)
          )) ; (focus (first | rfl | assumption | omega)) ; (try dsimp only))
          | ((with_reducible apply nthR_sp) ; (focus assumption))
          | (with_reducible refine ia_sl ?_ ?_)
          ))
          )
        all_goals (conv => whnf)
        all_goals (try dsimp only)
        all_goals first
          | omega
          | exact hno hsc _ ⟨σ1, by (repeat (first
                | exact Gr.refl _ _
                | refine Gr.setNew ?_ (by first | exact Nat.le_refl _ | (simp only [newB_length, List.length_set, List.length_append, List.length_singleton]; omega) | omega) _
                | refine Gr.addN ?_ _
                ))⟩
    · have hil : i = L.length := by omega
      subst hil
      rw [List.take_length] at hok hJ hep hcl
      repeat' (first
        | ((conv => whnf) <;> (first
        | (with_reducible refine and_same ?_)
        | ((with_reducible apply Br.no) ; (focus omega))
        ))
        )
      all_goals (conv => whnf)
      all_goals (try dsimp only)
      rw [List.take_length]
      refine (D.call (clP fr L) s σ1 (endp fr L) to hJ (by omega) (by omega) (by omega) (by omega) (by omega)).mono ?_
      rintro _ σ2 ⟨s', hJ2, hl2, hf2, ho2⟩
      skip
      all_goals (conv => whnf)
      all_goals (try dsimp only)
      have hr : rG fr to L = true := by rw [rG, hb, hok]; rfl
      have := h s' σ2 (fun _ => hJ2) (by omega) (fun id b hbb hn => by
        have hlt' := (List.getElem?_eq_some_iff.1 hbb).1
        refine hf2 id b (hfr id b hbb hn) fun q => ?_
        rcases hown id q with q | q
        · exact hn q
        · omega)
      rw [hr] at this
      exact this
  · have hno : rG fr to L = false := by
      rw [rG]
      cases q : bG fr to
      · rfl
      · exact absurd q hb
    have hfin := h s0 σ (fun q => by rw [hno] at q; cases q) (Nat.le_refl _) (fun id b hb _ => hb)
    rw [hno] at hfin
    rw [bG_iff] at hb
    by_cases h3 : 0 ≤ fr ∧ fr ≤ to ∧ to ≤ 2048
    · by_cases h4 : fr % 4 = 0
      · repeat' (first
          | ((conv => whnf) <;> (first
          | (with_reducible refine and_same ?_)
          | ((with_reducible apply Br.no) ; (focus omega))
          ))
          )
        all_goals (conv => whnf)
        all_goals (try dsimp only)
        refine even_val _ fr (by omega) _ ?_
        rw [decide_eq_true h4]
        skip
        all_goals (conv => whnf)
        all_goals (try dsimp only)
        refine even_val _ to (by omega) _ ?_
        rw [decide_eq_false (by omega)]
        skip
        all_goals (conv => whnf)
        all_goals (try dsimp only)
        exact hfin
      · repeat' (first
          | ((conv => whnf) <;> (first
          | (with_reducible refine and_same ?_)
          | ((with_reducible apply Br.no) ; (focus omega))
          ))
          )
        all_goals (conv => whnf)
        all_goals (try dsimp only)
        refine even_val _ fr (by omega) _ ?_
        rw [decide_eq_false h4]
        skip
        all_goals (conv => whnf)
        all_goals (try dsimp only)
        exact hfin
    · repeat' (first
        | ((conv => whnf) <;> (first
        | (with_reducible refine and_same ?_)
        | ((with_reducible apply Br.yes) ; (focus omega))
        | (with_reducible refine Br.mk (fun _ => ?_) (fun _ => ?_))
        ))
        )
      all_goals (conv => whnf)
      all_goals (try dsimp only)
      all_goals first
        | omega
        | exact hfin
end Go.Proofs.Ytjbfdhnfdehdeaa
