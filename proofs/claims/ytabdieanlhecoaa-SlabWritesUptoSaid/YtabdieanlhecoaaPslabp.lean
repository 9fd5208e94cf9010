import Derived.Test.YtabdieanlhecoaaPslab3
namespace Go.Proofs.Ytabdieanlhecoaa
open Go Go.Proofs.Ytabdieanlhecoaa.V
/-! ### Bits, plain -/
theorem bitB_t (b j : Nat) : bitB b j = b.testBit j := by
  rw [bitB, Nat.testBit_eq_decide_div_mod_eq]
theorem incr_snoc {n a : Int} {l : List Int} {k : Int} : incr n a (l ++ [k]) = true ↔ (incr n a l = true ∧ lst a l < k ∧ k < n) := by
  rw [incr_append, Bool.and_eq_true, incr, incr, Bool.and_true, decide_eq_true_eq]
theorem incr_less {n m : Int} : ∀ {l : List Int} {a : Int}, incr n a l = true → (∀ k, k ∈ l → k < m) → incr m a l = true
  | [], a, h, hk => rfl
  | x :: r, a, h, hk => by
    simp only [incr, Bool.and_eq_true, decide_eq_true_eq] at h ⊢
    exact ⟨⟨h.1.1, hk x (by simp)⟩, incr_less h.2 fun k hk' => hk k (by simp [hk'])⟩
theorem incr_lst {n : Int} : ∀ {l : List Int} {a : Int}, incr n a l = true → a ≤ lst a l ∧ ∀ k, k ∈ l → k ≤ lst a l
  | [], a, h => ⟨Int.le_refl _, by simp⟩
  | x :: r, a, h => by
    simp only [incr, Bool.and_eq_true, decide_eq_true_eq] at h
    obtain ⟨h1, h2⟩ := incr_lst h.2
    simp only [lst]
    refine ⟨by omega, fun k hk => ?_⟩
    rcases List.mem_cons.1 hk with rfl | hk
    · exact h1
    · exact h2 k hk
theorem snoc_ind {P : List Int → Prop} (h0 : P []) (h1 : ∀ l k, P l → P (l ++ [k])) (l : List Int) : P l := by
  have : ∀ (n : Nat) (l : List Int), l.length = n → P l := by
    intro n
    induction n with
    | zero => intro l hl; rw [List.length_eq_zero_iff.1 hl]; exact h0
    | succ n ih =>
      intro l hl
      have hne : l ≠ [] := fun e => by rw [e] at hl; cases hl
      rw [← List.dropLast_concat_getLast hne]
      exact h1 _ _ (ih _ (by simp; omega))
  exact this _ l rfl
theorem sumv_lt (n : Nat) : ∀ (l : List Int), incr n (-1) l = true → sumv l < 2 ^ n := by
  intro l
  induction l using snoc_ind generalizing n with
  | h0 => intro _; simp [sumv, Nat.two_pow_pos]
  | h1 l k ih =>
    intro h
    obtain ⟨h1, h2, h3⟩ := incr_snoc.1 h
    obtain ⟨h4, h5⟩ := incr_lst h1
    have a1 : incr (k.toNat : Nat) (-1) l = true := incr_less h1 fun j hj => by have := h5 j hj; omega
    have a2 := ih k.toNat a1
    have a3 : 2 ^ (k.toNat + 1) ≤ 2 ^ n := Nat.pow_le_pow_right (by omega) (by omega)
    rw [sumv_append, sumv, sumv]
    rw [Nat.pow_succ] at a3
    omega
theorem rcs_congr {b c k : Nat} (h : ∀ j, j < k → b.testBit j = c.testBit j) : rcs b k = rcs c k := by
  unfold rcs
  refine List.filter_congr fun j hj => ?_
  rw [bitB_t, bitB_t, h j (List.mem_range.1 hj)]
theorem rcs_sumv : ∀ (n : Nat) (l : List Int), incr n (-1) l = true → (rcs (sumv l) n).map (fun j => ((j : Nat) : Int)) = l := by
  intro n
  induction n with
  | zero =>
    intro l h
    cases l with
    | nil => rfl
    | cons x r =>
      simp only [incr, Bool.and_eq_true, decide_eq_true_eq] at h
      omega
  | succ n ih =>
    intro l
    induction l using snoc_ind with
    | h0 =>
      intro _
      have : ∀ m, rcs 0 m = [] := by
        intro m
        induction m with
        | zero => rfl
        | succ m ihm => rw [rcs_no (by rw [bitB_t]; simp), ihm]
      simp [sumv, this]
    | h1 l k _ =>
      intro h
      obtain ⟨h1, h2, h3⟩ := incr_snoc.1 h
      obtain ⟨h4, h5⟩ := incr_lst h1
      by_cases hk : k = n
      · subst hk
        have a1 : incr n (-1) l = true := incr_less h1 fun j hj => by have := h5 j hj; omega
        have a2 := sumv_lt n l a1
        have e : sumv (l ++ [(n : Int)]) = 2 ^ n + sumv l := by rw [sumv_append, sumv, sumv]; simp; omega
        rw [e, rcs_yes (by rw [bitB_t, Nat.testBit_two_pow_add_eq, Nat.testBit_lt_two_pow a2]; rfl), rcs_congr (c := sumv l) (fun j hj => Nat.testBit_two_pow_add_gt hj _), List.map_append, ih l a1]
        rfl
      · have a1 : incr n (-1) (l ++ [k]) = true := incr_snoc.2 ⟨incr_less h1 fun j hj => by have := h5 j hj; omega, h2, by omega⟩
        have a2 := sumv_lt n _ a1
        rw [rcs_no (by rw [bitB_t, Nat.testBit_lt_two_pow a2]), ih _ a1]
theorem rcI_sumv {c : Int} {l : List Int} (h : btOk c l = true) : rcI (sumv l) (cn c).toNat = l := by
  simp only [btOk, Bool.and_eq_true] at h
  have hb := cn_bd c
  exact rcs_sumv _ l (by rw [show (((cn c).toNat : Nat) : Int) = cn c from by omega]; exact h.2)
theorem bt_lt {c : Int} {l : List Int} (h : btOk c l = true) : sumv l < 2 ^ (cn c).toNat := by
  simp only [btOk, Bool.and_eq_true] at h
  have hb := cn_bd c
  exact sumv_lt _ l (by rw [show (((cn c).toNat : Nat) : Int) = cn c from by omega]; exact h.2)
def pcn (b : Nat) : Nat → Nat
  | 0 => 0
  | k + 1 => pcn b k + b / 2 ^ k % 2
theorem pcn_len (b : Nat) : ∀ k, pcn b k = (rcs b k).length
  | 0 => rfl
  | k + 1 => by
    rw [pcn, pcn_len b k]
    by_cases h : b / 2 ^ k % 2 = 1
    · rw [rcs_yes (decide_eq_true h), h]; simp
    · rw [rcs_no (decide_eq_false h)]; omega
theorem pcn_bt {c : Int} {l : List Int} (h : btOk c l = true) : pcn (sumv l) 32 = l.length := by
  simp only [btOk, Bool.and_eq_true] at h
  have hb := cn_bd c
  have := rcs_sumv 32 l (incr_less h.2 fun k hk => by have := (incr_mem _ _ _ h.2 k hk).2; omega)
  rw [pcn_len]
  have := congrArg List.length this
  simpa using this
theorem bt_inj {c : Int} {a b : List Int} (h1 : btOk c a = true) (h2 : btOk c b = true) : sumv a = sumv b ↔ a = b :=
  ⟨fun e => by rw [← rcI_sumv h1, ← rcI_sumv h2, e], fun e => by rw [e]⟩
theorem pcn_bd (b : Nat) : ∀ k, pcn b k ≤ k
  | 0 => Nat.le_refl _
  | k + 1 => by rw [pcn]; have := pcn_bd b k; omega
end Go.Proofs.Ytabdieanlhecoaa
