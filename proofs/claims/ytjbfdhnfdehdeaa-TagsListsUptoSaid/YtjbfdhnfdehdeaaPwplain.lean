import Derived.Test.YtjbfdhnfdehdeaaPref01
namespace Go.Proofs.Ytjbfdhnfdehdeaa
open Go Go.Proofs.Ytjbfdhnfdehdeaa.V
theorem okW_le (n : Nat) (h : n < 4611686018427387904) : okW (le 8 n) = true := by
  unfold okW
  rw [List.getD_eq_getElem?_getD, le_get 8 n 7 (by omega), Option.getD_some, UInt8.toNat_ofNat']
  have : n / 256 ^ 7 < 64 := by
    rw [Nat.div_lt_iff_lt_mul (by decide)]
    exact Nat.lt_of_lt_of_le h (by decide)
  exact decide_eq_true (by omega)
theorem val_le8 (n : Nat) (h : n < 4611686018427387904) : val (le 8 n) = n := by
  rw [val_le]
  exact Nat.mod_eq_of_lt (Nat.lt_of_lt_of_le h (by decide))
theorem wd_cat : ∀ (l : List Int) (i : Nat) (n : Int), l[i]? = some n → wd (cat l) i = le 8 n.toNat
  | n :: l, 0, m, h => by
    cases h
    have : cat (n :: l) = le 8 n.toNat ++ cat l := rfl
    unfold wd
    rw [this, Nat.zero_mul, List.drop_zero, List.take_append_of_le_length (by rw [le_length]; exact Nat.le_refl _), List.take_of_length_le (by rw [le_length]; exact Nat.le_refl _)]
  | n :: l, i + 1, m, h => by
    have : cat (n :: l) = le 8 n.toNat ++ cat l := rfl
    have ih := wd_cat l i m (by simpa using h)
    unfold wd at ih ⊢
    rw [this, List.drop_append, List.drop_of_length_le (by rw [le_length]; omega), List.nil_append, le_length, show (i + 1) * 8 - 8 = i * 8 from by omega]
    exact ih
theorem may_le {n : Int} (h : mayW n = true) : okW (le 8 n.toNat) = true ∧ (val (le 8 n.toNat) : Int) = n := by
  have : 0 ≤ n ∧ n ≤ 4611686018427387903 := by simpa [mayW] using h
  refine ⟨okW_le _ (by omega), ?_⟩
  rw [val_le8 _ (by omega)]; omega
theorem all_cat {l : List Int} (h : l.all mayW = true) : allOk (cat l) = true ∧ allR (cat l) = l := by
  have e8 : (cat l).length / 8 = l.length := by rw [cat_length]; omega
  have hw : ∀ i, i < l.length → ∃ n, l[i]? = some n ∧ wd (cat l) i = le 8 n.toNat ∧ mayW n = true := fun i hi =>
    ⟨l[i], List.getElem?_eq_getElem hi, wd_cat _ _ _ (List.getElem?_eq_getElem hi), List.all_eq_true.1 h _ (List.getElem_mem hi)⟩
  have h1 : allOk (cat l) = true := by
    simp only [allOk, Bool.and_eq_true, decide_eq_true_eq, List.all_eq_true, List.mem_range]
    refine ⟨by rw [cat_length]; omega, fun i hi => ?_⟩
    obtain ⟨n, _, k2, k3⟩ := hw i (by omega)
    rw [k2]; exact (may_le k3).1
  refine ⟨h1, ?_⟩
  rw [allR, h1, if_pos rfl, e8]
  apply List.ext_getElem?
  intro i
  by_cases hi : i < l.length
  · obtain ⟨n, k1, k2, k3⟩ := hw i hi
    simp [vals, hi, k2, (may_le k3).2]
    rw [List.getElem?_eq_getElem hi] at k1
    exact (Option.some.inj k1).symm
  · rw [List.getElem?_eq_none (by simp [vals]; omega), List.getElem?_eq_none (by omega)]
theorem okW_val {w : List UInt8} (hl : w.length = 8) (h : okW w = true) : val w < 4611686018427387904 := by
  have := val_top w 7 hl (by simpa [okW] using h)
  exact this
theorem cat_cons (n : Int) (l : List Int) : cat (n :: l) = le 8 n.toNat ++ cat l := rfl
theorem cat_vals (s : List UInt8) (h : allOk s = true) : (allR s).all mayW = true ∧ cat (allR s) = s := by
  have h0 := h
  simp only [allOk, Bool.and_eq_true, decide_eq_true_eq, List.all_eq_true, List.mem_range] at h
  obtain ⟨h8, hall⟩ := h
  rw [allR, h0, if_pos rfl]
  refine ⟨?_, ?_⟩
  · rw [List.all_eq_true]
    intro n hn
    simp only [vals, List.mem_map, List.mem_range] at hn
    obtain ⟨i, hi, rfl⟩ := hn
    have := okW_val (wd_length hi) (hall i hi)
    simp only [mayW, decide_eq_true_eq]; omega
  · have key : ∀ k, k ≤ s.length / 8 → cat (vals s k) = s.take (k * 8) := by
      intro k
      induction k with
      | zero => intro _; simp [vals, cat]
      | succ k ih =>
        intro hk
        have ev : vals s (k + 1) = vals s k ++ [(val (wd s k) : Int)] := by simp [vals, List.range_succ]
        have hl := wd_length (s := s) (i := k) (by omega)
        have el : le 8 (val (wd s k)) = wd s k := by rw [← hl]; exact le_val _
        rw [ev, cat_append, ih (by omega), cat_one, Int.toNat_natCast, el]
        unfold wd
        rw [show (k + 1) * 8 = k * 8 + 8 from by omega, List.take_add]
    rw [key _ (Nat.le_refl _), List.take_of_length_le (by omega)]
end Go.Proofs.Ytjbfdhnfdehdeaa
