import Derived.Test.YtabdieanlhecoaaPslabp
import Derived.Test.YtabdieanlhecoaaPwplain
namespace Go.Proofs.Ytabdieanlhecoaa
open Go Go.Proofs.Ytabdieanlhecoaa.V
/-! ### Where each byte of a slab comes from -/
def pt (p : List UInt8) (a : Nat) (d : List UInt8) : List UInt8 := p.take a ++ d ++ p.drop (a + d.length)
theorem putC_pt (c : Int) (p : List UInt8) (k : Int) (d : List UInt8) : putC c p k d = pt p (cof c k) d := rfl
theorem pt_length {p : List UInt8} {a : Nat} {d : List UInt8} (h : a + d.length ≤ p.length) : (pt p a d).length = p.length := by
  unfold pt
  simp only [List.length_append, List.length_take, List.length_drop]
  omega
theorem pt_in {p : List UInt8} {a : Nat} {d : List UInt8} (h : a + d.length ≤ p.length) {j : Nat} (h1 : a ≤ j) (h2 : j < a + d.length) : (pt p a d)[j]? = d[j - a]? := by
  have e1 : (p.take a).length = a := by rw [List.length_take]; omega
  unfold pt
  rw [List.getElem?_append_left (by rw [List.length_append, e1]; omega), List.getElem?_append_right (by omega), e1]
theorem pt_out {p : List UInt8} {a : Nat} {d : List UInt8} (h : a + d.length ≤ p.length) {j : Nat} (h1 : ¬ (a ≤ j ∧ j < a + d.length)) : (pt p a d)[j]? = p[j]? := by
  have e1 : (p.take a).length = a := by rw [List.length_take]; omega
  unfold pt
  by_cases q : j < a
  · rw [List.getElem?_append_left (by rw [List.length_append, e1]; omega), List.getElem?_append_left (by omega), List.getElem?_take, if_pos q]
  · rw [List.getElem?_append_right (by rw [List.length_append, e1]; omega), List.length_append, e1, List.getElem?_drop]
    congr 1; omega
theorem pt_zero_succ {q : List UInt8} {a k : Nat} (h : a + k < q.length) : (pt q a (List.replicate k 0)).set (a + k) 0 = pt q a (List.replicate (k + 1) 0) := by
  refine List.ext_getElem? fun j => ?_
  have l1 : a + (List.replicate k (0 : UInt8)).length ≤ q.length := by rw [List.length_replicate]; omega
  have l2 : a + (List.replicate (k + 1) (0 : UInt8)).length ≤ q.length := by rw [List.length_replicate]; omega
  by_cases e : a + k = j
  · subst e
    rw [List.getElem?_set_self (by rw [pt_length l1]; exact h), pt_in l2 (by omega) (by rw [List.length_replicate]; omega), List.getElem?_replicate, if_pos (by omega)]
  · rw [List.getElem?_set_ne e]
    by_cases c1 : a ≤ j ∧ j < a + k
    · rw [pt_in l1 c1.1 (by rw [List.length_replicate]; omega), pt_in l2 c1.1 (by rw [List.length_replicate]; omega), List.getElem?_replicate, List.getElem?_replicate, if_pos (by omega), if_pos (by omega)]
    · rw [pt_out l1 (by rw [List.length_replicate]; omega), pt_out l2 (by rw [List.length_replicate]; omega)]
/-- Cells and data of one slab, in order. -/
structure Lay (c : Int) (l : List Int) (D : List (List UInt8)) : Prop where
  ce : ∀ k, k ∈ l → ceOk c k = true
  fit : ∀ d, d ∈ D → d.length ≤ 8 * (cw c).toNat
theorem Lay.tail {c k : Int} {l : List Int} {d : List UInt8} {D : List (List UInt8)} (h : Lay c (k :: l) (d :: D)) : Lay c l D :=
  ⟨fun j hj => h.ce j (by simp [hj]), fun e he => h.fit e (by simp [he])⟩
theorem Lay.room {c k : Int} {l : List Int} {d : List UInt8} {D : List (List UInt8)} (h : Lay c (k :: l) (d :: D)) {p : List UInt8} (hp : p.length = 256) : cof c k + d.length ≤ p.length := by
  have := cof_bd (h.ce k (by simp))
  have := h.fit d (by simp)
  omega
theorem Lay.len {c k : Int} {l : List Int} {d : List UInt8} {D : List (List UInt8)} (h : Lay c (k :: l) (d :: D)) {p : List UInt8} (hp : p.length = 256) : (putC c p k d).length = 256 := by
  rw [putC_pt, pt_length (h.room hp), hp]
/-- A byte that no cell's data take. -/
def Outside (c : Int) (l : List Int) (D : List (List UInt8)) (j : Nat) : Prop := ∀ (i : Nat) (k : Int) (d : List UInt8), l[i]? = some k → D[i]? = some d → ¬ (cof c k ≤ j ∧ j < cof c k + d.length)
theorem pgF_out {c : Int} : ∀ {l : List Int} {D : List (List UInt8)} {p : List UInt8} {j : Nat}, Lay c l D → p.length = 256 → Outside c l D j → (pgF c p l D)[j]? = p[j]?
  | [], D, p, j, h, hp, ho => by cases D <;> rfl
  | k :: r, [], p, j, h, hp, ho => rfl
  | k :: r, d :: D, p, j, h, hp, ho => by
    rw [pgF, pgF_out h.tail (h.len hp) (fun i k' d' h1 h2 => ho (i + 1) k' d' (by simpa using h1) (by simpa using h2)), putC_pt, pt_out (h.room hp) (ho 0 k d rfl rfl)]
theorem cof_lt {c k k' : Int} (h : ceOk c k = true) (h' : ceOk c k' = true) (hk : k < k') : cof c k + 8 * (cw c).toNat ≤ cof c k' := by
  have b1 := cof_bd h
  have b2 := cof_bd h'
  have b3 := cn_bd c
  obtain ⟨m, rfl⟩ : ∃ m : Nat, k' = k + 1 + m := ⟨(k' - k - 1).toNat, by omega⟩
  have e : (k + 1 + (m : Int)) * cw c = k * cw c + cw c + (m : Int) * cw c := by rw [Int.add_mul, Int.add_mul, Int.one_mul]
  have e2 : 0 ≤ (m : Int) * cw c := Int.mul_nonneg (by omega) b3.2.2.1
  rw [e] at b2
  omega
theorem incr_get {n : Int} : ∀ {l : List Int} {a : Int}, incr n a l = true → ∀ {i j : Nat} {k k' : Int}, i < j → l[i]? = some k → l[j]? = some k' → k < k'
  | [], a, h, i, j, k, k', hij, h1, h2 => by simp at h1
  | x :: r, a, h, i, 0, k, k', hij, h1, h2 => by omega
  | x :: r, a, h, i, j + 1, k, k', hij, h1, h2 => by
    simp only [incr, Bool.and_eq_true, decide_eq_true_eq] at h
    have h2' : r[j]? = some k' := by simpa using h2
    cases i with
    | zero =>
      obtain rfl : x = k := by simpa using h1
      exact (incr_mem n r x h.2 k' (List.mem_of_getElem? h2')).1
    | succ i => exact incr_get h.2 (i := i) (j := j) (by omega) (by simpa using h1) h2'
theorem pgF_in {c n : Int} : ∀ {l : List Int} {D : List (List UInt8)} {p : List UInt8} {a : Int} {i j : Nat} {k : Int} {d : List UInt8}, Lay c l D → incr n a l = true → p.length = 256 → l[i]? = some k → D[i]? = some d → cof c k ≤ j → j < cof c k + d.length → (pgF c p l D)[j]? = d[j - cof c k]?
  | [], D, p, a, i, j, k, d, h, hi, hp, h1, h2, h3, h4 => by simp at h1
  | x :: r, [], p, a, i, j, k, d, h, hi, hp, h1, h2, h3, h4 => by simp at h2
  | x :: r, y :: D, p, a, 0, j, k, d, h, hi, hp, h1, h2, h3, h4 => by
    obtain rfl : x = k := by simpa using h1
    obtain rfl : y = d := by simpa using h2
    have ho : Outside c r D j := by
      intro i k' d' g1 g2 g3
      have hlt := incr_get (i := 0) (j := i + 1) hi (by omega) h1 (by simpa using g1)
      have := cof_lt (h.ce x (by simp)) (h.ce k' (by simp [List.mem_of_getElem? g1])) hlt
      have := h.fit y (by simp)
      omega
    rw [pgF, pgF_out h.tail (h.len hp) ho, putC_pt, pt_in (h.room hp) h3 h4]
  | x :: r, y :: D, p, a, i + 1, j, k, d, h, hi, hp, h1, h2, h3, h4 => by
    have hi' := hi
    simp only [incr, Bool.and_eq_true, decide_eq_true_eq] at hi'
    rw [pgF]
    exact pgF_in h.tail hi'.2 (h.len hp) (by simpa using h1) (by simpa using h2) h3 h4
/-! ### What is left when the data are taken out -/
@[irreducible] def zap (c : Int) (q : List UInt8) (k : Int) (d : List UInt8) : List UInt8 := pt q (cof c k - 32) (List.replicate d.length 0)
theorem zap_pt (c : Int) (q : List UInt8) (k : Int) (d : List UInt8) : zap c q k d = pt q (cof c k - 32) (List.replicate d.length 0) := by unfold zap; rfl
def clr (c : Int) : List UInt8 → List Int → List (List UInt8) → List UInt8
  | q, k :: r, d :: D => clr c (zap c q k d) r D
  | q, _, _ => q
theorem clr_take (c : Int) : ∀ (l : List Int) (D : List (List UInt8)) (q : List UInt8) (i : Nat) (k : Int) (d : List UInt8), l[i]? = some k → D[i]? = some d → clr c q (l.take (i + 1)) (D.take (i + 1)) = zap c (clr c q (l.take i) (D.take i)) k d
  | [], D, p, i, k, d, hl, hd => by simp at hl
  | x :: r, [], p, i, k, d, hl, hd => by simp at hd
  | x :: r, y :: D, p, 0, k, d, hl, hd => by
    simp at hl hd
    subst hl; subst hd
    simp [clr]
  | x :: r, y :: D, p, i + 1, k, d, hl, hd => by
    simp only [List.take_succ_cons, clr]
    exact clr_take c r D _ i k d (by simpa using hl) (by simpa using hd)
theorem Lay.room2 {c k : Int} {l : List Int} {d : List UInt8} {D : List (List UInt8)} (h : Lay c (k :: l) (d :: D)) {q : List UInt8} (hq : q.length = 224) : (cof c k - 32) + (List.replicate d.length (0 : UInt8)).length ≤ q.length := by
  have := cof_bd (h.ce k (by simp))
  have := h.fit d (by simp)
  rw [List.length_replicate]
  omega
theorem clr_zero {c : Int} : ∀ {l : List Int} {D : List (List UInt8)} {q : List UInt8}, Lay c l D → q.length = 224 →
    (∀ j, j < 224 → q[j]? = some 0 ∨ ¬ Outside c l D (j + 32)) → ∀ j, j < 224 → (clr c q l D)[j]? = some 0
  | [], D, q, h, hq, hz, j, hj => by
    have e : clr c q [] D = q := by cases D <;> rfl
    rw [e]
    exact (hz j hj).resolve_right fun g => g fun i k d h1 => by simp at h1
  | k :: r, [], q, h, hq, hz, j, hj => by
    have e : clr c q (k :: r) [] = q := rfl
    rw [e]
    exact (hz j hj).resolve_right fun g => g fun i k d h1 h2 => by simp at h2
  | k :: r, d :: D, q, h, hq, hz, j, hj => by
    have hr := h.room2 hq
    have hb := cof_bd (h.ce k (by simp))
    rw [clr]
    rw [zap_pt]
    refine clr_zero h.tail (by rw [pt_length hr]; exact hq) (fun j hj => ?_) j hj
    by_cases hin : cof c k - 32 ≤ j ∧ j < cof c k - 32 + d.length
    · left
      rw [pt_in hr hin.1 (by rw [List.length_replicate]; exact hin.2), List.getElem?_replicate, if_pos (by omega)]
    · rcases hz j hj with g | g
      · left
        rw [pt_out hr (by rw [List.length_replicate]; exact hin)]; exact g
      · right
        intro ho
        refine g fun i k' d' h1 h2 => ?_
        cases i with
        | zero =>
          obtain rfl : k = k' := by simpa using h1
          obtain rfl : d = d' := by simpa using h2
          omega
        | succ i => exact ho i k' d' (by simpa using h1) (by simpa using h2)
theorem clr_length {c : Int} : ∀ {l : List Int} {D : List (List UInt8)} {q : List UInt8}, Lay c l D → q.length = 224 → (clr c q l D).length = 224
  | [], D, q, h, hq => by cases D <;> exact hq
  | k :: r, [], q, h, hq => hq
  | k :: r, d :: D, q, h, hq => by rw [clr]; exact clr_length h.tail (by rw [zap_pt, pt_length (h.room2 hq)]; exact hq)
theorem Lay.takes {c : Int} {l : List Int} {D : List (List UInt8)} (h : Lay c l D) (i : Nat) : Lay c (l.take i) (D.take i) :=
  ⟨fun k hk => h.ce k (List.mem_of_mem_take hk), fun d hd => h.fit d (List.mem_of_mem_take hd)⟩
theorem sw_lay {c : Int} {l : List Int} {D : List (List UInt8)} {nx pv : Int} (h : swOk c l D nx pv = true) : Lay c l D ∧ incr (cn c) (-1) l = true ∧ swR c l D nx pv = pgF c (pg0 c l nx pv) l D ∧ l.length = D.length ∧ (sh c l nx pv).all mayW = true := by
  have h0 := h
  simp only [swOk, Bool.and_eq_true] at h
  obtain ⟨h1, h2⟩ := h
  obtain ⟨q1, q2, q3, q4, q5⟩ := swB_iff.1 h1
  refine ⟨⟨fun k hk => bt_ce q1 hk, fun d hd => ?_⟩, ?_, by rw [swR, h0, if_pos rfl], q3, sh_may q1 q4 q5⟩
  · exact of_decide_eq_true (List.all_eq_true.1 h2 d hd)
  · simp only [btOk, Bool.and_eq_true] at q1
    exact q1.2
theorem pg0_zero {c : Int} {l : List Int} {nx pv : Int} {j : Nat} (h : 32 ≤ j) (h2 : j < 256) : (pg0 c l nx pv)[j]? = some 0 := by
  rw [pg0, List.getElem?_append_right (by rw [sh_len]; exact h), sh_len, List.getElem?_replicate, if_pos (by omega)]
theorem sw_rest {c : Int} {l : List Int} {D : List (List UInt8)} {nx pv : Int} (h : swOk c l D nx pv = true) : (clr c ((swR c l D nx pv).drop 32) l D).all (· == 0) = true := by
  obtain ⟨hL, hi, e, _, _⟩ := sw_lay h
  have hl := swR_len h
  have hq : ((swR c l D nx pv).drop 32).length = 224 := by rw [List.length_drop]; omega
  have hz := clr_zero hL hq fun j hj => by
    by_cases ho : Outside c l D (j + 32)
    · left
      rw [List.getElem?_drop, e, pgF_out hL (pg0_len c l nx pv) (by rw [Nat.add_comm]; exact ho), pg0_zero (by omega) (by omega)]
    · exact .inr ho
  rw [List.all_eq_true]
  intro x hx
  obtain ⟨j, hj, rfl⟩ := List.mem_iff_getElem.1 hx
  have hj' := hj
  rw [clr_length hL hq] at hj'
  have := hz j hj'
  rw [List.getElem?_eq_getElem hj] at this
  simpa using this
theorem sw_cell {c : Int} {l : List Int} {D : List (List UInt8)} {nx pv : Int} (h : swOk c l D nx pv = true) {i : Nat} {k : Int} {d : List UInt8} (h1 : l[i]? = some k) (h2 : D[i]? = some d) : ((swR c l D nx pv).drop (cof c k)).take d.length = d := by
  obtain ⟨hL, hi, e, _, _⟩ := sw_lay h
  have hb := cof_bd (hL.ce k (List.mem_of_getElem? h1))
  have hf := hL.fit d (List.mem_of_getElem? h2)
  have hl := swR_len h
  refine List.ext_getElem? fun j => ?_
  rw [List.getElem?_take]
  split
  · rw [List.getElem?_drop, e, pgF_in hL hi (pg0_len c l nx pv) h1 h2 (by omega) (by omega)]
    congr 1; omega
  · rw [List.getElem?_eq_none (by omega)]
/-! ### What is written is read -/
theorem sw_head {c : Int} {l : List Int} {D : List (List UInt8)} {nx pv : Int} (h : swOk c l D nx pv = true) {i : Nat} {n : Int} (hn : (sh c l nx pv)[i]? = some n) : getOk (swR c l D nx pv) i = true ∧ (getV (swR c l D nx pv) i : Int) = n := by
  obtain ⟨hL, hi, e, _, hm⟩ := sw_lay h
  have hl := swR_len h
  have hi4 : i < 4 := (List.getElem?_eq_some_iff.1 hn).1
  have ew : wd (swR c l D nx pv) i = le 8 n.toNat := by
    rw [← wd_cat _ _ _ hn]
    unfold wd
    refine List.ext_getElem? fun j => ?_
    rw [List.getElem?_take, List.getElem?_take]
    split
    · rw [List.getElem?_drop, List.getElem?_drop, e, pgF_out hL (pg0_len c l nx pv) (fun i' k d g1 _ g => by have := cof_bd (hL.ce k (List.mem_of_getElem? g1)); omega), pg0, List.getElem?_append_left (by rw [sh_len]; omega)]
    · rfl
  have hmay := List.all_eq_true.1 hm n (List.mem_of_getElem? hn)
  obtain ⟨a1, a2⟩ := may_le hmay
  have hg : getOk (swR c l D nx pv) i = true := by
    rw [getOk, Int.toNat_natCast, ew, a1, inR, decide_eq_true (by omega)]; rfl
  exact ⟨hg, by rw [getV, hg, if_pos rfl, Int.toNat_natCast, ew]; exact a2⟩
theorem rcI_map (c : Int) (t : List UInt8) (b k : Nat) : rdD c t b k = (rcI b k).map (cel c t) := by
  rw [rdD, rcI, List.map_map]; rfl
theorem sw_read {c : Int} {l : List Int} {D : List (List UInt8)} {nx pv : Int} (h : swOk c l D nx pv = true) :
    rof (swR c l D nx pv) = c ∧ rC (swR c l D nx pv) = l ∧ rD (swR c l D nx pv) = l.map (cel c (swR c l D nx pv)) ∧ rN (swR c l D nx pv) = nx ∧ rP (swR c l D nx pv) = pv := by
  have w0 := (sw_head h (i := 0) (n := c + 1) rfl).2
  have w1 := (sw_head h (i := 1) (n := (sumv l : Nat)) rfl).2
  have w2 := (sw_head h (i := 2) (n := nx) rfl).2
  have w3 := (sw_head h (i := 3) (n := pv) rfl).2
  have e0 : rof (swR c l D nx pv) = c := by
    have w0' : ((getV (swR c l D nx pv) 0 : Nat) : Int) = c + 1 := w0
    rw [rof, w0']; omega
  have e1 : rbit (swR c l D nx pv) = sumv l := by
    have w1' : ((getV (swR c l D nx pv) 1 : Nat) : Int) = (sumv l : Nat) := w1
    rw [rbit]; omega
  have hb : btOk c l = true := by
    simp only [swOk, Bool.and_eq_true] at h
    exact (swB_iff.1 h.1).1
  have e2 : rC (swR c l D nx pv) = l := by rw [rC, e0, e1, rcI_sumv hb]
  refine ⟨e0, e2, ?_, w2, w3⟩
  rw [rD, rcI_map, e0, e1, rcI_sumv hb]
theorem sw_cel {c : Int} {l : List Int} {D : List (List UInt8)} {nx pv : Int} (h : swOk c l D nx pv = true) {i : Nat} {k : Int} {d : List UInt8} (h1 : l[i]? = some k) (h2 : D[i]? = some d) : cel c (swR c l D nx pv) k = d ++ List.replicate (8 * (cw c).toNat - d.length) 0 := by
  obtain ⟨hL, hi, e, _, _⟩ := sw_lay h
  have hb := cof_bd (hL.ce k (List.mem_of_getElem? h1))
  have hf := hL.fit d (List.mem_of_getElem? h2)
  have hl := swR_len h
  unfold cel
  refine List.ext_getElem? fun j => ?_
  rw [List.getElem?_take]
  by_cases hj : j < 8 * (cw c).toNat
  · rw [if_pos hj, List.getElem?_drop, e]
    by_cases hd : j < d.length
    · rw [pgF_in hL hi (pg0_len c l nx pv) h1 h2 (by omega) (by omega), List.getElem?_append_left hd]
      congr 1; omega
    · rw [pgF_out hL (pg0_len c l nx pv), pg0_zero (by omega) (by omega), List.getElem?_append_right (by omega), List.getElem?_replicate, if_pos (by omega)]
      intro i' k' d' g1 g2 g
      have hf' := hL.fit d' (List.mem_of_getElem? g2)
      rcases Nat.lt_trichotomy i i' with q | q | q
      · have := cof_lt (hL.ce k (List.mem_of_getElem? h1)) (hL.ce k' (List.mem_of_getElem? g1)) (incr_get hi q h1 g1)
        omega
      · subst q
        rw [h1] at g1; rw [h2] at g2
        cases g1; cases g2
        omega
      · have := cof_lt (hL.ce k' (List.mem_of_getElem? g1)) (hL.ce k (List.mem_of_getElem? h1)) (incr_get hi q g1 h1)
        omega
  · rw [if_neg hj, List.getElem?_eq_none (by rw [List.length_append, List.length_replicate]; omega)]
theorem sw_sr {c : Int} {l : List Int} {D : List (List UInt8)} {nx pv : Int} (h : swOk c l D nx pv = true) : srOk (swR c l D nx pv) = true := by
  obtain ⟨hL, hi, e, hlen, _⟩ := sw_lay h
  obtain ⟨r1, r2, r3, r4, r5⟩ := sw_read h
  have hl := swR_len h
  have h0 := h
  simp only [swOk, Bool.and_eq_true] at h
  obtain ⟨q1, q2, q3, q4, q5⟩ := swB_iff.1 h.1
  have hcl : ∀ k, k ∈ l → (cel c (swR c l D nx pv) k).length = 8 * (cw c).toNat := fun k hk => cel_len hl (hL.ce k hk)
  have hok : swOk c l (l.map (cel c (swR c l D nx pv))) nx pv = true := by
    rw [swOk, swB_iff.2 ⟨q1, q2, by rw [List.length_map], q4, q5⟩, Bool.true_and, fits, List.all_eq_true]
    intro d hd
    obtain ⟨k, hk, rfl⟩ := List.mem_map.1 hd
    exact decide_eq_true (by rw [hcl k hk]; exact Nat.le_refl _)
  obtain ⟨hL', _, e', _, _⟩ := sw_lay hok
  rw [srOk, r1, r2, r3, r4, r5, hok, decide_eq_true hl, Bool.true_and, Bool.true_and]
  refine decide_eq_true (List.ext_getElem? fun j => ?_)
  rw [e']
  by_cases ho : Outside c l (l.map (cel c (swR c l D nx pv))) j
  · rw [pgF_out hL' (pg0_len c l nx pv) ho, e, pgF_out hL (pg0_len c l nx pv)]
    intro i k d g1 g2 g
    have := hL.fit d (List.mem_of_getElem? g2)
    refine ho i k _ g1 (by rw [List.getElem?_map, g1]; rfl) ?_
    rw [hcl k (List.mem_of_getElem? g1)]
    omega
  · have : ∃ i k, l[i]? = some k ∧ cof c k ≤ j ∧ j < cof c k + 8 * (cw c).toNat := Classical.byContradiction fun hn => ho fun i k d g1 g2 g => hn ⟨i, k, g1, g.1, by
      rw [List.getElem?_map, g1] at g2
      cases g2
      rw [hcl k (List.mem_of_getElem? g1)] at g
      exact g.2⟩
    obtain ⟨i, k, g1, g2, g3⟩ := this
    have hc := hcl k (List.mem_of_getElem? g1)
    rw [pgF_in hL' hi (pg0_len c l nx pv) g1 (by rw [List.getElem?_map, g1]; rfl) g2 (by rw [hc]; exact g3), cel, List.getElem?_take, if_pos (by omega), List.getElem?_drop]
    congr 1; omega
theorem sr_back {t : List UInt8} (h : srOk t = true) : swOk (rof t) (rC t) (rD t) (rN t) (rP t) = true ∧ swR (rof t) (rC t) (rD t) (rN t) (rP t) = t := by
  simp only [srOk, Bool.and_eq_true, decide_eq_true_eq] at h
  exact h.2
end Go.Proofs.Ytabdieanlhecoaa
