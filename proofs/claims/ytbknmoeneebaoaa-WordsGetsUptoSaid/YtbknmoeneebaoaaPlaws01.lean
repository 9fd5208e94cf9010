import Derived.Test.YtbknmoeneebaoaaPref01
namespace Go.Proofs.Ytbknmoeneebaoaa
open Go Go.Proofs.Ytbknmoeneebaoaa.V
set_option maxRecDepth 20000
attribute [local irreducible] CallS AOK AOKn ALoop Side Ref.ok
theorem untagLL_is (s : List Int) : untagLL (is s) = is s := by
  induction s with
  | nil => rfl
  | cons b s ih => rw [show is (b :: s) = [.int .i64 b] :: is s from rfl, untagLL, ih]; rfl
theorem Looks.isv (σ : AH) (s : List Int) (fr : Bool) : Looks σ (.sl 1 (is s) fr) (.sl 1 (is s) false) := by
  refine .same ?_
  simp [derefV, derefC, AV.flat, untag, untagLL_is]
theorem Looks.ownis {σ : AH} {x : AV} {s : List Int} (h : Own σ 1 x (is s)) : Looks σ x (.sl 1 (is s) false) := by
  have := Looks.own h
  rwa [untagLL_is] at this
/-- New to the heap. -/
def New (σ : AH) (y : AV) : Prop := ∀ id, y.bid = some id → σ.length ≤ id
theorem Get_call (s : List UInt8) (at' : Int) (hs : s.length ≤ 4611686018427) {σ : AH} {x : AV} (hx : Looks σ x (.sl 1 (bs s) false)) {Q : AV → AH → Prop} (h : ∀ σ', Gr σ σ' none → Q (.tup [.int .i64 (getV s at'), .bool (getOk s at')]) σ') : CallS Try.prog F.words_Get [x, .int .i64 at'] σ Q := by
  refine (words_Get_ok s at' hs).call (.cons hx (.cons (.int _ _ _) .nil)) ?_
  rintro _ x σ1 rfl hg hG
  obtain ⟨_, _, rfl, h1, h2, _⟩ := hG.two
  obtain rfl := h1.same_inv rfl
  obtain rfl := h2.same_inv rfl
  exact h σ1 hg
theorem RGet_call (s : List UInt8) (at' : Int) (hs : s.length ≤ 4611686018427) {σ : AH} {x : AV} (hx : Looks σ x (.sl 1 (bs s) false)) {Q : AV → AH → Prop} (h : ∀ σ', Gr σ σ' none → Q (.tup [.int .i64 (getV s at'), .bool (getOk s at')]) σ') : CallS Try.prog F.joistref01_Get [x, .int .i64 at'] σ Q := by
  refine (ref_Get_ok s at' hs).call (.cons hx (.cons (.int _ _ _) .nil)) ?_
  rintro _ x σ1 rfl hg hG
  obtain ⟨_, _, rfl, h1, h2, _⟩ := hG.two
  obtain rfl := h1.same_inv rfl
  obtain rfl := h2.same_inv rfl
  exact h σ1 hg
theorem Put_call (s : List UInt8) (at' n : Int) (hs : s.length ≤ 4611686018427) {σ : AH} {x : AV} (hx : Looks σ x (.sl 1 (bs s) false)) {Q : AV → AH → Prop} (h : ∀ σ' y, Gr σ σ' none → Own σ' 1 y (bs (putR s at' n)) → New σ y → Q (.tup [y, .int .i64 (putE s at' n)]) σ') : CallS Try.prog F.words_Put [x, .int .i64 at', .int .i64 n] σ Q := by
  refine (words_Put_ok s at' n hs).call (.cons hx (.cons (.int _ _ _) (.cons (.int _ _ _) .nil))) ?_
  rintro _ x σ1 rfl hg hG
  obtain ⟨_, _, rfl, h1, h2, hn, _⟩ := hG.two
  obtain rfl := h2.same_inv rfl
  exact h σ1 _ hg h1.own_inv hn
theorem RPut_call (s : List UInt8) (at' n : Int) (hs : s.length ≤ 4611686018427) {σ : AH} {x : AV} (hx : Looks σ x (.sl 1 (bs s) false)) {Q : AV → AH → Prop} (h : ∀ σ' y, Gr σ σ' none → Own σ' 1 y (bs (putR s at' n)) → New σ y → Q (.tup [y, .int .i64 (putE s at' n)]) σ') : CallS Try.prog F.joistref01_Put [x, .int .i64 at', .int .i64 n] σ Q := by
  refine (ref_Put_ok s at' n hs).call (.cons hx (.cons (.int _ _ _) (.cons (.int _ _ _) .nil))) ?_
  rintro _ x σ1 rfl hg hG
  obtain ⟨_, _, rfl, h1, h2, hn, _⟩ := hG.two
  obtain rfl := h2.same_inv rfl
  exact h σ1 _ hg h1.own_inv hn
theorem Of_call (l : List Int) (hs : l.length ≤ 461168601842) {σ : AH} {x : AV} (hx : Looks σ x (.sl 1 (is l) false)) {Q : AV → AH → Prop} (h : ∀ σ' y, Gr σ σ' none → Own σ' 1 y (bs (ofR l)) → New σ y → Q (.tup [y, .int .i64 (ofE l)]) σ') : CallS Try.prog F.words_Of [x] σ Q := by
  refine (words_Of_ok l hs).call (.cons hx .nil) ?_
  rintro _ x σ1 rfl hg hG
  obtain ⟨_, _, rfl, h1, h2, hn, _⟩ := hG.two
  obtain rfl := h2.same_inv rfl
  exact h σ1 _ hg h1.own_inv hn
theorem ROf_call (l : List Int) (hs : l.length ≤ 461168601842) {σ : AH} {x : AV} (hx : Looks σ x (.sl 1 (is l) false)) {Q : AV → AH → Prop} (h : ∀ σ' y, Gr σ σ' none → Own σ' 1 y (bs (ofR l)) → New σ y → Q (.tup [y, .int .i64 (ofE l)]) σ') : CallS Try.prog F.joistref01_Of [x] σ Q := by
  refine (ref_Of_ok l hs).call (.cons hx .nil) ?_
  rintro _ x σ1 rfl hg hG
  obtain ⟨_, _, rfl, h1, h2, hn, _⟩ := hG.two
  obtain rfl := h2.same_inv rfl
  exact h σ1 _ hg h1.own_inv hn
theorem All_call (s : List UInt8) (hs : s.length ≤ 4611686018427) {σ : AH} {x : AV} (hx : Looks σ x (.sl 1 (bs s) false)) {Q : AV → AH → Prop} (h : ∀ σ' y, Gr σ σ' none → Own σ' 1 y (is (allR s)) → New σ y → Q (.tup [y, .bool (allOk s)]) σ') : CallS Try.prog F.words_All [x] σ Q := by
  refine (words_All_ok s hs).call (.cons hx .nil) ?_
  rintro _ x σ1 rfl hg hG
  obtain ⟨_, _, rfl, h1, h2, hn, _⟩ := hG.two
  obtain rfl := h2.same_inv rfl
  exact h σ1 _ hg h1.own_inv hn
theorem RAll_call (s : List UInt8) (hs : s.length ≤ 4611686018427) {σ : AH} {x : AV} (hx : Looks σ x (.sl 1 (bs s) false)) {Q : AV → AH → Prop} (h : ∀ σ' y, Gr σ σ' none → Own σ' 1 y (is (allR s)) → New σ y → Q (.tup [y, .bool (allOk s)]) σ') : CallS Try.prog F.joistref01_All [x] σ Q := by
  refine (ref_All_ok s hs).call (.cons hx .nil) ?_
  rintro _ x σ1 rfl hg hG
  obtain ⟨_, _, rfl, h1, h2, hn, _⟩ := hG.two
  obtain rfl := h2.same_inv rfl
  exact h σ1 _ hg h1.own_inv hn
theorem Zero_call (s : List UInt8) (hs : s.length ≤ 4611686018427) {σ : AH} {x : AV} (hx : Looks σ x (.sl 1 (bs s) false)) {Q : AV → AH → Prop} (h : ∀ σ', Gr σ σ' none → Q (.bool (s.all (· == 0))) σ') : CallS Try.prog F.words_Zero [x] σ Q := by
  refine (words_Zero_ok s hs).call (.cons hx .nil) ?_
  rintro _ x σ1 rfl hg hG
  obtain rfl := hG.flat_inv rfl (by intros; simp)
  exact h σ1 hg
theorem RZero_call (s : List UInt8) (hs : s.length ≤ 4611686018427) {σ : AH} {x : AV} (hx : Looks σ x (.sl 1 (bs s) false)) {Q : AV → AH → Prop} (h : ∀ σ', Gr σ σ' none → Q (.bool (s.all (· == 0))) σ') : CallS Try.prog F.joistref01_Zero [x] σ Q := by
  refine (ref_Zero_ok s hs).call (.cons hx .nil) ?_
  rintro _ x σ1 rfl hg hG
  obtain rfl := hG.flat_inv rfl (by intros; simp)
  exact h σ1 hg
theorem Same_call (a b : List Int) (ha : a.length ≤ 4611686018427) (hb : b.length ≤ 4611686018427) {σ : AH} {x y : AV} (hx : Looks σ x (.sl 1 (is a) false)) (hy : Looks σ y (.sl 1 (is b) false)) {Q : AV → AH → Prop} (h : ∀ σ', Gr σ σ' none → Q (.bool (decide (a = b))) σ') : CallS Try.prog F.joistref01_Same [x, y] σ Q := by
  refine (Same_ok a b ha hb).call (.cons hx (.cons hy .nil)) ?_
  rintro _ x σ1 rfl hg hG
  obtain rfl := hG.flat_inv rfl (by intros; simp)
  exact h σ1 hg
/-! ### Plain -/
theorem wd_put1 (s : List UInt8) (i n : Nat) (h : i * 8 + 8 ≤ s.length) : wd (put1 s i n) i = le 8 n := by
  have e0 : (s.take (i * 8)).length = i * 8 := by rw [List.length_take]; omega
  unfold wd put1
  rw [List.append_assoc, List.drop_append, List.drop_of_length_le (by omega), e0, Nat.sub_self, List.drop_zero, List.nil_append, List.take_append_of_le_length (by rw [le_length]; omega), List.take_of_length_le (by rw [le_length]; omega)]
theorem wd_put2 (s : List UInt8) (i n j : Nat) (h : i * 8 + 8 ≤ s.length) (hj : j ≠ i) : wd (put1 s i n) j = wd s j := by
  apply List.ext_getElem?
  intro m
  unfold wd put1
  rw [List.getElem?_take, List.getElem?_take]
  split
  · rename_i hm
    rw [List.getElem?_drop, List.getElem?_drop]
    by_cases e : j < i
    · rw [List.getElem?_append_left (by simp [le_length]; omega), List.getElem?_append_left (by simp; omega), List.getElem?_take, if_pos (by omega)]
    · rw [List.getElem?_append_right (by simp [le_length]; omega), List.getElem?_drop]
      congr 1
      simp [le_length]; omega
  · rfl
theorem inR_put1 (s : List UInt8) (i n : Nat) (o : Int) (h : i * 8 + 8 ≤ s.length) : inR (put1 s i n) o = inR s o := by
  unfold inR; rw [put1_length _ _ _ h]
theorem okW_le (n : Nat) (h : n < 4611686018427387904) : okW (le 8 n) = true := by
  unfold okW
  rw [List.getD_eq_getElem?_getD, le_get 8 n 7 (by omega), Option.getD_some, UInt8.toNat_ofNat']
  have : n / 256 ^ 7 < 64 := by
    rw [Nat.div_lt_iff_lt_mul (by decide)]
    exact Nat.lt_of_lt_of_le h (by decide)
  exact decide_eq_true (by omega)
theorem val_le8 (n : Nat) (h : n < 4611686018427387904) : val (le 8 n) = n := by
  rw [val_le]
  exact Nat.mod_eq_of_lt (Nat.lt_of_lt_of_le h (by decide))
theorem getOk_put1 (s : List UInt8) (at' n : Int) (h1 : 0 ≤ at' ∧ at' < (s.length : Int) / 8) (h2 : 0 ≤ n ∧ n ≤ 4611686018427387903) : getOk (put1 s at'.toNat n.toNat) at' = true := by
  unfold getOk
  rw [inR_put1 _ _ _ _ (by omega), wd_put1 _ _ _ (by omega), okW_le _ (by omega), Bool.and_true]
  exact decide_eq_true h1
theorem getV_put1 (s : List UInt8) (at' n : Int) (h1 : 0 ≤ at' ∧ at' < (s.length : Int) / 8) (h2 : 0 ≤ n ∧ n ≤ 4611686018427387903) : getV (put1 s at'.toNat n.toNat) at' = n.toNat := by
  unfold getV
  rw [getOk_put1 s at' n h1 h2, if_pos rfl, wd_put1 _ _ _ (by omega), val_le8 _ (by omega)]
theorem getOk_put2 (s : List UInt8) (at' n o : Int) (h1 : 0 ≤ at' ∧ at' < (s.length : Int) / 8) (ho : o ≠ at') : getOk (put1 s at'.toNat n.toNat) o = getOk s o := by
  unfold getOk
  rw [inR_put1 _ _ _ _ (by omega)]
  cases h : inR s o
  · rfl
  · have : 0 ≤ o ∧ o < (s.length : Int) / 8 := by simpa [inR] using h
    rw [wd_put2 _ _ _ _ (by omega) (by omega)]
theorem getV_put2 (s : List UInt8) (at' n o : Int) (h1 : 0 ≤ at' ∧ at' < (s.length : Int) / 8) (ho : o ≠ at') : getV (put1 s at'.toNat n.toNat) o = getV s o := by
  unfold getV
  rw [getOk_put2 s at' n o h1 ho]
  cases h : getOk s o
  · rfl
  · have : 0 ≤ o ∧ o < (s.length : Int) / 8 := by
      simp only [getOk, Bool.and_eq_true] at h
      simpa [inR] using h.1
    rw [wd_put2 _ _ _ _ (by omega) (by omega)]
theorem small_ok : AOKn Try.prog F.joistlaw01_small [] fun y => y = .bool true := by
  refine AOKn.by_steps mixed fc_joistlaw01_small_ok (by simp [fc_joistlaw01_small]) ?_
  have e1 : ofR [1, 258] = [1, 0, 0, 0, 0, 0, 0, 0, 2, 1, 0, 0, 0, 0, 0, 0] := by decide +kernel
  have e2 : ofE [1, 258] = 0 := by decide +kernel
  repeat' (first
    | ((with_reducible refine Side.intro ?_) <;> (first | with_reducible rfl | omega | assumption | exact Nat.le_of_ble_eq_true rfl | (simp only [bs_length, List.length_append, List.length_cons, List.length_nil, List.length_take, List.length_drop, List.length_set, List.length_replicate]; omega) | exact .inl (by omega) | exact .inr (.inl ⟨rfl, by (simp only [bs_length, List.length_append, List.length_cons, List.length_nil, List.length_take, List.length_drop, List.length_set, List.length_replicate]; omega)⟩) | exact Ref.ok_refl _ _ | (simp only [List.append_nil, List.nil_append, List.map_nil]; first | exact List.nodup_nil | exact nodup_bid1 _ | exact nodup_bid2 (by assumption)) | ((first | refine fresh_tup ?_ | skip); (repeat (first |  exact FreshA.sl _ _ FreshA_bs | exact FreshA.sl _ _ FreshA_is | exact FreshA.nils | exact FreshA.nilp | exact FreshA.int _ _ | exact FreshA.bool _ | exact FreshA.str _ | exact fresh_nil | refine fresh_cons ?_ ?_)); done) | exact rfl | (simp; done)))
    | ((conv => whnf) <;> (first
        | (with_reducible refine and_same ?_)
        | (with_reducible refine and_side ?_ ?_)
        | (with_reducible refine Br.yes rfl ?_)
        | (with_reducible refine Br.yes (by omega) ?_)
        | (with_reducible refine Br.no (by omega) ?_)
        | (with_reducible refine Br.no (by assumption) ?_)
        | (with_reducible refine Br.yes (by assumption) ?_)
        | (with_reducible refine Br.mk (fun _ => ?_) (fun _ => ?_))
        | (with_reducible refine Both.mk ?_ ?_)
        | ((with_reducible apply blkAt_intro) ; (focus (first | exact rfl | (repeat (first | assumption | exact get_new | exact get_set (by assumption) | exact get_set get_new | apply get_old | (apply get_set_ne; (focus (first | omega | (simp only [newB_length, List.length_set, List.length_append, List.length_singleton]; omega)))))); done)) ; (focus (first | rfl | assumption | omega)) ; (try dsimp only))
        | (with_reducible refine nthR_bs1 (by assumption) ?_)
        | (with_reducible refine nthR_is1 (by assumption) ?_)
        | ((with_reducible apply appendR_lit) ; (focus (first | exact rfl | (repeat (first | assumption | exact get_new | exact get_set (by assumption) | exact get_set get_new | apply get_old | (apply get_set_ne; (focus (first | omega | (simp only [newB_length, List.length_set, List.length_append, List.length_singleton]; omega)))))); done)) ; (focus (first | rfl | assumption)) ; (focus rfl) ; (focus rfl) ; (focus rfl) ; (focus (first | exact Nat.zero_le _ | omega | (simp; done) | (simp; omega))) ; (try dsimp only))
        | (with_reducible refine appendR_nil ?_ ?_)
        | (with_reducible refine lenR_own (by assumption) ?_)
        | (with_reducible refine rowsR_own (by assumption) ?_)
        | (with_reducible refine ia_own (by assumption) ?_ ?_ (fun _ _ _ _ _ => ?_))
        | (with_reducible refine ia_sl ?_ ?_)
        | (with_reducible refine IaW.of ?_)
        | (with_reducible refine SliceW.of ?_)
        | (with_reducible refine EqnW.of ?_)
        | (with_reducible refine CopyW.of ?_)
        | (with_reducible refine out_own (by assumption) (fun _ => ?_) (fun _ _ => ?_))
        | (with_reducible refine OutW.of ?_)
        | (with_reducible refine NOut.own (by assumption) ?_)
        | (with_reducible refine NOut.lit ?_)
        | (with_reducible refine nthR_z ?_)
        | (with_reducible refine nthR_left (by first | omega | (simp only [List.length_append, List.length_cons, List.length_nil, List.length_take, List.length_drop, bs_length]; omega)) ?_)
        | (with_reducible refine lenR_sl ?_)
        | (with_reducible refine lenR_nils ?_)
        | (with_reducible refine lenR_rsl ?_)
        | (with_reducible refine rowsR_sl ?_)
        | (with_reducible refine rowsR_nils ?_)
        | (with_reducible refine rowsR_rsl ?_)
        | (with_reducible refine lenR_slx ?_)
        | (with_reducible refine rowsR_slx ?_)
        | (with_reducible refine appendR_slx ?_ ?_ ?_)
        | (with_reducible refine bytesR_intro (by first | rfl | (simp only [bs_take, bs_drop, bs_append]; rfl)) ?_)
        | (with_reducible refine nthR_bs (by first | omega | (simp only [List.length_append, List.length_cons, List.length_nil, List.length_take, List.length_drop, bs_length]; omega)) (fun _ _ _ => ?_))
        | (with_reducible intro _))))
  all_goals (conv => whnf)
  all_goals (try dsimp only)
  refine Of_call [1, 258] (by simp) (Looks.ownis (.mk' (sp := []) get_new rfl rfl)) fun H1 b hg1 hb hnb => ?_
  rw [e2]
  rw [e1] at hb
  generalize hw : ([1, 0, 0, 0, 0, 0, 0, 0, 2, 1, 0, 0, 0, 0, 0, 0] : List UInt8) = w at *
  have hwl : w.length = 16 := by rw [← hw]; rfl
  clear hg1 hnb
  repeat' (first
    | ((with_reducible refine Side.intro ?_) <;> (first | with_reducible rfl | omega | assumption | exact Nat.le_of_ble_eq_true rfl | (simp only [bs_length, List.length_append, List.length_cons, List.length_nil, List.length_take, List.length_drop, List.length_set, List.length_replicate]; omega) | exact .inl (by omega) | exact .inr (.inl ⟨rfl, by (simp only [bs_length, List.length_append, List.length_cons, List.length_nil, List.length_take, List.length_drop, List.length_set, List.length_replicate]; omega)⟩) | exact Ref.ok_refl _ _ | (simp only [List.append_nil, List.nil_append, List.map_nil]; first | exact List.nodup_nil | exact nodup_bid1 _ | exact nodup_bid2 (by assumption)) | ((first | refine fresh_tup ?_ | skip); (repeat (first |  exact FreshA.sl _ _ FreshA_bs | exact FreshA.sl _ _ FreshA_is | exact FreshA.nils | exact FreshA.nilp | exact FreshA.int _ _ | exact FreshA.bool _ | exact FreshA.str _ | exact fresh_nil | refine fresh_cons ?_ ?_)); done) | exact rfl | (simp; done)))
    | ((conv => whnf) <;> (first
        | (with_reducible refine and_same ?_)
        | (with_reducible refine and_side ?_ ?_)
        | (with_reducible refine Br.yes rfl ?_)
        | (with_reducible refine Br.yes (by omega) ?_)
        | (with_reducible refine Br.no (by omega) ?_)
        | (with_reducible refine Br.no (by assumption) ?_)
        | (with_reducible refine Br.yes (by assumption) ?_)
        | (with_reducible refine Br.mk (fun _ => ?_) (fun _ => ?_))
        | (with_reducible refine Both.mk ?_ ?_)
        | ((with_reducible apply blkAt_intro) ; (focus (first | exact rfl | (repeat (first | assumption | exact get_new | exact get_set (by assumption) | exact get_set get_new | apply get_old | (apply get_set_ne; (focus (first | omega | (simp only [newB_length, List.length_set, List.length_append, List.length_singleton]; omega)))))); done)) ; (focus (first | rfl | assumption | omega)) ; (try dsimp only))
        | (with_reducible refine nthR_bs1 (by assumption) ?_)
        | (with_reducible refine nthR_is1 (by assumption) ?_)
        | ((with_reducible apply appendR_lit) ; (focus (first | exact rfl | (repeat (first | assumption | exact get_new | exact get_set (by assumption) | exact get_set get_new | apply get_old | (apply get_set_ne; (focus (first | omega | (simp only [newB_length, List.length_set, List.length_append, List.length_singleton]; omega)))))); done)) ; (focus (first | rfl | assumption)) ; (focus rfl) ; (focus rfl) ; (focus rfl) ; (focus (first | exact Nat.zero_le _ | omega | (simp; done) | (simp; omega))) ; (try dsimp only))
        | (with_reducible refine appendR_nil ?_ ?_)
        | (with_reducible refine lenR_own (by assumption) ?_)
        | (with_reducible refine rowsR_own (by assumption) ?_)
        | (with_reducible refine ia_own (by assumption) ?_ ?_ (fun _ _ _ _ _ => ?_))
        | (with_reducible refine ia_sl ?_ ?_)
        | (with_reducible refine IaW.of ?_)
        | (with_reducible refine SliceW.of ?_)
        | (with_reducible refine EqnW.of ?_)
        | (with_reducible refine CopyW.of ?_)
        | (with_reducible refine out_own (by assumption) (fun _ => ?_) (fun _ _ => ?_))
        | (with_reducible refine OutW.of ?_)
        | (with_reducible refine NOut.own (by assumption) ?_)
        | (with_reducible refine NOut.lit ?_)
        | (with_reducible refine nthR_z ?_)
        | (with_reducible refine nthR_left (by first | omega | (simp only [List.length_append, List.length_cons, List.length_nil, List.length_take, List.length_drop, bs_length]; omega)) ?_)
        | (with_reducible refine lenR_sl ?_)
        | (with_reducible refine lenR_nils ?_)
        | (with_reducible refine lenR_rsl ?_)
        | (with_reducible refine rowsR_sl ?_)
        | (with_reducible refine rowsR_nils ?_)
        | (with_reducible refine rowsR_rsl ?_)
        | (with_reducible refine lenR_slx ?_)
        | (with_reducible refine rowsR_slx ?_)
        | (with_reducible refine appendR_slx ?_ ?_ ?_)
        | (with_reducible refine bytesR_intro (by first | rfl | (simp only [bs_take, bs_drop, bs_append]; rfl)) ?_)
        | (with_reducible refine nthR_bs (by first | omega | (simp only [List.length_append, List.length_cons, List.length_nil, List.length_take, List.length_drop, bs_length]; omega)) (fun _ _ _ => ?_))
        | (with_reducible intro _))))
  all_goals (conv => whnf)
  all_goals (try dsimp only)
  refine Get_call w 1 (by omega) (.ownbs hb) fun H2 hg2 => ?_
  have e3 : getV w 1 = 258 := by rw [← hw]; decide +kernel
  have e4 : getOk w 1 = true := by rw [← hw]; decide +kernel
  rw [e3, e4]
  replace hb := hb.keepN hg2
  clear hg2
  repeat' (first
    | ((with_reducible refine Side.intro ?_) <;> (first | with_reducible rfl | omega | assumption | exact Nat.le_of_ble_eq_true rfl | (simp only [bs_length, List.length_append, List.length_cons, List.length_nil, List.length_take, List.length_drop, List.length_set, List.length_replicate]; omega) | exact .inl (by omega) | exact .inr (.inl ⟨rfl, by (simp only [bs_length, List.length_append, List.length_cons, List.length_nil, List.length_take, List.length_drop, List.length_set, List.length_replicate]; omega)⟩) | exact Ref.ok_refl _ _ | (simp only [List.append_nil, List.nil_append, List.map_nil]; first | exact List.nodup_nil | exact nodup_bid1 _ | exact nodup_bid2 (by assumption)) | ((first | refine fresh_tup ?_ | skip); (repeat (first |  exact FreshA.sl _ _ FreshA_bs | exact FreshA.sl _ _ FreshA_is | exact FreshA.nils | exact FreshA.nilp | exact FreshA.int _ _ | exact FreshA.bool _ | exact FreshA.str _ | exact fresh_nil | refine fresh_cons ?_ ?_)); done) | exact rfl | (simp; done)))
    | ((conv => whnf) <;> (first
        | (with_reducible refine and_same ?_)
        | (with_reducible refine and_side ?_ ?_)
        | (with_reducible refine Br.yes rfl ?_)
        | (with_reducible refine Br.yes (by omega) ?_)
        | (with_reducible refine Br.no (by omega) ?_)
        | (with_reducible refine Br.no (by assumption) ?_)
        | (with_reducible refine Br.yes (by assumption) ?_)
        | (with_reducible refine Br.mk (fun _ => ?_) (fun _ => ?_))
        | (with_reducible refine Both.mk ?_ ?_)
        | ((with_reducible apply blkAt_intro) ; (focus (first | exact rfl | (repeat (first | assumption | exact get_new | exact get_set (by assumption) | exact get_set get_new | apply get_old | (apply get_set_ne; (focus (first | omega | (simp only [newB_length, List.length_set, List.length_append, List.length_singleton]; omega)))))); done)) ; (focus (first | rfl | assumption | omega)) ; (try dsimp only))
        | (with_reducible refine nthR_bs1 (by assumption) ?_)
        | (with_reducible refine nthR_is1 (by assumption) ?_)
        | ((with_reducible apply appendR_lit) ; (focus (first | exact rfl | (repeat (first | assumption | exact get_new | exact get_set (by assumption) | exact get_set get_new | apply get_old | (apply get_set_ne; (focus (first | omega | (simp only [newB_length, List.length_set, List.length_append, List.length_singleton]; omega)))))); done)) ; (focus (first | rfl | assumption)) ; (focus rfl) ; (focus rfl) ; (focus rfl) ; (focus (first | exact Nat.zero_le _ | omega | (simp; done) | (simp; omega))) ; (try dsimp only))
        | (with_reducible refine appendR_nil ?_ ?_)
        | (with_reducible refine lenR_own (by assumption) ?_)
        | (with_reducible refine rowsR_own (by assumption) ?_)
        | (with_reducible refine ia_own (by assumption) ?_ ?_ (fun _ _ _ _ _ => ?_))
        | (with_reducible refine ia_sl ?_ ?_)
        | (with_reducible refine IaW.of ?_)
        | (with_reducible refine SliceW.of ?_)
        | (with_reducible refine EqnW.of ?_)
        | (with_reducible refine CopyW.of ?_)
        | (with_reducible refine out_own (by assumption) (fun _ => ?_) (fun _ _ => ?_))
        | (with_reducible refine OutW.of ?_)
        | (with_reducible refine NOut.own (by assumption) ?_)
        | (with_reducible refine NOut.lit ?_)
        | (with_reducible refine nthR_z ?_)
        | (with_reducible refine nthR_left (by first | omega | (simp only [List.length_append, List.length_cons, List.length_nil, List.length_take, List.length_drop, bs_length]; omega)) ?_)
        | (with_reducible refine lenR_sl ?_)
        | (with_reducible refine lenR_nils ?_)
        | (with_reducible refine lenR_rsl ?_)
        | (with_reducible refine rowsR_sl ?_)
        | (with_reducible refine rowsR_nils ?_)
        | (with_reducible refine rowsR_rsl ?_)
        | (with_reducible refine lenR_slx ?_)
        | (with_reducible refine rowsR_slx ?_)
        | (with_reducible refine appendR_slx ?_ ?_ ?_)
        | (with_reducible refine bytesR_intro (by first | rfl | (simp only [bs_take, bs_drop, bs_append]; rfl)) ?_)
        | (with_reducible refine nthR_bs (by first | omega | (simp only [List.length_append, List.length_cons, List.length_nil, List.length_take, List.length_drop, bs_length]; omega)) (fun _ _ _ => ?_))
        | (with_reducible intro _))))
  all_goals (conv => whnf)
  all_goals (try dsimp only)
  refine Get_call w 2 (by omega) (.ownbs hb) fun H2 hg2 => ?_
  have e5 : getOk w 2 = false := by rw [← hw]; decide +kernel
  rw [e5]
  replace hb := hb.keepN hg2
  clear hg2
  repeat' (first
    | ((with_reducible refine Side.intro ?_) <;> (first | with_reducible rfl | omega | assumption | exact Nat.le_of_ble_eq_true rfl | (simp only [bs_length, List.length_append, List.length_cons, List.length_nil, List.length_take, List.length_drop, List.length_set, List.length_replicate]; omega) | exact .inl (by omega) | exact .inr (.inl ⟨rfl, by (simp only [bs_length, List.length_append, List.length_cons, List.length_nil, List.length_take, List.length_drop, List.length_set, List.length_replicate]; omega)⟩) | exact Ref.ok_refl _ _ | (simp only [List.append_nil, List.nil_append, List.map_nil]; first | exact List.nodup_nil | exact nodup_bid1 _ | exact nodup_bid2 (by assumption)) | ((first | refine fresh_tup ?_ | skip); (repeat (first |  exact FreshA.sl _ _ FreshA_bs | exact FreshA.sl _ _ FreshA_is | exact FreshA.nils | exact FreshA.nilp | exact FreshA.int _ _ | exact FreshA.bool _ | exact FreshA.str _ | exact fresh_nil | refine fresh_cons ?_ ?_)); done) | exact rfl | (simp; done)))
    | ((conv => whnf) <;> (first
        | (with_reducible refine and_same ?_)
        | (with_reducible refine and_side ?_ ?_)
        | (with_reducible refine Br.yes rfl ?_)
        | (with_reducible refine Br.yes (by omega) ?_)
        | (with_reducible refine Br.no (by omega) ?_)
        | (with_reducible refine Br.no (by assumption) ?_)
        | (with_reducible refine Br.yes (by assumption) ?_)
        | (with_reducible refine Br.mk (fun _ => ?_) (fun _ => ?_))
        | (with_reducible refine Both.mk ?_ ?_)
        | ((with_reducible apply blkAt_intro) ; (focus (first | exact rfl | (repeat (first | assumption | exact get_new | exact get_set (by assumption) | exact get_set get_new | apply get_old | (apply get_set_ne; (focus (first | omega | (simp only [newB_length, List.length_set, List.length_append, List.length_singleton]; omega)))))); done)) ; (focus (first | rfl | assumption | omega)) ; (try dsimp only))
        | (with_reducible refine nthR_bs1 (by assumption) ?_)
        | (with_reducible refine nthR_is1 (by assumption) ?_)
        | ((with_reducible apply appendR_lit) ; (focus (first | exact rfl | (repeat (first | assumption | exact get_new | exact get_set (by assumption) | exact get_set get_new | apply get_old | (apply get_set_ne; (focus (first | omega | (simp only [newB_length, List.length_set, List.length_append, List.length_singleton]; omega)))))); done)) ; (focus (first | rfl | assumption)) ; (focus rfl) ; (focus rfl) ; (focus rfl) ; (focus (first | exact Nat.zero_le _ | omega | (simp; done) | (simp; omega))) ; (try dsimp only))
        | (with_reducible refine appendR_nil ?_ ?_)
        | (with_reducible refine lenR_own (by assumption) ?_)
        | (with_reducible refine rowsR_own (by assumption) ?_)
        | (with_reducible refine ia_own (by assumption) ?_ ?_ (fun _ _ _ _ _ => ?_))
        | (with_reducible refine ia_sl ?_ ?_)
        | (with_reducible refine IaW.of ?_)
        | (with_reducible refine SliceW.of ?_)
        | (with_reducible refine EqnW.of ?_)
        | (with_reducible refine CopyW.of ?_)
        | (with_reducible refine out_own (by assumption) (fun _ => ?_) (fun _ _ => ?_))
        | (with_reducible refine OutW.of ?_)
        | (with_reducible refine NOut.own (by assumption) ?_)
        | (with_reducible refine NOut.lit ?_)
        | (with_reducible refine nthR_z ?_)
        | (with_reducible refine nthR_left (by first | omega | (simp only [List.length_append, List.length_cons, List.length_nil, List.length_take, List.length_drop, bs_length]; omega)) ?_)
        | (with_reducible refine lenR_sl ?_)
        | (with_reducible refine lenR_nils ?_)
        | (with_reducible refine lenR_rsl ?_)
        | (with_reducible refine rowsR_sl ?_)
        | (with_reducible refine rowsR_nils ?_)
        | (with_reducible refine rowsR_rsl ?_)
        | (with_reducible refine lenR_slx ?_)
        | (with_reducible refine rowsR_slx ?_)
        | (with_reducible refine appendR_slx ?_ ?_ ?_)
        | (with_reducible refine bytesR_intro (by first | rfl | (simp only [bs_take, bs_drop, bs_append]; rfl)) ?_)
        | (with_reducible refine nthR_bs (by first | omega | (simp only [List.length_append, List.length_cons, List.length_nil, List.length_take, List.length_drop, bs_length]; omega)) (fun _ _ _ => ?_))
        | (with_reducible intro _))))
  all_goals (conv => whnf)
  all_goals (try dsimp only)
  refine Put_call w 0 (-1) (by omega) (.ownbs hb) fun H3 y hg2 hy hyn => ?_
  have e6 : putE w 0 (-1) = 4 := by rw [← hw]; decide +kernel
  rw [e6]
  replace hb := hb.keepN hg2
  clear hg2 hyn hy
  repeat' (first
    | ((with_reducible refine Side.intro ?_) <;> (first | with_reducible rfl | omega | assumption | exact Nat.le_of_ble_eq_true rfl | (simp only [bs_length, List.length_append, List.length_cons, List.length_nil, List.length_take, List.length_drop, List.length_set, List.length_replicate]; omega) | exact .inl (by omega) | exact .inr (.inl ⟨rfl, by (simp only [bs_length, List.length_append, List.length_cons, List.length_nil, List.length_take, List.length_drop, List.length_set, List.length_replicate]; omega)⟩) | exact Ref.ok_refl _ _ | (simp only [List.append_nil, List.nil_append, List.map_nil]; first | exact List.nodup_nil | exact nodup_bid1 _ | exact nodup_bid2 (by assumption)) | ((first | refine fresh_tup ?_ | skip); (repeat (first |  exact FreshA.sl _ _ FreshA_bs | exact FreshA.sl _ _ FreshA_is | exact FreshA.nils | exact FreshA.nilp | exact FreshA.int _ _ | exact FreshA.bool _ | exact FreshA.str _ | exact fresh_nil | refine fresh_cons ?_ ?_)); done) | exact rfl | (simp; done)))
    | ((conv => whnf) <;> (first
        | (with_reducible refine and_same ?_)
        | (with_reducible refine and_side ?_ ?_)
        | (with_reducible refine Br.yes rfl ?_)
        | (with_reducible refine Br.yes (by omega) ?_)
        | (with_reducible refine Br.no (by omega) ?_)
        | (with_reducible refine Br.no (by assumption) ?_)
        | (with_reducible refine Br.yes (by assumption) ?_)
        | (with_reducible refine Br.mk (fun _ => ?_) (fun _ => ?_))
        | (with_reducible refine Both.mk ?_ ?_)
        | ((with_reducible apply blkAt_intro) ; (focus (first | exact rfl | (repeat (first | assumption | exact get_new | exact get_set (by assumption) | exact get_set get_new | apply get_old | (apply get_set_ne; (focus (first | omega | (simp only [newB_length, List.length_set, List.length_append, List.length_singleton]; omega)))))); done)) ; (focus (first | rfl | assumption | omega)) ; (try dsimp only))
        | (with_reducible refine nthR_bs1 (by assumption) ?_)
        | (with_reducible refine nthR_is1 (by assumption) ?_)
        | ((with_reducible apply appendR_lit) ; (focus (first | exact rfl | (repeat (first | assumption | exact get_new | exact get_set (by assumption) | exact get_set get_new | apply get_old | (apply get_set_ne; (focus (first | omega | (simp only [newB_length, List.length_set, List.length_append, List.length_singleton]; omega)))))); done)) ; (focus (first | rfl | assumption)) ; (focus rfl) ; (focus rfl) ; (focus rfl) ; (focus (first | exact Nat.zero_le _ | omega | (simp; done) | (simp; omega))) ; (try dsimp only))
        | (with_reducible refine appendR_nil ?_ ?_)
        | (with_reducible refine lenR_own (by assumption) ?_)
        | (with_reducible refine rowsR_own (by assumption) ?_)
        | (with_reducible refine ia_own (by assumption) ?_ ?_ (fun _ _ _ _ _ => ?_))
        | (with_reducible refine ia_sl ?_ ?_)
        | (with_reducible refine IaW.of ?_)
        | (with_reducible refine SliceW.of ?_)
        | (with_reducible refine EqnW.of ?_)
        | (with_reducible refine CopyW.of ?_)
        | (with_reducible refine out_own (by assumption) (fun _ => ?_) (fun _ _ => ?_))
        | (with_reducible refine OutW.of ?_)
        | (with_reducible refine NOut.own (by assumption) ?_)
        | (with_reducible refine NOut.lit ?_)
        | (with_reducible refine nthR_z ?_)
        | (with_reducible refine nthR_left (by first | omega | (simp only [List.length_append, List.length_cons, List.length_nil, List.length_take, List.length_drop, bs_length]; omega)) ?_)
        | (with_reducible refine lenR_sl ?_)
        | (with_reducible refine lenR_nils ?_)
        | (with_reducible refine lenR_rsl ?_)
        | (with_reducible refine rowsR_sl ?_)
        | (with_reducible refine rowsR_nils ?_)
        | (with_reducible refine rowsR_rsl ?_)
        | (with_reducible refine lenR_slx ?_)
        | (with_reducible refine rowsR_slx ?_)
        | (with_reducible refine appendR_slx ?_ ?_ ?_)
        | (with_reducible refine bytesR_intro (by first | rfl | (simp only [bs_take, bs_drop, bs_append]; rfl)) ?_)
        | (with_reducible refine nthR_bs (by first | omega | (simp only [List.length_append, List.length_cons, List.length_nil, List.length_take, List.length_drop, bs_length]; omega)) (fun _ _ _ => ?_))
        | (with_reducible intro _))))
  all_goals (conv => whnf)
  all_goals (try dsimp only)
  refine Put_call w 2 1 (by omega) (.ownbs hb) fun H4 y hg2 hy hyn => ?_
  have e7 : putE w 2 1 = 1 := by rw [← hw]; decide +kernel
  rw [e7]
  replace hb := hb.keepN hg2
  clear hg2 hyn hy
  repeat' (first
    | ((with_reducible refine Side.intro ?_) <;> (first | with_reducible rfl | omega | assumption | exact Nat.le_of_ble_eq_true rfl | (simp only [bs_length, List.length_append, List.length_cons, List.length_nil, List.length_take, List.length_drop, List.length_set, List.length_replicate]; omega) | exact .inl (by omega) | exact .inr (.inl ⟨rfl, by (simp only [bs_length, List.length_append, List.length_cons, List.length_nil, List.length_take, List.length_drop, List.length_set, List.length_replicate]; omega)⟩) | exact Ref.ok_refl _ _ | (simp only [List.append_nil, List.nil_append, List.map_nil]; first | exact List.nodup_nil | exact nodup_bid1 _ | exact nodup_bid2 (by assumption)) | ((first | refine fresh_tup ?_ | skip); (repeat (first |  exact FreshA.sl _ _ FreshA_bs | exact FreshA.sl _ _ FreshA_is | exact FreshA.nils | exact FreshA.nilp | exact FreshA.int _ _ | exact FreshA.bool _ | exact FreshA.str _ | exact fresh_nil | refine fresh_cons ?_ ?_)); done) | exact rfl | (simp; done)))
    | ((conv => whnf) <;> (first
        | (with_reducible refine and_same ?_)
        | (with_reducible refine and_side ?_ ?_)
        | (with_reducible refine Br.yes rfl ?_)
        | (with_reducible refine Br.yes (by omega) ?_)
        | (with_reducible refine Br.no (by omega) ?_)
        | (with_reducible refine Br.no (by assumption) ?_)
        | (with_reducible refine Br.yes (by assumption) ?_)
        | (with_reducible refine Br.mk (fun _ => ?_) (fun _ => ?_))
        | (with_reducible refine Both.mk ?_ ?_)
        | ((with_reducible apply blkAt_intro) ; (focus (first | exact rfl | (repeat (first | assumption | exact get_new | exact get_set (by assumption) | exact get_set get_new | apply get_old | (apply get_set_ne; (focus (first | omega | (simp only [newB_length, List.length_set, List.length_append, List.length_singleton]; omega)))))); done)) ; (focus (first | rfl | assumption | omega)) ; (try dsimp only))
        | (with_reducible refine nthR_bs1 (by assumption) ?_)
        | (with_reducible refine nthR_is1 (by assumption) ?_)
        | ((with_reducible apply appendR_lit) ; (focus (first | exact rfl | (repeat (first | assumption | exact get_new | exact get_set (by assumption) | exact get_set get_new | apply get_old | (apply get_set_ne; (focus (first | omega | (simp only [newB_length, List.length_set, List.length_append, List.length_singleton]; omega)))))); done)) ; (focus (first | rfl | assumption)) ; (focus rfl) ; (focus rfl) ; (focus rfl) ; (focus (first | exact Nat.zero_le _ | omega | (simp; done) | (simp; omega))) ; (try dsimp only))
        | (with_reducible refine appendR_nil ?_ ?_)
        | (with_reducible refine lenR_own (by assumption) ?_)
        | (with_reducible refine rowsR_own (by assumption) ?_)
        | (with_reducible refine ia_own (by assumption) ?_ ?_ (fun _ _ _ _ _ => ?_))
        | (with_reducible refine ia_sl ?_ ?_)
        | (with_reducible refine IaW.of ?_)
        | (with_reducible refine SliceW.of ?_)
        | (with_reducible refine EqnW.of ?_)
        | (with_reducible refine CopyW.of ?_)
        | (with_reducible refine out_own (by assumption) (fun _ => ?_) (fun _ _ => ?_))
        | (with_reducible refine OutW.of ?_)
        | (with_reducible refine NOut.own (by assumption) ?_)
        | (with_reducible refine NOut.lit ?_)
        | (with_reducible refine nthR_z ?_)
        | (with_reducible refine nthR_left (by first | omega | (simp only [List.length_append, List.length_cons, List.length_nil, List.length_take, List.length_drop, bs_length]; omega)) ?_)
        | (with_reducible refine lenR_sl ?_)
        | (with_reducible refine lenR_nils ?_)
        | (with_reducible refine lenR_rsl ?_)
        | (with_reducible refine rowsR_sl ?_)
        | (with_reducible refine rowsR_nils ?_)
        | (with_reducible refine rowsR_rsl ?_)
        | (with_reducible refine lenR_slx ?_)
        | (with_reducible refine rowsR_slx ?_)
        | (with_reducible refine appendR_slx ?_ ?_ ?_)
        | (with_reducible refine bytesR_intro (by first | rfl | (simp only [bs_take, bs_drop, bs_append]; rfl)) ?_)
        | (with_reducible refine nthR_bs (by first | omega | (simp only [List.length_append, List.length_cons, List.length_nil, List.length_take, List.length_drop, bs_length]; omega)) (fun _ _ _ => ?_))
        | (with_reducible intro _))))
  all_goals (conv => whnf)
  all_goals (try dsimp only)
  exact ret_bool rfl
theorem small_call {σ : AH} {Q : AV → AH → Prop} (h : ∀ σ', Gr σ σ' none → Q (.bool true) σ') : CallS Try.prog F.joistlaw01_small [] σ Q := by
  refine small_ok.call .nil ?_
  rintro _ x σ1 rfl hg hG
  obtain rfl := hG.flat_inv rfl (by intros; simp)
  exact h σ1 hg
theorem WordsBack_ok (s : List UInt8) (at' n o : Int) (hs : s.length ≤ 4611686018427) : AOKn Try.prog F.joistlaw01_WordsBack [.sl 1 (bs s) false, .int .i64 at', .int .i64 n, .int .i64 o] fun y => y = .bool true := by
  have hn := bs_length s
  refine AOKn.by_steps mixed fc_joistlaw01_WordsBack_ok (by simp [fc_joistlaw01_WordsBack]) ?_
  repeat' (first
    | ((with_reducible refine Side.intro ?_) <;> (first | with_reducible rfl | omega | assumption | exact Nat.le_of_ble_eq_true rfl | (simp only [bs_length, List.length_append, List.length_cons, List.length_nil, List.length_take, List.length_drop, List.length_set, List.length_replicate]; omega) | exact .inl (by omega) | exact .inr (.inl ⟨rfl, by (simp only [bs_length, List.length_append, List.length_cons, List.length_nil, List.length_take, List.length_drop, List.length_set, List.length_replicate]; omega)⟩) | exact Ref.ok_refl _ _ | (simp only [List.append_nil, List.nil_append, List.map_nil]; first | exact List.nodup_nil | exact nodup_bid1 _ | exact nodup_bid2 (by assumption)) | ((first | refine fresh_tup ?_ | skip); (repeat (first |  exact FreshA.sl _ _ FreshA_bs | exact FreshA.sl _ _ FreshA_is | exact FreshA.nils | exact FreshA.nilp | exact FreshA.int _ _ | exact FreshA.bool _ | exact FreshA.str _ | exact fresh_nil | refine fresh_cons ?_ ?_)); done) | exact rfl | (simp; done)))
    | ((conv => whnf) <;> (first
        | (with_reducible refine and_same ?_)
        | (with_reducible refine and_side ?_ ?_)
        | (with_reducible refine Br.yes rfl ?_)
        | (with_reducible refine Br.yes (by omega) ?_)
        | (with_reducible refine Br.no (by omega) ?_)
        | (with_reducible refine Br.no (by assumption) ?_)
        | (with_reducible refine Br.yes (by assumption) ?_)
        | (with_reducible refine Br.mk (fun _ => ?_) (fun _ => ?_))
        | (with_reducible refine Both.mk ?_ ?_)
        | ((with_reducible apply blkAt_intro) ; (focus (first | exact rfl | (repeat (first | assumption | exact get_new | exact get_set (by assumption) | exact get_set get_new | apply get_old | (apply get_set_ne; (focus (first | omega | (simp only [newB_length, List.length_set, List.length_append, List.length_singleton]; omega)))))); done)) ; (focus (first | rfl | assumption | omega)) ; (try dsimp only))
        | (with_reducible refine nthR_bs1 (by assumption) ?_)
        | (with_reducible refine nthR_is1 (by assumption) ?_)
        | ((with_reducible apply appendR_lit) ; (focus (first | exact rfl | (repeat (first | assumption | exact get_new | exact get_set (by assumption) | exact get_set get_new | apply get_old | (apply get_set_ne; (focus (first | omega | (simp only [newB_length, List.length_set, List.length_append, List.length_singleton]; omega)))))); done)) ; (focus (first | rfl | assumption)) ; (focus rfl) ; (focus rfl) ; (focus rfl) ; (focus (first | exact Nat.zero_le _ | omega | (simp; done) | (simp; omega))) ; (try dsimp only))
        | (with_reducible refine appendR_nil ?_ ?_)
        | (with_reducible refine lenR_own (by assumption) ?_)
        | (with_reducible refine rowsR_own (by assumption) ?_)
        | (with_reducible refine ia_own (by assumption) ?_ ?_ (fun _ _ _ _ _ => ?_))
        | (with_reducible refine ia_sl ?_ ?_)
        | (with_reducible refine IaW.of ?_)
        | (with_reducible refine SliceW.of ?_)
        | (with_reducible refine EqnW.of ?_)
        | (with_reducible refine CopyW.of ?_)
        | (with_reducible refine out_own (by assumption) (fun _ => ?_) (fun _ _ => ?_))
        | (with_reducible refine OutW.of ?_)
        | (with_reducible refine NOut.own (by assumption) ?_)
        | (with_reducible refine NOut.lit ?_)
        | (with_reducible refine nthR_z ?_)
        | (with_reducible refine nthR_left (by first | omega | (simp only [List.length_append, List.length_cons, List.length_nil, List.length_take, List.length_drop, bs_length]; omega)) ?_)
        | (with_reducible refine lenR_sl ?_)
        | (with_reducible refine lenR_nils ?_)
        | (with_reducible refine lenR_rsl ?_)
        | (with_reducible refine rowsR_sl ?_)
        | (with_reducible refine rowsR_nils ?_)
        | (with_reducible refine rowsR_rsl ?_)
        | (with_reducible refine lenR_slx ?_)
        | (with_reducible refine rowsR_slx ?_)
        | (with_reducible refine appendR_slx ?_ ?_ ?_)
        | (with_reducible refine bytesR_intro (by first | rfl | (simp only [bs_take, bs_drop, bs_append]; rfl)) ?_)
        | (with_reducible refine nthR_bs (by first | omega | (simp only [List.length_append, List.length_cons, List.length_nil, List.length_take, List.length_drop, bs_length]; omega)) (fun _ _ _ => ?_))
        | (with_reducible intro _))))
  all_goals (conv => whnf)
  all_goals (try dsimp only)
  refine small_call fun H0 hg0 => ?_
  repeat' (first
    | ((with_reducible refine Side.intro ?_) <;> (first | with_reducible rfl | omega | assumption | exact Nat.le_of_ble_eq_true rfl | (simp only [bs_length, List.length_append, List.length_cons, List.length_nil, List.length_take, List.length_drop, List.length_set, List.length_replicate]; omega) | exact .inl (by omega) | exact .inr (.inl ⟨rfl, by (simp only [bs_length, List.length_append, List.length_cons, List.length_nil, List.length_take, List.length_drop, List.length_set, List.length_replicate]; omega)⟩) | exact Ref.ok_refl _ _ | (simp only [List.append_nil, List.nil_append, List.map_nil]; first | exact List.nodup_nil | exact nodup_bid1 _ | exact nodup_bid2 (by assumption)) | ((first | refine fresh_tup ?_ | skip); (repeat (first |  exact FreshA.sl _ _ FreshA_bs | exact FreshA.sl _ _ FreshA_is | exact FreshA.nils | exact FreshA.nilp | exact FreshA.int _ _ | exact FreshA.bool _ | exact FreshA.str _ | exact fresh_nil | refine fresh_cons ?_ ?_)); done) | exact rfl | (simp; done)))
    | ((conv => whnf) <;> (first
        | (with_reducible refine and_same ?_)
        | (with_reducible refine and_side ?_ ?_)
        | (with_reducible refine Br.yes rfl ?_)
        | (with_reducible refine Br.yes (by omega) ?_)
        | (with_reducible refine Br.no (by omega) ?_)
        | (with_reducible refine Br.no (by assumption) ?_)
        | (with_reducible refine Br.yes (by assumption) ?_)
        | (with_reducible refine Br.mk (fun _ => ?_) (fun _ => ?_))
        | (with_reducible refine Both.mk ?_ ?_)
        | ((with_reducible apply blkAt_intro) ; (focus (first | exact rfl | (repeat (first | assumption | exact get_new | exact get_set (by assumption) | exact get_set get_new | apply get_old | (apply get_set_ne; (focus (first | omega | (simp only [newB_length, List.length_set, List.length_append, List.length_singleton]; omega)))))); done)) ; (focus (first | rfl | assumption | omega)) ; (try dsimp only))
        | (with_reducible refine nthR_bs1 (by assumption) ?_)
        | (with_reducible refine nthR_is1 (by assumption) ?_)
        | ((with_reducible apply appendR_lit) ; (focus (first | exact rfl | (repeat (first | assumption | exact get_new | exact get_set (by assumption) | exact get_set get_new | apply get_old | (apply get_set_ne; (focus (first | omega | (simp only [newB_length, List.length_set, List.length_append, List.length_singleton]; omega)))))); done)) ; (focus (first | rfl | assumption)) ; (focus rfl) ; (focus rfl) ; (focus rfl) ; (focus (first | exact Nat.zero_le _ | omega | (simp; done) | (simp; omega))) ; (try dsimp only))
        | (with_reducible refine appendR_nil ?_ ?_)
        | (with_reducible refine lenR_own (by assumption) ?_)
        | (with_reducible refine rowsR_own (by assumption) ?_)
        | (with_reducible refine ia_own (by assumption) ?_ ?_ (fun _ _ _ _ _ => ?_))
        | (with_reducible refine ia_sl ?_ ?_)
        | (with_reducible refine IaW.of ?_)
        | (with_reducible refine SliceW.of ?_)
        | (with_reducible refine EqnW.of ?_)
        | (with_reducible refine CopyW.of ?_)
        | (with_reducible refine out_own (by assumption) (fun _ => ?_) (fun _ _ => ?_))
        | (with_reducible refine OutW.of ?_)
        | (with_reducible refine NOut.own (by assumption) ?_)
        | (with_reducible refine NOut.lit ?_)
        | (with_reducible refine nthR_z ?_)
        | (with_reducible refine nthR_left (by first | omega | (simp only [List.length_append, List.length_cons, List.length_nil, List.length_take, List.length_drop, bs_length]; omega)) ?_)
        | (with_reducible refine lenR_sl ?_)
        | (with_reducible refine lenR_nils ?_)
        | (with_reducible refine lenR_rsl ?_)
        | (with_reducible refine rowsR_sl ?_)
        | (with_reducible refine rowsR_nils ?_)
        | (with_reducible refine rowsR_rsl ?_)
        | (with_reducible refine lenR_slx ?_)
        | (with_reducible refine rowsR_slx ?_)
        | (with_reducible refine appendR_slx ?_ ?_ ?_)
        | (with_reducible refine bytesR_intro (by first | rfl | (simp only [bs_take, bs_drop, bs_append]; rfl)) ?_)
        | (with_reducible refine nthR_bs (by first | omega | (simp only [List.length_append, List.length_cons, List.length_nil, List.length_take, List.length_drop, bs_length]; omega)) (fun _ _ _ => ?_))
        | (with_reducible intro _))))
  all_goals (conv => whnf)
  all_goals (try dsimp only)
  refine Put_call s at' n (by omega) (.bs _ _ _) fun H1 x hg1 hx hxn => ?_
  by_cases hE : putE s at' n = 0
  · have hr : putR s at' n = put1 s at'.toNat n.toNat := by simp [putR, hE]
    have hin : inR s at' = true := by
      cases h : inR s at'
      · simp [putE, h] at hE
      · rfl
    have hmay : mayW n = true := by
      cases h : mayW n
      · simp [putE, hin, h] at hE
      · rfl
    have hp1 : 0 ≤ at' ∧ at' < (s.length : Int) / 8 := by simpa [inR] using hin
    have hp2 : 0 ≤ n ∧ n ≤ 4611686018427387903 := by simpa [mayW] using hmay
    rw [hr] at hx
    rw [hE]
    have hpl := put1_length s at'.toNat n.toNat (by omega)
    have hbl := bs_length (put1 s at'.toNat n.toNat)
    repeat' (first
      | ((with_reducible refine Side.intro ?_) <;> (first | with_reducible rfl | omega | assumption | exact Nat.le_of_ble_eq_true rfl | (simp only [bs_length, List.length_append, List.length_cons, List.length_nil, List.length_take, List.length_drop, List.length_set, List.length_replicate]; omega) | exact .inl (by omega) | exact .inr (.inl ⟨rfl, by (simp only [bs_length, List.length_append, List.length_cons, List.length_nil, List.length_take, List.length_drop, List.length_set, List.length_replicate]; omega)⟩) | exact Ref.ok_refl _ _ | (simp only [List.append_nil, List.nil_append, List.map_nil]; first | exact List.nodup_nil | exact nodup_bid1 _ | exact nodup_bid2 (by assumption)) | ((first | refine fresh_tup ?_ | skip); (repeat (first |  exact FreshA.sl _ _ FreshA_bs | exact FreshA.sl _ _ FreshA_is | exact FreshA.nils | exact FreshA.nilp | exact FreshA.int _ _ | exact FreshA.bool _ | exact FreshA.str _ | exact fresh_nil | refine fresh_cons ?_ ?_)); done) | exact rfl | (simp; done)))
      | ((conv => whnf) <;> (first
          | (with_reducible refine and_same ?_)
          | (with_reducible refine and_side ?_ ?_)
          | (with_reducible refine Br.yes rfl ?_)
          | (with_reducible refine Br.yes (by omega) ?_)
          | (with_reducible refine Br.no (by omega) ?_)
          | (with_reducible refine Br.no (by assumption) ?_)
          | (with_reducible refine Br.yes (by assumption) ?_)
          | (with_reducible refine Br.mk (fun _ => ?_) (fun _ => ?_))
          | (with_reducible refine Both.mk ?_ ?_)
          | ((with_reducible apply blkAt_intro) ; (focus (first | exact rfl | (repeat (first | assumption | exact get_new | exact get_set (by assumption) | exact get_set get_new | apply get_old | (apply get_set_ne; (focus (first | omega | (simp only [newB_length, List.length_set, List.length_append, List.length_singleton]; omega)))))); done)) ; (focus (first | rfl | assumption | omega)) ; (try dsimp only))
          | (with_reducible refine nthR_bs1 (by assumption) ?_)
          | (with_reducible refine nthR_is1 (by assumption) ?_)
          | ((with_reducible apply appendR_lit) ; (focus (first | exact rfl | (repeat (first | assumption | exact get_new | exact get_set (by assumption) | exact get_set get_new | apply get_old | (apply get_set_ne; (focus (first | omega | (simp only [newB_length, List.length_set, List.length_append, List.length_singleton]; omega)))))); done)) ; (focus (first | rfl | assumption)) ; (focus rfl) ; (focus rfl) ; (focus rfl) ; (focus (first | exact Nat.zero_le _ | omega | (simp; done) | (simp; omega))) ; (try dsimp only))
          | (with_reducible refine appendR_nil ?_ ?_)
          | (with_reducible refine lenR_own (by assumption) ?_)
          | (with_reducible refine rowsR_own (by assumption) ?_)
          | (with_reducible refine ia_own (by assumption) ?_ ?_ (fun _ _ _ _ _ => ?_))
          | (with_reducible refine ia_sl ?_ ?_)
          | (with_reducible refine IaW.of ?_)
          | (with_reducible refine SliceW.of ?_)
          | (with_reducible refine EqnW.of ?_)
          | (with_reducible refine CopyW.of ?_)
          | (with_reducible refine out_own (by assumption) (fun _ => ?_) (fun _ _ => ?_))
          | (with_reducible refine OutW.of ?_)
          | (with_reducible refine NOut.own (by assumption) ?_)
          | (with_reducible refine NOut.lit ?_)
          | (with_reducible refine nthR_z ?_)
          | (with_reducible refine nthR_left (by first | omega | (simp only [List.length_append, List.length_cons, List.length_nil, List.length_take, List.length_drop, bs_length]; omega)) ?_)
          | (with_reducible refine lenR_sl ?_)
          | (with_reducible refine lenR_nils ?_)
          | (with_reducible refine lenR_rsl ?_)
          | (with_reducible refine rowsR_sl ?_)
          | (with_reducible refine rowsR_nils ?_)
          | (with_reducible refine rowsR_rsl ?_)
          | (with_reducible refine lenR_slx ?_)
          | (with_reducible refine rowsR_slx ?_)
          | (with_reducible refine appendR_slx ?_ ?_ ?_)
          | (with_reducible refine bytesR_intro (by first | rfl | (simp only [bs_take, bs_drop, bs_append]; rfl)) ?_)
          | (with_reducible refine nthR_bs (by first | omega | (simp only [List.length_append, List.length_cons, List.length_nil, List.length_take, List.length_drop, bs_length]; omega)) (fun _ _ _ => ?_))
          | (with_reducible intro _))))
    all_goals (conv => whnf)
    all_goals (try dsimp only)
    refine Get_call _ at' (by omega) (.ownbs hx) fun H2 hg2 => ?_
    replace hx := hx.keepN hg2
    rw [getOk_put1 s at' n hp1 hp2, getV_put1 s at' n hp1 hp2]
    repeat' (first
      | ((with_reducible refine Side.intro ?_) <;> (first | with_reducible rfl | omega | assumption | exact Nat.le_of_ble_eq_true rfl | (simp only [bs_length, List.length_append, List.length_cons, List.length_nil, List.length_take, List.length_drop, List.length_set, List.length_replicate]; omega) | exact .inl (by omega) | exact .inr (.inl ⟨rfl, by (simp only [bs_length, List.length_append, List.length_cons, List.length_nil, List.length_take, List.length_drop, List.length_set, List.length_replicate]; omega)⟩) | exact Ref.ok_refl _ _ | (simp only [List.append_nil, List.nil_append, List.map_nil]; first | exact List.nodup_nil | exact nodup_bid1 _ | exact nodup_bid2 (by assumption)) | ((first | refine fresh_tup ?_ | skip); (repeat (first |  exact FreshA.sl _ _ FreshA_bs | exact FreshA.sl _ _ FreshA_is | exact FreshA.nils | exact FreshA.nilp | exact FreshA.int _ _ | exact FreshA.bool _ | exact FreshA.str _ | exact fresh_nil | refine fresh_cons ?_ ?_)); done) | exact rfl | (simp; done)))
      | ((conv => whnf) <;> (first
          | (with_reducible refine and_same ?_)
          | (with_reducible refine and_side ?_ ?_)
          | (with_reducible refine Br.yes rfl ?_)
          | (with_reducible refine Br.yes (by omega) ?_)
          | (with_reducible refine Br.no (by omega) ?_)
          | (with_reducible refine Br.no (by assumption) ?_)
          | (with_reducible refine Br.yes (by assumption) ?_)
          | (with_reducible refine Br.mk (fun _ => ?_) (fun _ => ?_))
          | (with_reducible refine Both.mk ?_ ?_)
          | ((with_reducible apply blkAt_intro) ; (focus (first | exact rfl | (repeat (first | assumption | exact get_new | exact get_set (by assumption) | exact get_set get_new | apply get_old | (apply get_set_ne; (focus (first | omega | (simp only [newB_length, List.length_set, List.length_append, List.length_singleton]; omega)))))); done)) ; (focus (first | rfl | assumption | omega)) ; (try dsimp only))
          | (with_reducible refine nthR_bs1 (by assumption) ?_)
          | (with_reducible refine nthR_is1 (by assumption) ?_)
          | ((with_reducible apply appendR_lit) ; (focus (first | exact rfl | (repeat (first | assumption | exact get_new | exact get_set (by assumption) | exact get_set get_new | apply get_old | (apply get_set_ne; (focus (first | omega | (simp only [newB_length, List.length_set, List.length_append, List.length_singleton]; omega)))))); done)) ; (focus (first | rfl | assumption)) ; (focus rfl) ; (focus rfl) ; (focus rfl) ; (focus (first | exact Nat.zero_le _ | omega | (simp; done) | (simp; omega))) ; (try dsimp only))
          | (with_reducible refine appendR_nil ?_ ?_)
          | (with_reducible refine lenR_own (by assumption) ?_)
          | (with_reducible refine rowsR_own (by assumption) ?_)
          | (with_reducible refine ia_own (by assumption) ?_ ?_ (fun _ _ _ _ _ => ?_))
          | (with_reducible refine ia_sl ?_ ?_)
          | (with_reducible refine IaW.of ?_)
          | (with_reducible refine SliceW.of ?_)
          | (with_reducible refine EqnW.of ?_)
          | (with_reducible refine CopyW.of ?_)
          | (with_reducible refine out_own (by assumption) (fun _ => ?_) (fun _ _ => ?_))
          | (with_reducible refine OutW.of ?_)
          | (with_reducible refine NOut.own (by assumption) ?_)
          | (with_reducible refine NOut.lit ?_)
          | (with_reducible refine nthR_z ?_)
          | (with_reducible refine nthR_left (by first | omega | (simp only [List.length_append, List.length_cons, List.length_nil, List.length_take, List.length_drop, bs_length]; omega)) ?_)
          | (with_reducible refine lenR_sl ?_)
          | (with_reducible refine lenR_nils ?_)
          | (with_reducible refine lenR_rsl ?_)
          | (with_reducible refine rowsR_sl ?_)
          | (with_reducible refine rowsR_nils ?_)
          | (with_reducible refine rowsR_rsl ?_)
          | (with_reducible refine lenR_slx ?_)
          | (with_reducible refine rowsR_slx ?_)
          | (with_reducible refine appendR_slx ?_ ?_ ?_)
          | (with_reducible refine bytesR_intro (by first | rfl | (simp only [bs_take, bs_drop, bs_append]; rfl)) ?_)
          | (with_reducible refine nthR_bs (by first | omega | (simp only [List.length_append, List.length_cons, List.length_nil, List.length_take, List.length_drop, bs_length]; omega)) (fun _ _ _ => ?_))
          | (with_reducible intro _))))
    all_goals (conv => whnf)
    all_goals (try dsimp only)
    refine Get_call s o (by omega) (.bs _ _ _) fun H3 hg3 => ?_
    replace hx := hx.keepN hg3
    repeat' (first
      | ((with_reducible refine Side.intro ?_) <;> (first | with_reducible rfl | omega | assumption | exact Nat.le_of_ble_eq_true rfl | (simp only [bs_length, List.length_append, List.length_cons, List.length_nil, List.length_take, List.length_drop, List.length_set, List.length_replicate]; omega) | exact .inl (by omega) | exact .inr (.inl ⟨rfl, by (simp only [bs_length, List.length_append, List.length_cons, List.length_nil, List.length_take, List.length_drop, List.length_set, List.length_replicate]; omega)⟩) | exact Ref.ok_refl _ _ | (simp only [List.append_nil, List.nil_append, List.map_nil]; first | exact List.nodup_nil | exact nodup_bid1 _ | exact nodup_bid2 (by assumption)) | ((first | refine fresh_tup ?_ | skip); (repeat (first |  exact FreshA.sl _ _ FreshA_bs | exact FreshA.sl _ _ FreshA_is | exact FreshA.nils | exact FreshA.nilp | exact FreshA.int _ _ | exact FreshA.bool _ | exact FreshA.str _ | exact fresh_nil | refine fresh_cons ?_ ?_)); done) | exact rfl | (simp; done)))
      | ((conv => whnf) <;> (first
          | (with_reducible refine and_same ?_)
          | (with_reducible refine and_side ?_ ?_)
          | (with_reducible refine Br.yes rfl ?_)
          | (with_reducible refine Br.yes (by omega) ?_)
          | (with_reducible refine Br.no (by omega) ?_)
          | (with_reducible refine Br.no (by assumption) ?_)
          | (with_reducible refine Br.yes (by assumption) ?_)
          | (with_reducible refine Br.mk (fun _ => ?_) (fun _ => ?_))
          | (with_reducible refine Both.mk ?_ ?_)
          | ((with_reducible apply blkAt_intro) ; (focus (first | exact rfl | (repeat (first | assumption | exact get_new | exact get_set (by assumption) | exact get_set get_new | apply get_old | (apply get_set_ne; (focus (first | omega | (simp only [newB_length, List.length_set, List.length_append, List.length_singleton]; omega)))))); done)) ; (focus (first | rfl | assumption | omega)) ; (try dsimp only))
          | (with_reducible refine nthR_bs1 (by assumption) ?_)
          | (with_reducible refine nthR_is1 (by assumption) ?_)
          | ((with_reducible apply appendR_lit) ; (focus (first | exact rfl | (repeat (first | assumption | exact get_new | exact get_set (by assumption) | exact get_set get_new | apply get_old | (apply get_set_ne; (focus (first | omega | (simp only [newB_length, List.length_set, List.length_append, List.length_singleton]; omega)))))); done)) ; (focus (first | rfl | assumption)) ; (focus rfl) ; (focus rfl) ; (focus rfl) ; (focus (first | exact Nat.zero_le _ | omega | (simp; done) | (simp; omega))) ; (try dsimp only))
          | (with_reducible refine appendR_nil ?_ ?_)
          | (with_reducible refine lenR_own (by assumption) ?_)
          | (with_reducible refine rowsR_own (by assumption) ?_)
          | (with_reducible refine ia_own (by assumption) ?_ ?_ (fun _ _ _ _ _ => ?_))
          | (with_reducible refine ia_sl ?_ ?_)
          | (with_reducible refine IaW.of ?_)
          | (with_reducible refine SliceW.of ?_)
          | (with_reducible refine EqnW.of ?_)
          | (with_reducible refine CopyW.of ?_)
          | (with_reducible refine out_own (by assumption) (fun _ => ?_) (fun _ _ => ?_))
          | (with_reducible refine OutW.of ?_)
          | (with_reducible refine NOut.own (by assumption) ?_)
          | (with_reducible refine NOut.lit ?_)
          | (with_reducible refine nthR_z ?_)
          | (with_reducible refine nthR_left (by first | omega | (simp only [List.length_append, List.length_cons, List.length_nil, List.length_take, List.length_drop, bs_length]; omega)) ?_)
          | (with_reducible refine lenR_sl ?_)
          | (with_reducible refine lenR_nils ?_)
          | (with_reducible refine lenR_rsl ?_)
          | (with_reducible refine rowsR_sl ?_)
          | (with_reducible refine rowsR_nils ?_)
          | (with_reducible refine rowsR_rsl ?_)
          | (with_reducible refine lenR_slx ?_)
          | (with_reducible refine rowsR_slx ?_)
          | (with_reducible refine appendR_slx ?_ ?_ ?_)
          | (with_reducible refine bytesR_intro (by first | rfl | (simp only [bs_take, bs_drop, bs_append]; rfl)) ?_)
          | (with_reducible refine nthR_bs (by first | omega | (simp only [List.length_append, List.length_cons, List.length_nil, List.length_take, List.length_drop, bs_length]; omega)) (fun _ _ _ => ?_))
          | (with_reducible intro _))))
    all_goals (conv => whnf)
    all_goals (try dsimp only)
    refine Get_call _ o (by omega) (.ownbs hx) fun H4 hg4 => ?_
    by_cases ho : o = at'
    · repeat' (first
        | ((with_reducible refine Side.intro ?_) <;> (first | with_reducible rfl | omega | assumption | exact Nat.le_of_ble_eq_true rfl | (simp only [bs_length, List.length_append, List.length_cons, List.length_nil, List.length_take, List.length_drop, List.length_set, List.length_replicate]; omega) | exact .inl (by omega) | exact .inr (.inl ⟨rfl, by (simp only [bs_length, List.length_append, List.length_cons, List.length_nil, List.length_take, List.length_drop, List.length_set, List.length_replicate]; omega)⟩) | exact Ref.ok_refl _ _ | (simp only [List.append_nil, List.nil_append, List.map_nil]; first | exact List.nodup_nil | exact nodup_bid1 _ | exact nodup_bid2 (by assumption)) | ((first | refine fresh_tup ?_ | skip); (repeat (first |  exact FreshA.sl _ _ FreshA_bs | exact FreshA.sl _ _ FreshA_is | exact FreshA.nils | exact FreshA.nilp | exact FreshA.int _ _ | exact FreshA.bool _ | exact FreshA.str _ | exact fresh_nil | refine fresh_cons ?_ ?_)); done) | exact rfl | (simp; done)))
        | ((conv => whnf) <;> (first
            | (with_reducible refine and_same ?_)
            | (with_reducible refine and_side ?_ ?_)
            | (with_reducible refine Br.yes rfl ?_)
            | (with_reducible refine Br.yes (by omega) ?_)
            | (with_reducible refine Br.no (by omega) ?_)
            | (with_reducible refine Br.no (by assumption) ?_)
            | (with_reducible refine Br.yes (by assumption) ?_)
            | (with_reducible refine Br.mk (fun _ => ?_) (fun _ => ?_))
            | (with_reducible refine Both.mk ?_ ?_)
            | ((with_reducible apply blkAt_intro) ; (focus (first | exact rfl | (repeat (first | assumption | exact get_new | exact get_set (by assumption) | exact get_set get_new | apply get_old | (apply get_set_ne; (focus (first | omega | (simp only [newB_length, List.length_set, List.length_append, List.length_singleton]; omega)))))); done)) ; (focus (first | rfl | assumption | omega)) ; (try dsimp only))
            | (with_reducible refine nthR_bs1 (by assumption) ?_)
            | (with_reducible refine nthR_is1 (by assumption) ?_)
            | ((with_reducible apply appendR_lit) ; (focus (first | exact rfl | (repeat (first | assumption | exact get_new | exact get_set (by assumption) | exact get_set get_new | apply get_old | (apply get_set_ne; (focus (first | omega | (simp only [newB_length, List.length_set, List.length_append, List.length_singleton]; omega)))))); done)) ; (focus (first | rfl | assumption)) ; (focus rfl) ; (focus rfl) ; (focus rfl) ; (focus (first | exact Nat.zero_le _ | omega | (simp; done) | (simp; omega))) ; (try dsimp only))
            | (with_reducible refine appendR_nil ?_ ?_)
            | (with_reducible refine lenR_own (by assumption) ?_)
            | (with_reducible refine rowsR_own (by assumption) ?_)
            | (with_reducible refine ia_own (by assumption) ?_ ?_ (fun _ _ _ _ _ => ?_))
            | (with_reducible refine ia_sl ?_ ?_)
            | (with_reducible refine IaW.of ?_)
            | (with_reducible refine SliceW.of ?_)
            | (with_reducible refine EqnW.of ?_)
            | (with_reducible refine CopyW.of ?_)
            | (with_reducible refine out_own (by assumption) (fun _ => ?_) (fun _ _ => ?_))
            | (with_reducible refine OutW.of ?_)
            | (with_reducible refine NOut.own (by assumption) ?_)
            | (with_reducible refine NOut.lit ?_)
            | (with_reducible refine nthR_z ?_)
            | (with_reducible refine nthR_left (by first | omega | (simp only [List.length_append, List.length_cons, List.length_nil, List.length_take, List.length_drop, bs_length]; omega)) ?_)
            | (with_reducible refine lenR_sl ?_)
            | (with_reducible refine lenR_nils ?_)
            | (with_reducible refine lenR_rsl ?_)
            | (with_reducible refine rowsR_sl ?_)
            | (with_reducible refine rowsR_nils ?_)
            | (with_reducible refine rowsR_rsl ?_)
            | (with_reducible refine lenR_slx ?_)
            | (with_reducible refine rowsR_slx ?_)
            | (with_reducible refine appendR_slx ?_ ?_ ?_)
            | (with_reducible refine bytesR_intro (by first | rfl | (simp only [bs_take, bs_drop, bs_append]; rfl)) ?_)
            | (with_reducible refine nthR_bs (by first | omega | (simp only [List.length_append, List.length_cons, List.length_nil, List.length_take, List.length_drop, bs_length]; omega)) (fun _ _ _ => ?_))
            | (with_reducible intro _))))
      all_goals (conv => whnf)
      all_goals (try dsimp only)
      exact ret_bool rfl
    · rw [getOk_put2 s at' n o hp1 ho, getV_put2 s at' n o hp1 ho]
      repeat' (first
        | ((with_reducible refine Side.intro ?_) <;> (first | with_reducible rfl | omega | assumption | exact Nat.le_of_ble_eq_true rfl | (simp only [bs_length, List.length_append, List.length_cons, List.length_nil, List.length_take, List.length_drop, List.length_set, List.length_replicate]; omega) | exact .inl (by omega) | exact .inr (.inl ⟨rfl, by (simp only [bs_length, List.length_append, List.length_cons, List.length_nil, List.length_take, List.length_drop, List.length_set, List.length_replicate]; omega)⟩) | exact Ref.ok_refl _ _ | (simp only [List.append_nil, List.nil_append, List.map_nil]; first | exact List.nodup_nil | exact nodup_bid1 _ | exact nodup_bid2 (by assumption)) | ((first | refine fresh_tup ?_ | skip); (repeat (first |  exact FreshA.sl _ _ FreshA_bs | exact FreshA.sl _ _ FreshA_is | exact FreshA.nils | exact FreshA.nilp | exact FreshA.int _ _ | exact FreshA.bool _ | exact FreshA.str _ | exact fresh_nil | refine fresh_cons ?_ ?_)); done) | exact rfl | (simp; done)))
        | ((conv => whnf) <;> (first
            | (with_reducible refine and_same ?_)
            | (with_reducible refine and_side ?_ ?_)
            | (with_reducible refine Br.yes rfl ?_)
            | (with_reducible refine Br.yes (by omega) ?_)
            | (with_reducible refine Br.no (by omega) ?_)
            | (with_reducible refine Br.no (by assumption) ?_)
            | (with_reducible refine Br.yes (by assumption) ?_)
            | (with_reducible refine Br.mk (fun _ => ?_) (fun _ => ?_))
            | (with_reducible refine Both.mk ?_ ?_)
            | ((with_reducible apply blkAt_intro) ; (focus (first | exact rfl | (repeat (first | assumption | exact get_new | exact get_set (by assumption) | exact get_set get_new | apply get_old | (apply get_set_ne; (focus (first | omega | (simp only [newB_length, List.length_set, List.length_append, List.length_singleton]; omega)))))); done)) ; (focus (first | rfl | assumption | omega)) ; (try dsimp only))
            | (with_reducible refine nthR_bs1 (by assumption) ?_)
            | (with_reducible refine nthR_is1 (by assumption) ?_)
            | ((with_reducible apply appendR_lit) ; (focus (first | exact rfl | (repeat (first | assumption | exact get_new | exact get_set (by assumption) | exact get_set get_new | apply get_old | (apply get_set_ne; (focus (first | omega | (simp only [newB_length, List.length_set, List.length_append, List.length_singleton]; omega)))))); done)) ; (focus (first | rfl | assumption)) ; (focus rfl) ; (focus rfl) ; (focus rfl) ; (focus (first | exact Nat.zero_le _ | omega | (simp; done) | (simp; omega))) ; (try dsimp only))
            | (with_reducible refine appendR_nil ?_ ?_)
            | (with_reducible refine lenR_own (by assumption) ?_)
            | (with_reducible refine rowsR_own (by assumption) ?_)
            | (with_reducible refine ia_own (by assumption) ?_ ?_ (fun _ _ _ _ _ => ?_))
            | (with_reducible refine ia_sl ?_ ?_)
            | (with_reducible refine IaW.of ?_)
            | (with_reducible refine SliceW.of ?_)
            | (with_reducible refine EqnW.of ?_)
            | (with_reducible refine CopyW.of ?_)
            | (with_reducible refine out_own (by assumption) (fun _ => ?_) (fun _ _ => ?_))
            | (with_reducible refine OutW.of ?_)
            | (with_reducible refine NOut.own (by assumption) ?_)
            | (with_reducible refine NOut.lit ?_)
            | (with_reducible refine nthR_z ?_)
            | (with_reducible refine nthR_left (by first | omega | (simp only [List.length_append, List.length_cons, List.length_nil, List.length_take, List.length_drop, bs_length]; omega)) ?_)
            | (with_reducible refine lenR_sl ?_)
            | (with_reducible refine lenR_nils ?_)
            | (with_reducible refine lenR_rsl ?_)
            | (with_reducible refine rowsR_sl ?_)
            | (with_reducible refine rowsR_nils ?_)
            | (with_reducible refine rowsR_rsl ?_)
            | (with_reducible refine lenR_slx ?_)
            | (with_reducible refine rowsR_slx ?_)
            | (with_reducible refine appendR_slx ?_ ?_ ?_)
            | (with_reducible refine bytesR_intro (by first | rfl | (simp only [bs_take, bs_drop, bs_append]; rfl)) ?_)
            | (with_reducible refine nthR_bs (by first | omega | (simp only [List.length_append, List.length_cons, List.length_nil, List.length_take, List.length_drop, bs_length]; omega)) (fun _ _ _ => ?_))
            | (with_reducible intro _))))
      all_goals (conv => whnf)
      all_goals (try dsimp only)
      exact ret_bool rfl
  · have hr : putR s at' n = [] := by simp [putR, hE]
    rw [hr] at hx
    repeat' (first
      | ((with_reducible refine Side.intro ?_) <;> (first | with_reducible rfl | omega | assumption | exact Nat.le_of_ble_eq_true rfl | (simp only [bs_length, List.length_append, List.length_cons, List.length_nil, List.length_take, List.length_drop, List.length_set, List.length_replicate]; omega) | exact .inl (by omega) | exact .inr (.inl ⟨rfl, by (simp only [bs_length, List.length_append, List.length_cons, List.length_nil, List.length_take, List.length_drop, List.length_set, List.length_replicate]; omega)⟩) | exact Ref.ok_refl _ _ | (simp only [List.append_nil, List.nil_append, List.map_nil]; first | exact List.nodup_nil | exact nodup_bid1 _ | exact nodup_bid2 (by assumption)) | ((first | refine fresh_tup ?_ | skip); (repeat (first |  exact FreshA.sl _ _ FreshA_bs | exact FreshA.sl _ _ FreshA_is | exact FreshA.nils | exact FreshA.nilp | exact FreshA.int _ _ | exact FreshA.bool _ | exact FreshA.str _ | exact fresh_nil | refine fresh_cons ?_ ?_)); done) | exact rfl | (simp; done)))
      | ((conv => whnf) <;> (first
          | (with_reducible refine and_same ?_)
          | (with_reducible refine and_side ?_ ?_)
          | (with_reducible refine Br.yes rfl ?_)
          | (with_reducible refine Br.yes (by omega) ?_)
          | (with_reducible refine Br.no (by omega) ?_)
          | (with_reducible refine Br.no (by assumption) ?_)
          | (with_reducible refine Br.yes (by assumption) ?_)
          | (with_reducible refine Br.mk (fun _ => ?_) (fun _ => ?_))
          | (with_reducible refine Both.mk ?_ ?_)
          | ((with_reducible apply blkAt_intro) ; (focus (first | exact rfl | (repeat (first | assumption | exact get_new | exact get_set (by assumption) | exact get_set get_new | apply get_old | (apply get_set_ne; (focus (first | omega | (simp only [newB_length, List.length_set, List.length_append, List.length_singleton]; omega)))))); done)) ; (focus (first | rfl | assumption | omega)) ; (try dsimp only))
          | (with_reducible refine nthR_bs1 (by assumption) ?_)
          | (with_reducible refine nthR_is1 (by assumption) ?_)
          | ((with_reducible apply appendR_lit) ; (focus (first | exact rfl | (repeat (first | assumption | exact get_new | exact get_set (by assumption) | exact get_set get_new | apply get_old | (apply get_set_ne; (focus (first | omega | (simp only [newB_length, List.length_set, List.length_append, List.length_singleton]; omega)))))); done)) ; (focus (first | rfl | assumption)) ; (focus rfl) ; (focus rfl) ; (focus rfl) ; (focus (first | exact Nat.zero_le _ | omega | (simp; done) | (simp; omega))) ; (try dsimp only))
          | (with_reducible refine appendR_nil ?_ ?_)
          | (with_reducible refine lenR_own (by assumption) ?_)
          | (with_reducible refine rowsR_own (by assumption) ?_)
          | (with_reducible refine ia_own (by assumption) ?_ ?_ (fun _ _ _ _ _ => ?_))
          | (with_reducible refine ia_sl ?_ ?_)
          | (with_reducible refine IaW.of ?_)
          | (with_reducible refine SliceW.of ?_)
          | (with_reducible refine EqnW.of ?_)
          | (with_reducible refine CopyW.of ?_)
          | (with_reducible refine out_own (by assumption) (fun _ => ?_) (fun _ _ => ?_))
          | (with_reducible refine OutW.of ?_)
          | (with_reducible refine NOut.own (by assumption) ?_)
          | (with_reducible refine NOut.lit ?_)
          | (with_reducible refine nthR_z ?_)
          | (with_reducible refine nthR_left (by first | omega | (simp only [List.length_append, List.length_cons, List.length_nil, List.length_take, List.length_drop, bs_length]; omega)) ?_)
          | (with_reducible refine lenR_sl ?_)
          | (with_reducible refine lenR_nils ?_)
          | (with_reducible refine lenR_rsl ?_)
          | (with_reducible refine rowsR_sl ?_)
          | (with_reducible refine rowsR_nils ?_)
          | (with_reducible refine rowsR_rsl ?_)
          | (with_reducible refine lenR_slx ?_)
          | (with_reducible refine rowsR_slx ?_)
          | (with_reducible refine appendR_slx ?_ ?_ ?_)
          | (with_reducible refine bytesR_intro (by first | rfl | (simp only [bs_take, bs_drop, bs_append]; rfl)) ?_)
          | (with_reducible refine nthR_bs (by first | omega | (simp only [List.length_append, List.length_cons, List.length_nil, List.length_take, List.length_drop, bs_length]; omega)) (fun _ _ _ => ?_))
          | (with_reducible intro _))))
    all_goals (conv => whnf)
    all_goals (try dsimp only)
    exact ret_bool rfl
theorem ofE0 {l : List Int} (h : ofE l = 0) : l.all mayW = true := by
  cases e : l.all mayW
  · simp [ofE, e] at h
  · rfl
theorem ofE1 {l : List Int} (h : ofE l ≠ 0) : ofR l = [] := by
  cases e : l.all mayW
  · simp [ofR, e]
  · simp [ofE, e] at h
theorem ofR0 {l : List Int} (h : ofE l = 0) : ofR l = cat l := by simp [ofR, ofE0 h]
theorem wd_cat : ∀ (l : List Int) (i : Nat) (n : Int), l[i]? = some n → wd (cat l) i = le 8 n.toNat
  | n :: l, 0, m, h => by
    cases h
    have : cat (n :: l) = le 8 n.toNat ++ cat l := rfl
    unfold wd
    rw [this, Nat.zero_mul, List.drop_zero, List.take_append_of_le_length (by rw [le_length]; exact Nat.le_refl _), List.take_of_length_le (by rw [le_length]; exact Nat.le_refl _)]
  | n :: l, i + 1, m, h => by
    have : cat (n :: l) = le 8 n.toNat ++ cat l := rfl
    have ih := wd_cat l i m (by simpa using h)
    unfold wd at ih ⊢
    rw [this, List.drop_append, List.drop_of_length_le (by rw [le_length]; omega), List.nil_append, le_length, show (i + 1) * 8 - 8 = i * 8 from by omega]
    exact ih
theorem may_le {n : Int} (h : mayW n = true) : okW (le 8 n.toNat) = true ∧ (val (le 8 n.toNat) : Int) = n := by
  have : 0 ≤ n ∧ n ≤ 4611686018427387903 := by simpa [mayW] using h
  refine ⟨okW_le _ (by omega), ?_⟩
  rw [val_le8 _ (by omega)]; omega
theorem all_cat {l : List Int} (h : l.all mayW = true) : allOk (cat l) = true ∧ allR (cat l) = l := by
  have e8 : (cat l).length / 8 = l.length := by rw [cat_length]; omega
  have hw : ∀ i, i < l.length → ∃ n, l[i]? = some n ∧ wd (cat l) i = le 8 n.toNat ∧ mayW n = true := fun i hi =>
    ⟨l[i], List.getElem?_eq_getElem hi, wd_cat _ _ _ (List.getElem?_eq_getElem hi), List.all_eq_true.1 h _ (List.getElem_mem hi)⟩
  have h1 : allOk (cat l) = true := by
    simp only [allOk, Bool.and_eq_true, decide_eq_true_eq, List.all_eq_true, List.mem_range]
    refine ⟨by rw [cat_length]; omega, fun i hi => ?_⟩
    obtain ⟨n, _, k2, k3⟩ := hw i (by omega)
    rw [k2]; exact (may_le k3).1
  refine ⟨h1, ?_⟩
  rw [allR, h1, if_pos rfl, e8]
  apply List.ext_getElem?
  intro i
  by_cases hi : i < l.length
  · obtain ⟨n, k1, k2, k3⟩ := hw i hi
    simp [vals, hi, k2, (may_le k3).2]
    rw [List.getElem?_eq_getElem hi] at k1
    exact (Option.some.inj k1).symm
  · rw [List.getElem?_eq_none (by simp [vals]; omega), List.getElem?_eq_none (by omega)]
theorem okW_val {w : List UInt8} (hl : w.length = 8) (h : okW w = true) : val w < 4611686018427387904 := by
  have := val_top w 7 hl (by simpa [okW] using h)
  exact this
theorem cat_cons (n : Int) (l : List Int) : cat (n :: l) = le 8 n.toNat ++ cat l := rfl
theorem cat_vals (s : List UInt8) (h : allOk s = true) : (allR s).all mayW = true ∧ cat (allR s) = s := by
  have h0 := h
  simp only [allOk, Bool.and_eq_true, decide_eq_true_eq, List.all_eq_true, List.mem_range] at h
  obtain ⟨h8, hall⟩ := h
  rw [allR, h0, if_pos rfl]
  refine ⟨?_, ?_⟩
  · rw [List.all_eq_true]
    intro n hn
    simp only [vals, List.mem_map, List.mem_range] at hn
    obtain ⟨i, hi, rfl⟩ := hn
    have := okW_val (wd_length hi) (hall i hi)
    simp only [mayW, decide_eq_true_eq]; omega
  · have key : ∀ k, k ≤ s.length / 8 → cat (vals s k) = s.take (k * 8) := by
      intro k
      induction k with
      | zero => intro _; simp [vals, cat]
      | succ k ih =>
        intro hk
        have ev : vals s (k + 1) = vals s k ++ [(val (wd s k) : Int)] := by simp [vals, List.range_succ]
        have hl := wd_length (s := s) (i := k) (by omega)
        have el : le 8 (val (wd s k)) = wd s k := by rw [← hl]; exact le_val _
        rw [ev, cat_append, ih (by omega), cat_one, Int.toNat_natCast, el]
        unfold wd
        rw [show (k + 1) * 8 = k * 8 + 8 from by omega, List.take_add]
    rw [key _ (Nat.le_refl _), List.take_of_length_le (by omega)]
theorem allR_length {s : List UInt8} (h : allOk s = true) : (allR s).length = s.length / 8 := by
  rw [allR, h, if_pos rfl]; simp [vals]
theorem WordsRows_ok (l : List Int) (s : List UInt8) (hl : l.length ≤ 461168601) (hs : s.length ≤ 4611686018) : AOKn Try.prog F.joistlaw01_WordsRows [.sl 1 (is l) false, .sl 1 (bs s) false] fun y => y = .bool true := by
  have hn := bs_length s
  have hm := is_length l
  refine AOKn.by_steps mixed fc_joistlaw01_WordsRows_ok (by simp [fc_joistlaw01_WordsRows]) ?_
  repeat' (first
    | ((with_reducible refine Side.intro ?_) <;> (first | with_reducible rfl | omega | assumption | exact Nat.le_of_ble_eq_true rfl | (simp only [bs_length, List.length_append, List.length_cons, List.length_nil, List.length_take, List.length_drop, List.length_set, List.length_replicate]; omega) | exact .inl (by omega) | exact .inr (.inl ⟨rfl, by (simp only [bs_length, List.length_append, List.length_cons, List.length_nil, List.length_take, List.length_drop, List.length_set, List.length_replicate]; omega)⟩) | exact Ref.ok_refl _ _ | (simp only [List.append_nil, List.nil_append, List.map_nil]; first | exact List.nodup_nil | exact nodup_bid1 _ | exact nodup_bid2 (by assumption)) | ((first | refine fresh_tup ?_ | skip); (repeat (first |  exact FreshA.sl _ _ FreshA_bs | exact FreshA.sl _ _ FreshA_is | exact FreshA.nils | exact FreshA.nilp | exact FreshA.int _ _ | exact FreshA.bool _ | exact FreshA.str _ | exact fresh_nil | refine fresh_cons ?_ ?_)); done) | exact rfl | (simp; done)))
    | ((conv => whnf) <;> (first
        | (with_reducible refine and_same ?_)
        | (with_reducible refine and_side ?_ ?_)
        | (with_reducible refine Br.yes rfl ?_)
        | (with_reducible refine Br.yes (by omega) ?_)
        | (with_reducible refine Br.no (by omega) ?_)
        | (with_reducible refine Br.no (by assumption) ?_)
        | (with_reducible refine Br.yes (by assumption) ?_)
        | (with_reducible refine Br.mk (fun _ => ?_) (fun _ => ?_))
        | (with_reducible refine Both.mk ?_ ?_)
        | ((with_reducible apply blkAt_intro) ; (focus (first | exact rfl | (repeat (first | assumption | exact get_new | exact get_set (by assumption) | exact get_set get_new | apply get_old | (apply get_set_ne; (focus (first | omega | (simp only [newB_length, List.length_set, List.length_append, List.length_singleton]; omega)))))); done)) ; (focus (first | rfl | assumption | omega)) ; (try dsimp only))
        | (with_reducible refine nthR_bs1 (by assumption) ?_)
        | (with_reducible refine nthR_is1 (by assumption) ?_)
        | ((with_reducible apply appendR_lit) ; (focus (first | exact rfl | (repeat (first | assumption | exact get_new | exact get_set (by assumption) | exact get_set get_new | apply get_old | (apply get_set_ne; (focus (first | omega | (simp only [newB_length, List.length_set, List.length_append, List.length_singleton]; omega)))))); done)) ; (focus (first | rfl | assumption)) ; (focus rfl) ; (focus rfl) ; (focus rfl) ; (focus (first | exact Nat.zero_le _ | omega | (simp; done) | (simp; omega))) ; (try dsimp only))
        | (with_reducible refine appendR_nil ?_ ?_)
        | (with_reducible refine lenR_own (by assumption) ?_)
        | (with_reducible refine rowsR_own (by assumption) ?_)
        | (with_reducible refine ia_own (by assumption) ?_ ?_ (fun _ _ _ _ _ => ?_))
        | (with_reducible refine ia_sl ?_ ?_)
        | (with_reducible refine IaW.of ?_)
        | (with_reducible refine SliceW.of ?_)
        | (with_reducible refine EqnW.of ?_)
        | (with_reducible refine CopyW.of ?_)
        | (with_reducible refine out_own (by assumption) (fun _ => ?_) (fun _ _ => ?_))
        | (with_reducible refine OutW.of ?_)
        | (with_reducible refine NOut.own (by assumption) ?_)
        | (with_reducible refine NOut.lit ?_)
        | (with_reducible refine nthR_z ?_)
        | (with_reducible refine nthR_left (by first | omega | (simp only [List.length_append, List.length_cons, List.length_nil, List.length_take, List.length_drop, bs_length]; omega)) ?_)
        | (with_reducible refine lenR_sl ?_)
        | (with_reducible refine lenR_nils ?_)
        | (with_reducible refine lenR_rsl ?_)
        | (with_reducible refine rowsR_sl ?_)
        | (with_reducible refine rowsR_nils ?_)
        | (with_reducible refine rowsR_rsl ?_)
        | (with_reducible refine lenR_slx ?_)
        | (with_reducible refine rowsR_slx ?_)
        | (with_reducible refine appendR_slx ?_ ?_ ?_)
        | (with_reducible refine bytesR_intro (by first | rfl | (simp only [bs_take, bs_drop, bs_append]; rfl)) ?_)
        | (with_reducible refine nthR_bs (by first | omega | (simp only [List.length_append, List.length_cons, List.length_nil, List.length_take, List.length_drop, bs_length]; omega)) (fun _ _ _ => ?_))
        | (with_reducible intro _))))
  all_goals (conv => whnf)
  all_goals (try dsimp only)
  refine small_call fun H0 hg0 => ?_
  repeat' (first
    | ((with_reducible refine Side.intro ?_) <;> (first | with_reducible rfl | omega | assumption | exact Nat.le_of_ble_eq_true rfl | (simp only [bs_length, List.length_append, List.length_cons, List.length_nil, List.length_take, List.length_drop, List.length_set, List.length_replicate]; omega) | exact .inl (by omega) | exact .inr (.inl ⟨rfl, by (simp only [bs_length, List.length_append, List.length_cons, List.length_nil, List.length_take, List.length_drop, List.length_set, List.length_replicate]; omega)⟩) | exact Ref.ok_refl _ _ | (simp only [List.append_nil, List.nil_append, List.map_nil]; first | exact List.nodup_nil | exact nodup_bid1 _ | exact nodup_bid2 (by assumption)) | ((first | refine fresh_tup ?_ | skip); (repeat (first |  exact FreshA.sl _ _ FreshA_bs | exact FreshA.sl _ _ FreshA_is | exact FreshA.nils | exact FreshA.nilp | exact FreshA.int _ _ | exact FreshA.bool _ | exact FreshA.str _ | exact fresh_nil | refine fresh_cons ?_ ?_)); done) | exact rfl | (simp; done)))
    | ((conv => whnf) <;> (first
        | (with_reducible refine and_same ?_)
        | (with_reducible refine and_side ?_ ?_)
        | (with_reducible refine Br.yes rfl ?_)
        | (with_reducible refine Br.yes (by omega) ?_)
        | (with_reducible refine Br.no (by omega) ?_)
        | (with_reducible refine Br.no (by assumption) ?_)
        | (with_reducible refine Br.yes (by assumption) ?_)
        | (with_reducible refine Br.mk (fun _ => ?_) (fun _ => ?_))
        | (with_reducible refine Both.mk ?_ ?_)
        | ((with_reducible apply blkAt_intro) ; (focus (first | exact rfl | (repeat (first | assumption | exact get_new | exact get_set (by assumption) | exact get_set get_new | apply get_old | (apply get_set_ne; (focus (first | omega | (simp only [newB_length, List.length_set, List.length_append, List.length_singleton]; omega)))))); done)) ; (focus (first | rfl | assumption | omega)) ; (try dsimp only))
        | (with_reducible refine nthR_bs1 (by assumption) ?_)
        | (with_reducible refine nthR_is1 (by assumption) ?_)
        | ((with_reducible apply appendR_lit) ; (focus (first | exact rfl | (repeat (first | assumption | exact get_new | exact get_set (by assumption) | exact get_set get_new | apply get_old | (apply get_set_ne; (focus (first | omega | (simp only [newB_length, List.length_set, List.length_append, List.length_singleton]; omega)))))); done)) ; (focus (first | rfl | assumption)) ; (focus rfl) ; (focus rfl) ; (focus rfl) ; (focus (first | exact Nat.zero_le _ | omega | (simp; done) | (simp; omega))) ; (try dsimp only))
        | (with_reducible refine appendR_nil ?_ ?_)
        | (with_reducible refine lenR_own (by assumption) ?_)
        | (with_reducible refine rowsR_own (by assumption) ?_)
        | (with_reducible refine ia_own (by assumption) ?_ ?_ (fun _ _ _ _ _ => ?_))
        | (with_reducible refine ia_sl ?_ ?_)
        | (with_reducible refine IaW.of ?_)
        | (with_reducible refine SliceW.of ?_)
        | (with_reducible refine EqnW.of ?_)
        | (with_reducible refine CopyW.of ?_)
        | (with_reducible refine out_own (by assumption) (fun _ => ?_) (fun _ _ => ?_))
        | (with_reducible refine OutW.of ?_)
        | (with_reducible refine NOut.own (by assumption) ?_)
        | (with_reducible refine NOut.lit ?_)
        | (with_reducible refine nthR_z ?_)
        | (with_reducible refine nthR_left (by first | omega | (simp only [List.length_append, List.length_cons, List.length_nil, List.length_take, List.length_drop, bs_length]; omega)) ?_)
        | (with_reducible refine lenR_sl ?_)
        | (with_reducible refine lenR_nils ?_)
        | (with_reducible refine lenR_rsl ?_)
        | (with_reducible refine rowsR_sl ?_)
        | (with_reducible refine rowsR_nils ?_)
        | (with_reducible refine rowsR_rsl ?_)
        | (with_reducible refine lenR_slx ?_)
        | (with_reducible refine rowsR_slx ?_)
        | (with_reducible refine appendR_slx ?_ ?_ ?_)
        | (with_reducible refine bytesR_intro (by first | rfl | (simp only [bs_take, bs_drop, bs_append]; rfl)) ?_)
        | (with_reducible refine nthR_bs (by first | omega | (simp only [List.length_append, List.length_cons, List.length_nil, List.length_take, List.length_drop, bs_length]; omega)) (fun _ _ _ => ?_))
        | (with_reducible intro _))))
  all_goals (conv => whnf)
  all_goals (try dsimp only)
  refine Of_call l (by omega) (Looks.isv _ _ _) fun H1 x hg1 hx hxn => ?_
  have second : ∀ (σ : AH), True := fun _ => trivial
  by_cases hE : ofE l = 0
  · obtain ⟨ha, hr⟩ := all_cat (ofE0 hE)
    rw [ofR0 hE] at hx
    rw [hE]
    have hcl := cat_length l
    have hbl := bs_length (cat l)
    repeat' (first
      | ((with_reducible refine Side.intro ?_) <;> (first | with_reducible rfl | omega | assumption | exact Nat.le_of_ble_eq_true rfl | (simp only [bs_length, List.length_append, List.length_cons, List.length_nil, List.length_take, List.length_drop, List.length_set, List.length_replicate]; omega) | exact .inl (by omega) | exact .inr (.inl ⟨rfl, by (simp only [bs_length, List.length_append, List.length_cons, List.length_nil, List.length_take, List.length_drop, List.length_set, List.length_replicate]; omega)⟩) | exact Ref.ok_refl _ _ | (simp only [List.append_nil, List.nil_append, List.map_nil]; first | exact List.nodup_nil | exact nodup_bid1 _ | exact nodup_bid2 (by assumption)) | ((first | refine fresh_tup ?_ | skip); (repeat (first |  exact FreshA.sl _ _ FreshA_bs | exact FreshA.sl _ _ FreshA_is | exact FreshA.nils | exact FreshA.nilp | exact FreshA.int _ _ | exact FreshA.bool _ | exact FreshA.str _ | exact fresh_nil | refine fresh_cons ?_ ?_)); done) | exact rfl | (simp; done)))
      | ((conv => whnf) <;> (first
          | (with_reducible refine and_same ?_)
          | (with_reducible refine and_side ?_ ?_)
          | (with_reducible refine Br.yes rfl ?_)
          | (with_reducible refine Br.yes (by omega) ?_)
          | (with_reducible refine Br.no (by omega) ?_)
          | (with_reducible refine Br.no (by assumption) ?_)
          | (with_reducible refine Br.yes (by assumption) ?_)
          | (with_reducible refine Br.mk (fun _ => ?_) (fun _ => ?_))
          | (with_reducible refine Both.mk ?_ ?_)
          | ((with_reducible apply blkAt_intro) ; (focus (first | exact rfl | (repeat (first | assumption | exact get_new | exact get_set (by assumption) | exact get_set get_new | apply get_old | (apply get_set_ne; (focus (first | omega | (simp only [newB_length, List.length_set, List.length_append, List.length_singleton]; omega)))))); done)) ; (focus (first | rfl | assumption | omega)) ; (try dsimp only))
          | (with_reducible refine nthR_bs1 (by assumption) ?_)
          | (with_reducible refine nthR_is1 (by assumption) ?_)
          | ((with_reducible apply appendR_lit) ; (focus (first | exact rfl | (repeat (first | assumption | exact get_new | exact get_set (by assumption) | exact get_set get_new | apply get_old | (apply get_set_ne; (focus (first | omega | (simp only [newB_length, List.length_set, List.length_append, List.length_singleton]; omega)))))); done)) ; (focus (first | rfl | assumption)) ; (focus rfl) ; (focus rfl) ; (focus rfl) ; (focus (first | exact Nat.zero_le _ | omega | (simp; done) | (simp; omega))) ; (try dsimp only))
          | (with_reducible refine appendR_nil ?_ ?_)
          | (with_reducible refine lenR_own (by assumption) ?_)
          | (with_reducible refine rowsR_own (by assumption) ?_)
          | (with_reducible refine ia_own (by assumption) ?_ ?_ (fun _ _ _ _ _ => ?_))
          | (with_reducible refine ia_sl ?_ ?_)
          | (with_reducible refine IaW.of ?_)
          | (with_reducible refine SliceW.of ?_)
          | (with_reducible refine EqnW.of ?_)
          | (with_reducible refine CopyW.of ?_)
          | (with_reducible refine out_own (by assumption) (fun _ => ?_) (fun _ _ => ?_))
          | (with_reducible refine OutW.of ?_)
          | (with_reducible refine NOut.own (by assumption) ?_)
          | (with_reducible refine NOut.lit ?_)
          | (with_reducible refine nthR_z ?_)
          | (with_reducible refine nthR_left (by first | omega | (simp only [List.length_append, List.length_cons, List.length_nil, List.length_take, List.length_drop, bs_length]; omega)) ?_)
          | (with_reducible refine lenR_sl ?_)
          | (with_reducible refine lenR_nils ?_)
          | (with_reducible refine lenR_rsl ?_)
          | (with_reducible refine rowsR_sl ?_)
          | (with_reducible refine rowsR_nils ?_)
          | (with_reducible refine rowsR_rsl ?_)
          | (with_reducible refine lenR_slx ?_)
          | (with_reducible refine rowsR_slx ?_)
          | (with_reducible refine appendR_slx ?_ ?_ ?_)
          | (with_reducible refine bytesR_intro (by first | rfl | (simp only [bs_take, bs_drop, bs_append]; rfl)) ?_)
          | (with_reducible refine nthR_bs (by first | omega | (simp only [List.length_append, List.length_cons, List.length_nil, List.length_take, List.length_drop, bs_length]; omega)) (fun _ _ _ => ?_))
          | (with_reducible intro _))))
    all_goals (conv => whnf)
    all_goals (try dsimp only)
    refine All_call _ (by omega) (.ownbs hx) fun H2 y hg2 hy hyn => ?_
    replace hx := hx.keepN hg2
    rw [ha]
    rw [hr] at hy
    repeat' (first
      | ((with_reducible refine Side.intro ?_) <;> (first | with_reducible rfl | omega | assumption | exact Nat.le_of_ble_eq_true rfl | (simp only [bs_length, List.length_append, List.length_cons, List.length_nil, List.length_take, List.length_drop, List.length_set, List.length_replicate]; omega) | exact .inl (by omega) | exact .inr (.inl ⟨rfl, by (simp only [bs_length, List.length_append, List.length_cons, List.length_nil, List.length_take, List.length_drop, List.length_set, List.length_replicate]; omega)⟩) | exact Ref.ok_refl _ _ | (simp only [List.append_nil, List.nil_append, List.map_nil]; first | exact List.nodup_nil | exact nodup_bid1 _ | exact nodup_bid2 (by assumption)) | ((first | refine fresh_tup ?_ | skip); (repeat (first |  exact FreshA.sl _ _ FreshA_bs | exact FreshA.sl _ _ FreshA_is | exact FreshA.nils | exact FreshA.nilp | exact FreshA.int _ _ | exact FreshA.bool _ | exact FreshA.str _ | exact fresh_nil | refine fresh_cons ?_ ?_)); done) | exact rfl | (simp; done)))
      | ((conv => whnf) <;> (first
          | (with_reducible refine and_same ?_)
          | (with_reducible refine and_side ?_ ?_)
          | (with_reducible refine Br.yes rfl ?_)
          | (with_reducible refine Br.yes (by omega) ?_)
          | (with_reducible refine Br.no (by omega) ?_)
          | (with_reducible refine Br.no (by assumption) ?_)
          | (with_reducible refine Br.yes (by assumption) ?_)
          | (with_reducible refine Br.mk (fun _ => ?_) (fun _ => ?_))
          | (with_reducible refine Both.mk ?_ ?_)
          | ((with_reducible apply blkAt_intro) ; (focus (first | exact rfl | (repeat (first | assumption | exact get_new | exact get_set (by assumption) | exact get_set get_new | apply get_old | (apply get_set_ne; (focus (first | omega | (simp only [newB_length, List.length_set, List.length_append, List.length_singleton]; omega)))))); done)) ; (focus (first | rfl | assumption | omega)) ; (try dsimp only))
          | (with_reducible refine nthR_bs1 (by assumption) ?_)
          | (with_reducible refine nthR_is1 (by assumption) ?_)
          | ((with_reducible apply appendR_lit) ; (focus (first | exact rfl | (repeat (first | assumption | exact get_new | exact get_set (by assumption) | exact get_set get_new | apply get_old | (apply get_set_ne; (focus (first | omega | (simp only [newB_length, List.length_set, List.length_append, List.length_singleton]; omega)))))); done)) ; (focus (first | rfl | assumption)) ; (focus rfl) ; (focus rfl) ; (focus rfl) ; (focus (first | exact Nat.zero_le _ | omega | (simp; done) | (simp; omega))) ; (try dsimp only))
          | (with_reducible refine appendR_nil ?_ ?_)
          | (with_reducible refine lenR_own (by assumption) ?_)
          | (with_reducible refine rowsR_own (by assumption) ?_)
          | (with_reducible refine ia_own (by assumption) ?_ ?_ (fun _ _ _ _ _ => ?_))
          | (with_reducible refine ia_sl ?_ ?_)
          | (with_reducible refine IaW.of ?_)
          | (with_reducible refine SliceW.of ?_)
          | (with_reducible refine EqnW.of ?_)
          | (with_reducible refine CopyW.of ?_)
          | (with_reducible refine out_own (by assumption) (fun _ => ?_) (fun _ _ => ?_))
          | (with_reducible refine OutW.of ?_)
          | (with_reducible refine NOut.own (by assumption) ?_)
          | (with_reducible refine NOut.lit ?_)
          | (with_reducible refine nthR_z ?_)
          | (with_reducible refine nthR_left (by first | omega | (simp only [List.length_append, List.length_cons, List.length_nil, List.length_take, List.length_drop, bs_length]; omega)) ?_)
          | (with_reducible refine lenR_sl ?_)
          | (with_reducible refine lenR_nils ?_)
          | (with_reducible refine lenR_rsl ?_)
          | (with_reducible refine rowsR_sl ?_)
          | (with_reducible refine rowsR_nils ?_)
          | (with_reducible refine rowsR_rsl ?_)
          | (with_reducible refine lenR_slx ?_)
          | (with_reducible refine rowsR_slx ?_)
          | (with_reducible refine appendR_slx ?_ ?_ ?_)
          | (with_reducible refine bytesR_intro (by first | rfl | (simp only [bs_take, bs_drop, bs_append]; rfl)) ?_)
          | (with_reducible refine nthR_bs (by first | omega | (simp only [List.length_append, List.length_cons, List.length_nil, List.length_take, List.length_drop, bs_length]; omega)) (fun _ _ _ => ?_))
          | (with_reducible intro _))))
    all_goals (conv => whnf)
    all_goals (try dsimp only)
    refine Same_call l l (by omega) (by omega) (Looks.isv _ _ _) (Looks.ownis hy) fun H3 hg3 => ?_
    replace hx := hx.keepN hg3
    rw [decide_eq_true rfl]
    repeat' (first
      | ((with_reducible refine Side.intro ?_) <;> (first | with_reducible rfl | omega | assumption | exact Nat.le_of_ble_eq_true rfl | (simp only [bs_length, List.length_append, List.length_cons, List.length_nil, List.length_take, List.length_drop, List.length_set, List.length_replicate]; omega) | exact .inl (by omega) | exact .inr (.inl ⟨rfl, by (simp only [bs_length, List.length_append, List.length_cons, List.length_nil, List.length_take, List.length_drop, List.length_set, List.length_replicate]; omega)⟩) | exact Ref.ok_refl _ _ | (simp only [List.append_nil, List.nil_append, List.map_nil]; first | exact List.nodup_nil | exact nodup_bid1 _ | exact nodup_bid2 (by assumption)) | ((first | refine fresh_tup ?_ | skip); (repeat (first |  exact FreshA.sl _ _ FreshA_bs | exact FreshA.sl _ _ FreshA_is | exact FreshA.nils | exact FreshA.nilp | exact FreshA.int _ _ | exact FreshA.bool _ | exact FreshA.str _ | exact fresh_nil | refine fresh_cons ?_ ?_)); done) | exact rfl | (simp; done)))
      | ((conv => whnf) <;> (first
          | (with_reducible refine and_same ?_)
          | (with_reducible refine and_side ?_ ?_)
          | (with_reducible refine Br.yes rfl ?_)
          | (with_reducible refine Br.yes (by omega) ?_)
          | (with_reducible refine Br.no (by omega) ?_)
          | (with_reducible refine Br.no (by assumption) ?_)
          | (with_reducible refine Br.yes (by assumption) ?_)
          | (with_reducible refine Br.mk (fun _ => ?_) (fun _ => ?_))
          | (with_reducible refine Both.mk ?_ ?_)
          | ((with_reducible apply blkAt_intro) ; (focus (first | exact rfl | (repeat (first | assumption | exact get_new | exact get_set (by assumption) | exact get_set get_new | apply get_old | (apply get_set_ne; (focus (first | omega | (simp only [newB_length, List.length_set, List.length_append, List.length_singleton]; omega)))))); done)) ; (focus (first | rfl | assumption | omega)) ; (try dsimp only))
          | (with_reducible refine nthR_bs1 (by assumption) ?_)
          | (with_reducible refine nthR_is1 (by assumption) ?_)
          | ((with_reducible apply appendR_lit) ; (focus (first | exact rfl | (repeat (first | assumption | exact get_new | exact get_set (by assumption) | exact get_set get_new | apply get_old | (apply get_set_ne; (focus (first | omega | (simp only [newB_length, List.length_set, List.length_append, List.length_singleton]; omega)))))); done)) ; (focus (first | rfl | assumption)) ; (focus rfl) ; (focus rfl) ; (focus rfl) ; (focus (first | exact Nat.zero_le _ | omega | (simp; done) | (simp; omega))) ; (try dsimp only))
          | (with_reducible refine appendR_nil ?_ ?_)
          | (with_reducible refine lenR_own (by assumption) ?_)
          | (with_reducible refine rowsR_own (by assumption) ?_)
          | (with_reducible refine ia_own (by assumption) ?_ ?_ (fun _ _ _ _ _ => ?_))
          | (with_reducible refine ia_sl ?_ ?_)
          | (with_reducible refine IaW.of ?_)
          | (with_reducible refine SliceW.of ?_)
          | (with_reducible refine EqnW.of ?_)
          | (with_reducible refine CopyW.of ?_)
          | (with_reducible refine out_own (by assumption) (fun _ => ?_) (fun _ _ => ?_))
          | (with_reducible refine OutW.of ?_)
          | (with_reducible refine NOut.own (by assumption) ?_)
          | (with_reducible refine NOut.lit ?_)
          | (with_reducible refine nthR_z ?_)
          | (with_reducible refine nthR_left (by first | omega | (simp only [List.length_append, List.length_cons, List.length_nil, List.length_take, List.length_drop, bs_length]; omega)) ?_)
          | (with_reducible refine lenR_sl ?_)
          | (with_reducible refine lenR_nils ?_)
          | (with_reducible refine lenR_rsl ?_)
          | (with_reducible refine rowsR_sl ?_)
          | (with_reducible refine rowsR_nils ?_)
          | (with_reducible refine rowsR_rsl ?_)
          | (with_reducible refine lenR_slx ?_)
          | (with_reducible refine rowsR_slx ?_)
          | (with_reducible refine appendR_slx ?_ ?_ ?_)
          | (with_reducible refine bytesR_intro (by first | rfl | (simp only [bs_take, bs_drop, bs_append]; rfl)) ?_)
          | (with_reducible refine nthR_bs (by first | omega | (simp only [List.length_append, List.length_cons, List.length_nil, List.length_take, List.length_drop, bs_length]; omega)) (fun _ _ _ => ?_))
          | (with_reducible intro _))))
    all_goals (conv => whnf)
    all_goals (try dsimp only)
    refine All_call s (by omega) (.bs _ _ _) fun H4 z hg4 hz hzn => ?_
    cases hA : allOk s
    · have e0 : allR s = [] := by simp [allR, hA]
      rw [e0] at hz
      repeat' (first
        | ((with_reducible refine Side.intro ?_) <;> (first | with_reducible rfl | omega | assumption | exact Nat.le_of_ble_eq_true rfl | (simp only [bs_length, List.length_append, List.length_cons, List.length_nil, List.length_take, List.length_drop, List.length_set, List.length_replicate]; omega) | exact .inl (by omega) | exact .inr (.inl ⟨rfl, by (simp only [bs_length, List.length_append, List.length_cons, List.length_nil, List.length_take, List.length_drop, List.length_set, List.length_replicate]; omega)⟩) | exact Ref.ok_refl _ _ | (simp only [List.append_nil, List.nil_append, List.map_nil]; first | exact List.nodup_nil | exact nodup_bid1 _ | exact nodup_bid2 (by assumption)) | ((first | refine fresh_tup ?_ | skip); (repeat (first |  exact FreshA.sl _ _ FreshA_bs | exact FreshA.sl _ _ FreshA_is | exact FreshA.nils | exact FreshA.nilp | exact FreshA.int _ _ | exact FreshA.bool _ | exact FreshA.str _ | exact fresh_nil | refine fresh_cons ?_ ?_)); done) | exact rfl | (simp; done)))
        | ((conv => whnf) <;> (first
            | (with_reducible refine and_same ?_)
            | (with_reducible refine and_side ?_ ?_)
            | (with_reducible refine Br.yes rfl ?_)
            | (with_reducible refine Br.yes (by omega) ?_)
            | (with_reducible refine Br.no (by omega) ?_)
            | (with_reducible refine Br.no (by assumption) ?_)
            | (with_reducible refine Br.yes (by assumption) ?_)
            | (with_reducible refine Br.mk (fun _ => ?_) (fun _ => ?_))
            | (with_reducible refine Both.mk ?_ ?_)
            | ((with_reducible apply blkAt_intro) ; (focus (first | exact rfl | (repeat (first | assumption | exact get_new | exact get_set (by assumption) | exact get_set get_new | apply get_old | (apply get_set_ne; (focus (first | omega | (simp only [newB_length, List.length_set, List.length_append, List.length_singleton]; omega)))))); done)) ; (focus (first | rfl | assumption | omega)) ; (try dsimp only))
            | (with_reducible refine nthR_bs1 (by assumption) ?_)
            | (with_reducible refine nthR_is1 (by assumption) ?_)
            | ((with_reducible apply appendR_lit) ; (focus (first | exact rfl | (repeat (first | assumption | exact get_new | exact get_set (by assumption) | exact get_set get_new | apply get_old | (apply get_set_ne; (focus (first | omega | (simp only [newB_length, List.length_set, List.length_append, List.length_singleton]; omega)))))); done)) ; (focus (first | rfl | assumption)) ; (focus rfl) ; (focus rfl) ; (focus rfl) ; (focus (first | exact Nat.zero_le _ | omega | (simp; done) | (simp; omega))) ; (try dsimp only))
            | (with_reducible refine appendR_nil ?_ ?_)
            | (with_reducible refine lenR_own (by assumption) ?_)
            | (with_reducible refine rowsR_own (by assumption) ?_)
            | (with_reducible refine ia_own (by assumption) ?_ ?_ (fun _ _ _ _ _ => ?_))
            | (with_reducible refine ia_sl ?_ ?_)
            | (with_reducible refine IaW.of ?_)
            | (with_reducible refine SliceW.of ?_)
            | (with_reducible refine EqnW.of ?_)
            | (with_reducible refine CopyW.of ?_)
            | (with_reducible refine out_own (by assumption) (fun _ => ?_) (fun _ _ => ?_))
            | (with_reducible refine OutW.of ?_)
            | (with_reducible refine NOut.own (by assumption) ?_)
            | (with_reducible refine NOut.lit ?_)
            | (with_reducible refine nthR_z ?_)
            | (with_reducible refine nthR_left (by first | omega | (simp only [List.length_append, List.length_cons, List.length_nil, List.length_take, List.length_drop, bs_length]; omega)) ?_)
            | (with_reducible refine lenR_sl ?_)
            | (with_reducible refine lenR_nils ?_)
            | (with_reducible refine lenR_rsl ?_)
            | (with_reducible refine rowsR_sl ?_)
            | (with_reducible refine rowsR_nils ?_)
            | (with_reducible refine rowsR_rsl ?_)
            | (with_reducible refine lenR_slx ?_)
            | (with_reducible refine rowsR_slx ?_)
            | (with_reducible refine appendR_slx ?_ ?_ ?_)
            | (with_reducible refine bytesR_intro (by first | rfl | (simp only [bs_take, bs_drop, bs_append]; rfl)) ?_)
            | (with_reducible refine nthR_bs (by first | omega | (simp only [List.length_append, List.length_cons, List.length_nil, List.length_take, List.length_drop, bs_length]; omega)) (fun _ _ _ => ?_))
            | (with_reducible intro _))))
      all_goals (conv => whnf)
      all_goals (try dsimp only)
      exact ret_bool rfl
    · obtain ⟨c1, c2⟩ := cat_vals s hA
      have c3 := allR_length hA
      have c4 : ofE (allR s) = 0 := by simp [ofE, c1]
      repeat' (first
        | ((with_reducible refine Side.intro ?_) <;> (first | with_reducible rfl | omega | assumption | exact Nat.le_of_ble_eq_true rfl | (simp only [bs_length, List.length_append, List.length_cons, List.length_nil, List.length_take, List.length_drop, List.length_set, List.length_replicate]; omega) | exact .inl (by omega) | exact .inr (.inl ⟨rfl, by (simp only [bs_length, List.length_append, List.length_cons, List.length_nil, List.length_take, List.length_drop, List.length_set, List.length_replicate]; omega)⟩) | exact Ref.ok_refl _ _ | (simp only [List.append_nil, List.nil_append, List.map_nil]; first | exact List.nodup_nil | exact nodup_bid1 _ | exact nodup_bid2 (by assumption)) | ((first | refine fresh_tup ?_ | skip); (repeat (first |  exact FreshA.sl _ _ FreshA_bs | exact FreshA.sl _ _ FreshA_is | exact FreshA.nils | exact FreshA.nilp | exact FreshA.int _ _ | exact FreshA.bool _ | exact FreshA.str _ | exact fresh_nil | refine fresh_cons ?_ ?_)); done) | exact rfl | (simp; done)))
        | ((conv => whnf) <;> (first
            | (with_reducible refine and_same ?_)
            | (with_reducible refine and_side ?_ ?_)
            | (with_reducible refine Br.yes rfl ?_)
            | (with_reducible refine Br.yes (by omega) ?_)
            | (with_reducible refine Br.no (by omega) ?_)
            | (with_reducible refine Br.no (by assumption) ?_)
            | (with_reducible refine Br.yes (by assumption) ?_)
            | (with_reducible refine Br.mk (fun _ => ?_) (fun _ => ?_))
            | (with_reducible refine Both.mk ?_ ?_)
            | ((with_reducible apply blkAt_intro) ; (focus (first | exact rfl | (repeat (first | assumption | exact get_new | exact get_set (by assumption) | exact get_set get_new | apply get_old | (apply get_set_ne; (focus (first | omega | (simp only [newB_length, List.length_set, List.length_append, List.length_singleton]; omega)))))); done)) ; (focus (first | rfl | assumption | omega)) ; (try dsimp only))
            | (with_reducible refine nthR_bs1 (by assumption) ?_)
            | (with_reducible refine nthR_is1 (by assumption) ?_)
            | ((with_reducible apply appendR_lit) ; (focus (first | exact rfl | (repeat (first | assumption | exact get_new | exact get_set (by assumption) | exact get_set get_new | apply get_old | (apply get_set_ne; (focus (first | omega | (simp only [newB_length, List.length_set, List.length_append, List.length_singleton]; omega)))))); done)) ; (focus (first | rfl | assumption)) ; (focus rfl) ; (focus rfl) ; (focus rfl) ; (focus (first | exact Nat.zero_le _ | omega | (simp; done) | (simp; omega))) ; (try dsimp only))
            | (with_reducible refine appendR_nil ?_ ?_)
            | (with_reducible refine lenR_own (by assumption) ?_)
            | (with_reducible refine rowsR_own (by assumption) ?_)
            | (with_reducible refine ia_own (by assumption) ?_ ?_ (fun _ _ _ _ _ => ?_))
            | (with_reducible refine ia_sl ?_ ?_)
            | (with_reducible refine IaW.of ?_)
            | (with_reducible refine SliceW.of ?_)
            | (with_reducible refine EqnW.of ?_)
            | (with_reducible refine CopyW.of ?_)
            | (with_reducible refine out_own (by assumption) (fun _ => ?_) (fun _ _ => ?_))
            | (with_reducible refine OutW.of ?_)
            | (with_reducible refine NOut.own (by assumption) ?_)
            | (with_reducible refine NOut.lit ?_)
            | (with_reducible refine nthR_z ?_)
            | (with_reducible refine nthR_left (by first | omega | (simp only [List.length_append, List.length_cons, List.length_nil, List.length_take, List.length_drop, bs_length]; omega)) ?_)
            | (with_reducible refine lenR_sl ?_)
            | (with_reducible refine lenR_nils ?_)
            | (with_reducible refine lenR_rsl ?_)
            | (with_reducible refine rowsR_sl ?_)
            | (with_reducible refine rowsR_nils ?_)
            | (with_reducible refine rowsR_rsl ?_)
            | (with_reducible refine lenR_slx ?_)
            | (with_reducible refine rowsR_slx ?_)
            | (with_reducible refine appendR_slx ?_ ?_ ?_)
            | (with_reducible refine bytesR_intro (by first | rfl | (simp only [bs_take, bs_drop, bs_append]; rfl)) ?_)
            | (with_reducible refine nthR_bs (by first | omega | (simp only [List.length_append, List.length_cons, List.length_nil, List.length_take, List.length_drop, bs_length]; omega)) (fun _ _ _ => ?_))
            | (with_reducible intro _))))
      all_goals (conv => whnf)
      all_goals (try dsimp only)
      refine Of_call (allR s) (by omega) (Looks.ownis hz) fun H5 u hg5 hu hun => ?_
      rw [ofR0 c4, c2] at hu
      rw [c4]
      repeat' (first
        | ((with_reducible refine Side.intro ?_) <;> (first | with_reducible rfl | omega | assumption | exact Nat.le_of_ble_eq_true rfl | (simp only [bs_length, List.length_append, List.length_cons, List.length_nil, List.length_take, List.length_drop, List.length_set, List.length_replicate]; omega) | exact .inl (by omega) | exact .inr (.inl ⟨rfl, by (simp only [bs_length, List.length_append, List.length_cons, List.length_nil, List.length_take, List.length_drop, List.length_set, List.length_replicate]; omega)⟩) | exact Ref.ok_refl _ _ | (simp only [List.append_nil, List.nil_append, List.map_nil]; first | exact List.nodup_nil | exact nodup_bid1 _ | exact nodup_bid2 (by assumption)) | ((first | refine fresh_tup ?_ | skip); (repeat (first |  exact FreshA.sl _ _ FreshA_bs | exact FreshA.sl _ _ FreshA_is | exact FreshA.nils | exact FreshA.nilp | exact FreshA.int _ _ | exact FreshA.bool _ | exact FreshA.str _ | exact fresh_nil | refine fresh_cons ?_ ?_)); done) | exact rfl | (simp; done)))
        | ((conv => whnf) <;> (first
            | (with_reducible refine and_same ?_)
            | (with_reducible refine and_side ?_ ?_)
            | (with_reducible refine Br.yes rfl ?_)
            | (with_reducible refine Br.yes (by omega) ?_)
            | (with_reducible refine Br.no (by omega) ?_)
            | (with_reducible refine Br.no (by assumption) ?_)
            | (with_reducible refine Br.yes (by assumption) ?_)
            | (with_reducible refine Br.mk (fun _ => ?_) (fun _ => ?_))
            | (with_reducible refine Both.mk ?_ ?_)
            | ((with_reducible apply blkAt_intro) ; (focus (first | exact rfl | (repeat (first | assumption | exact get_new | exact get_set (by assumption) | exact get_set get_new | apply get_old | (apply get_set_ne; (focus (first | omega | (simp only [newB_length, List.length_set, List.length_append, List.length_singleton]; omega)))))); done)) ; (focus (first | rfl | assumption | omega)) ; (try dsimp only))
            | (with_reducible refine nthR_bs1 (by assumption) ?_)
            | (with_reducible refine nthR_is1 (by assumption) ?_)
            | ((with_reducible apply appendR_lit) ; (focus (first | exact rfl | (repeat (first | assumption | exact get_new | exact get_set (by assumption) | exact get_set get_new | apply get_old | (apply get_set_ne; (focus (first | omega | (simp only [newB_length, List.length_set, List.length_append, List.length_singleton]; omega)))))); done)) ; (focus (first | rfl | assumption)) ; (focus rfl) ; (focus rfl) ; (focus rfl) ; (focus (first | exact Nat.zero_le _ | omega | (simp; done) | (simp; omega))) ; (try dsimp only))
            | (with_reducible refine appendR_nil ?_ ?_)
            | (with_reducible refine lenR_own (by assumption) ?_)
            | (with_reducible refine rowsR_own (by assumption) ?_)
            | (with_reducible refine ia_own (by assumption) ?_ ?_ (fun _ _ _ _ _ => ?_))
            | (with_reducible refine ia_sl ?_ ?_)
            | (with_reducible refine IaW.of ?_)
            | (with_reducible refine SliceW.of ?_)
            | (with_reducible refine EqnW.of ?_)
            | (with_reducible refine CopyW.of ?_)
            | (with_reducible refine out_own (by assumption) (fun _ => ?_) (fun _ _ => ?_))
            | (with_reducible refine OutW.of ?_)
            | (with_reducible refine NOut.own (by assumption) ?_)
            | (with_reducible refine NOut.lit ?_)
            | (with_reducible refine nthR_z ?_)
            | (with_reducible refine nthR_left (by first | omega | (simp only [List.length_append, List.length_cons, List.length_nil, List.length_take, List.length_drop, bs_length]; omega)) ?_)
            | (with_reducible refine lenR_sl ?_)
            | (with_reducible refine lenR_nils ?_)
            | (with_reducible refine lenR_rsl ?_)
            | (with_reducible refine rowsR_sl ?_)
            | (with_reducible refine rowsR_nils ?_)
            | (with_reducible refine rowsR_rsl ?_)
            | (with_reducible refine lenR_slx ?_)
            | (with_reducible refine rowsR_slx ?_)
            | (with_reducible refine appendR_slx ?_ ?_ ?_)
            | (with_reducible refine bytesR_intro (by first | rfl | (simp only [bs_take, bs_drop, bs_append]; rfl)) ?_)
            | (with_reducible refine nthR_bs (by first | omega | (simp only [List.length_append, List.length_cons, List.length_nil, List.length_take, List.length_drop, bs_length]; omega)) (fun _ _ _ => ?_))
            | (with_reducible intro _))))
      all_goals (conv => whnf)
      all_goals (try dsimp only)
      exact ret_bool rfl
  · rw [ofE1 hE] at hx
    repeat' (first
      | ((with_reducible refine Side.intro ?_) <;> (first | with_reducible rfl | omega | assumption | exact Nat.le_of_ble_eq_true rfl | (simp only [bs_length, List.length_append, List.length_cons, List.length_nil, List.length_take, List.length_drop, List.length_set, List.length_replicate]; omega) | exact .inl (by omega) | exact .inr (.inl ⟨rfl, by (simp only [bs_length, List.length_append, List.length_cons, List.length_nil, List.length_take, List.length_drop, List.length_set, List.length_replicate]; omega)⟩) | exact Ref.ok_refl _ _ | (simp only [List.append_nil, List.nil_append, List.map_nil]; first | exact List.nodup_nil | exact nodup_bid1 _ | exact nodup_bid2 (by assumption)) | ((first | refine fresh_tup ?_ | skip); (repeat (first |  exact FreshA.sl _ _ FreshA_bs | exact FreshA.sl _ _ FreshA_is | exact FreshA.nils | exact FreshA.nilp | exact FreshA.int _ _ | exact FreshA.bool _ | exact FreshA.str _ | exact fresh_nil | refine fresh_cons ?_ ?_)); done) | exact rfl | (simp; done)))
      | ((conv => whnf) <;> (first
          | (with_reducible refine and_same ?_)
          | (with_reducible refine and_side ?_ ?_)
          | (with_reducible refine Br.yes rfl ?_)
          | (with_reducible refine Br.yes (by omega) ?_)
          | (with_reducible refine Br.no (by omega) ?_)
          | (with_reducible refine Br.no (by assumption) ?_)
          | (with_reducible refine Br.yes (by assumption) ?_)
          | (with_reducible refine Br.mk (fun _ => ?_) (fun _ => ?_))
          | (with_reducible refine Both.mk ?_ ?_)
          | ((with_reducible apply blkAt_intro) ; (focus (first | exact rfl | (repeat (first | assumption | exact get_new | exact get_set (by assumption) | exact get_set get_new | apply get_old | (apply get_set_ne; (focus (first | omega | (simp only [newB_length, List.length_set, List.length_append, List.length_singleton]; omega)))))); done)) ; (focus (first | rfl | assumption | omega)) ; (try dsimp only))
          | (with_reducible refine nthR_bs1 (by assumption) ?_)
          | (with_reducible refine nthR_is1 (by assumption) ?_)
          | ((with_reducible apply appendR_lit) ; (focus (first | exact rfl | (repeat (first | assumption | exact get_new | exact get_set (by assumption) | exact get_set get_new | apply get_old | (apply get_set_ne; (focus (first | omega | (simp only [newB_length, List.length_set, List.length_append, List.length_singleton]; omega)))))); done)) ; (focus (first | rfl | assumption)) ; (focus rfl) ; (focus rfl) ; (focus rfl) ; (focus (first | exact Nat.zero_le _ | omega | (simp; done) | (simp; omega))) ; (try dsimp only))
          | (with_reducible refine appendR_nil ?_ ?_)
          | (with_reducible refine lenR_own (by assumption) ?_)
          | (with_reducible refine rowsR_own (by assumption) ?_)
          | (with_reducible refine ia_own (by assumption) ?_ ?_ (fun _ _ _ _ _ => ?_))
          | (with_reducible refine ia_sl ?_ ?_)
          | (with_reducible refine IaW.of ?_)
          | (with_reducible refine SliceW.of ?_)
          | (with_reducible refine EqnW.of ?_)
          | (with_reducible refine CopyW.of ?_)
          | (with_reducible refine out_own (by assumption) (fun _ => ?_) (fun _ _ => ?_))
          | (with_reducible refine OutW.of ?_)
          | (with_reducible refine NOut.own (by assumption) ?_)
          | (with_reducible refine NOut.lit ?_)
          | (with_reducible refine nthR_z ?_)
          | (with_reducible refine nthR_left (by first | omega | (simp only [List.length_append, List.length_cons, List.length_nil, List.length_take, List.length_drop, bs_length]; omega)) ?_)
          | (with_reducible refine lenR_sl ?_)
          | (with_reducible refine lenR_nils ?_)
          | (with_reducible refine lenR_rsl ?_)
          | (with_reducible refine rowsR_sl ?_)
          | (with_reducible refine rowsR_nils ?_)
          | (with_reducible refine rowsR_rsl ?_)
          | (with_reducible refine lenR_slx ?_)
          | (with_reducible refine rowsR_slx ?_)
          | (with_reducible refine appendR_slx ?_ ?_ ?_)
          | (with_reducible refine bytesR_intro (by first | rfl | (simp only [bs_take, bs_drop, bs_append]; rfl)) ?_)
          | (with_reducible refine nthR_bs (by first | omega | (simp only [List.length_append, List.length_cons, List.length_nil, List.length_take, List.length_drop, bs_length]; omega)) (fun _ _ _ => ?_))
          | (with_reducible intro _))))
    all_goals (conv => whnf)
    all_goals (try dsimp only)
    refine All_call s (by omega) (.bs _ _ _) fun H4 z hg4 hz hzn => ?_
    cases hA : allOk s
    · have e0 : allR s = [] := by simp [allR, hA]
      rw [e0] at hz
      repeat' (first
        | ((with_reducible refine Side.intro ?_) <;> (first | with_reducible rfl | omega | assumption | exact Nat.le_of_ble_eq_true rfl | (simp only [bs_length, List.length_append, List.length_cons, List.length_nil, List.length_take, List.length_drop, List.length_set, List.length_replicate]; omega) | exact .inl (by omega) | exact .inr (.inl ⟨rfl, by (simp only [bs_length, List.length_append, List.length_cons, List.length_nil, List.length_take, List.length_drop, List.length_set, List.length_replicate]; omega)⟩) | exact Ref.ok_refl _ _ | (simp only [List.append_nil, List.nil_append, List.map_nil]; first | exact List.nodup_nil | exact nodup_bid1 _ | exact nodup_bid2 (by assumption)) | ((first | refine fresh_tup ?_ | skip); (repeat (first |  exact FreshA.sl _ _ FreshA_bs | exact FreshA.sl _ _ FreshA_is | exact FreshA.nils | exact FreshA.nilp | exact FreshA.int _ _ | exact FreshA.bool _ | exact FreshA.str _ | exact fresh_nil | refine fresh_cons ?_ ?_)); done) | exact rfl | (simp; done)))
        | ((conv => whnf) <;> (first
            | (with_reducible refine and_same ?_)
            | (with_reducible refine and_side ?_ ?_)
            | (with_reducible refine Br.yes rfl ?_)
            | (with_reducible refine Br.yes (by omega) ?_)
            | (with_reducible refine Br.no (by omega) ?_)
            | (with_reducible refine Br.no (by assumption) ?_)
            | (with_reducible refine Br.yes (by assumption) ?_)
            | (with_reducible refine Br.mk (fun _ => ?_) (fun _ => ?_))
            | (with_reducible refine Both.mk ?_ ?_)
            | ((with_reducible apply blkAt_intro) ; (focus (first | exact rfl | (repeat (first | assumption | exact get_new | exact get_set (by assumption) | exact get_set get_new | apply get_old | (apply get_set_ne; (focus (first | omega | (simp only [newB_length, List.length_set, List.length_append, List.length_singleton]; omega)))))); done)) ; (focus (first | rfl | assumption | omega)) ; (try dsimp only))
            | (with_reducible refine nthR_bs1 (by assumption) ?_)
            | (with_reducible refine nthR_is1 (by assumption) ?_)
            | ((with_reducible apply appendR_lit) ; (focus (first | exact rfl | (repeat (first | assumption | exact get_new | exact get_set (by assumption) | exact get_set get_new | apply get_old | (apply get_set_ne; (focus (first | omega | (simp only [newB_length, List.length_set, List.length_append, List.length_singleton]; omega)))))); done)) ; (focus (first | rfl | assumption)) ; (focus rfl) ; (focus rfl) ; (focus rfl) ; (focus (first | exact Nat.zero_le _ | omega | (simp; done) | (simp; omega))) ; (try dsimp only))
            | (with_reducible refine appendR_nil ?_ ?_)
            | (with_reducible refine lenR_own (by assumption) ?_)
            | (with_reducible refine rowsR_own (by assumption) ?_)
            | (with_reducible refine ia_own (by assumption) ?_ ?_ (fun _ _ _ _ _ => ?_))
            | (with_reducible refine ia_sl ?_ ?_)
            | (with_reducible refine IaW.of ?_)
            | (with_reducible refine SliceW.of ?_)
            | (with_reducible refine EqnW.of ?_)
            | (with_reducible refine CopyW.of ?_)
            | (with_reducible refine out_own (by assumption) (fun _ => ?_) (fun _ _ => ?_))
            | (with_reducible refine OutW.of ?_)
            | (with_reducible refine NOut.own (by assumption) ?_)
            | (with_reducible refine NOut.lit ?_)
            | (with_reducible refine nthR_z ?_)
            | (with_reducible refine nthR_left (by first | omega | (simp only [List.length_append, List.length_cons, List.length_nil, List.length_take, List.length_drop, bs_length]; omega)) ?_)
            | (with_reducible refine lenR_sl ?_)
            | (with_reducible refine lenR_nils ?_)
            | (with_reducible refine lenR_rsl ?_)
            | (with_reducible refine rowsR_sl ?_)
            | (with_reducible refine rowsR_nils ?_)
            | (with_reducible refine rowsR_rsl ?_)
            | (with_reducible refine lenR_slx ?_)
            | (with_reducible refine rowsR_slx ?_)
            | (with_reducible refine appendR_slx ?_ ?_ ?_)
            | (with_reducible refine bytesR_intro (by first | rfl | (simp only [bs_take, bs_drop, bs_append]; rfl)) ?_)
            | (with_reducible refine nthR_bs (by first | omega | (simp only [List.length_append, List.length_cons, List.length_nil, List.length_take, List.length_drop, bs_length]; omega)) (fun _ _ _ => ?_))
            | (with_reducible intro _))))
      all_goals (conv => whnf)
      all_goals (try dsimp only)
      exact ret_bool rfl
    · obtain ⟨c1, c2⟩ := cat_vals s hA
      have c3 := allR_length hA
      have c4 : ofE (allR s) = 0 := by simp [ofE, c1]
      repeat' (first
        | ((with_reducible refine Side.intro ?_) <;> (first | with_reducible rfl | omega | assumption | exact Nat.le_of_ble_eq_true rfl | (simp only [bs_length, List.length_append, List.length_cons, List.length_nil, List.length_take, List.length_drop, List.length_set, List.length_replicate]; omega) | exact .inl (by omega) | exact .inr (.inl ⟨rfl, by (simp only [bs_length, List.length_append, List.length_cons, List.length_nil, List.length_take, List.length_drop, List.length_set, List.length_replicate]; omega)⟩) | exact Ref.ok_refl _ _ | (simp only [List.append_nil, List.nil_append, List.map_nil]; first | exact List.nodup_nil | exact nodup_bid1 _ | exact nodup_bid2 (by assumption)) | ((first | refine fresh_tup ?_ | skip); (repeat (first |  exact FreshA.sl _ _ FreshA_bs | exact FreshA.sl _ _ FreshA_is | exact FreshA.nils | exact FreshA.nilp | exact FreshA.int _ _ | exact FreshA.bool _ | exact FreshA.str _ | exact fresh_nil | refine fresh_cons ?_ ?_)); done) | exact rfl | (simp; done)))
        | ((conv => whnf) <;> (first
            | (with_reducible refine and_same ?_)
            | (with_reducible refine and_side ?_ ?_)
            | (with_reducible refine Br.yes rfl ?_)
            | (with_reducible refine Br.yes (by omega) ?_)
            | (with_reducible refine Br.no (by omega) ?_)
            | (with_reducible refine Br.no (by assumption) ?_)
            | (with_reducible refine Br.yes (by assumption) ?_)
            | (with_reducible refine Br.mk (fun _ => ?_) (fun _ => ?_))
            | (with_reducible refine Both.mk ?_ ?_)
            | ((with_reducible apply blkAt_intro) ; (focus (first | exact rfl | (repeat (first | assumption | exact get_new | exact get_set (by assumption) | exact get_set get_new | apply get_old | (apply get_set_ne; (focus (first | omega | (simp only [newB_length, List.length_set, List.length_append, List.length_singleton]; omega)))))); done)) ; (focus (first | rfl | assumption | omega)) ; (try dsimp only))
            | (with_reducible refine nthR_bs1 (by assumption) ?_)
            | (with_reducible refine nthR_is1 (by assumption) ?_)
            | ((with_reducible apply appendR_lit) ; (focus (first | exact rfl | (repeat (first | assumption | exact get_new | exact get_set (by assumption) | exact get_set get_new | apply get_old | (apply get_set_ne; (focus (first | omega | (simp only [newB_length, List.length_set, List.length_append, List.length_singleton]; omega)))))); done)) ; (focus (first | rfl | assumption)) ; (focus rfl) ; (focus rfl) ; (focus rfl) ; (focus (first | exact Nat.zero_le _ | omega | (simp; done) | (simp; omega))) ; (try dsimp only))
            | (with_reducible refine appendR_nil ?_ ?_)
            | (with_reducible refine lenR_own (by assumption) ?_)
            | (with_reducible refine rowsR_own (by assumption) ?_)
            | (with_reducible refine ia_own (by assumption) ?_ ?_ (fun _ _ _ _ _ => ?_))
            | (with_reducible refine ia_sl ?_ ?_)
            | (with_reducible refine IaW.of ?_)
            | (with_reducible refine SliceW.of ?_)
            | (with_reducible refine EqnW.of ?_)
            | (with_reducible refine CopyW.of ?_)
            | (with_reducible refine out_own (by assumption) (fun _ => ?_) (fun _ _ => ?_))
            | (with_reducible refine OutW.of ?_)
            | (with_reducible refine NOut.own (by assumption) ?_)
            | (with_reducible refine NOut.lit ?_)
            | (with_reducible refine nthR_z ?_)
            | (with_reducible refine nthR_left (by first | omega | (simp only [List.length_append, List.length_cons, List.length_nil, List.length_take, List.length_drop, bs_length]; omega)) ?_)
            | (with_reducible refine lenR_sl ?_)
            | (with_reducible refine lenR_nils ?_)
            | (with_reducible refine lenR_rsl ?_)
            | (with_reducible refine rowsR_sl ?_)
            | (with_reducible refine rowsR_nils ?_)
            | (with_reducible refine rowsR_rsl ?_)
            | (with_reducible refine lenR_slx ?_)
            | (with_reducible refine rowsR_slx ?_)
            | (with_reducible refine appendR_slx ?_ ?_ ?_)
            | (with_reducible refine bytesR_intro (by first | rfl | (simp only [bs_take, bs_drop, bs_append]; rfl)) ?_)
            | (with_reducible refine nthR_bs (by first | omega | (simp only [List.length_append, List.length_cons, List.length_nil, List.length_take, List.length_drop, bs_length]; omega)) (fun _ _ _ => ?_))
            | (with_reducible intro _))))
      all_goals (conv => whnf)
      all_goals (try dsimp only)
      refine Of_call (allR s) (by omega) (Looks.ownis hz) fun H5 u hg5 hu hun => ?_
      rw [ofR0 c4, c2] at hu
      rw [c4]
      repeat' (first
        | ((with_reducible refine Side.intro ?_) <;> (first | with_reducible rfl | omega | assumption | exact Nat.le_of_ble_eq_true rfl | (simp only [bs_length, List.length_append, List.length_cons, List.length_nil, List.length_take, List.length_drop, List.length_set, List.length_replicate]; omega) | exact .inl (by omega) | exact .inr (.inl ⟨rfl, by (simp only [bs_length, List.length_append, List.length_cons, List.length_nil, List.length_take, List.length_drop, List.length_set, List.length_replicate]; omega)⟩) | exact Ref.ok_refl _ _ | (simp only [List.append_nil, List.nil_append, List.map_nil]; first | exact List.nodup_nil | exact nodup_bid1 _ | exact nodup_bid2 (by assumption)) | ((first | refine fresh_tup ?_ | skip); (repeat (first |  exact FreshA.sl _ _ FreshA_bs | exact FreshA.sl _ _ FreshA_is | exact FreshA.nils | exact FreshA.nilp | exact FreshA.int _ _ | exact FreshA.bool _ | exact FreshA.str _ | exact fresh_nil | refine fresh_cons ?_ ?_)); done) | exact rfl | (simp; done)))
        | ((conv => whnf) <;> (first
            | (with_reducible refine and_same ?_)
            | (with_reducible refine and_side ?_ ?_)
            | (with_reducible refine Br.yes rfl ?_)
            | (with_reducible refine Br.yes (by omega) ?_)
            | (with_reducible refine Br.no (by omega) ?_)
            | (with_reducible refine Br.no (by assumption) ?_)
            | (with_reducible refine Br.yes (by assumption) ?_)
            | (with_reducible refine Br.mk (fun _ => ?_) (fun _ => ?_))
            | (with_reducible refine Both.mk ?_ ?_)
            | ((with_reducible apply blkAt_intro) ; (focus (first | exact rfl | (repeat (first | assumption | exact get_new | exact get_set (by assumption) | exact get_set get_new | apply get_old | (apply get_set_ne; (focus (first | omega | (simp only [newB_length, List.length_set, List.length_append, List.length_singleton]; omega)))))); done)) ; (focus (first | rfl | assumption | omega)) ; (try dsimp only))
            | (with_reducible refine nthR_bs1 (by assumption) ?_)
            | (with_reducible refine nthR_is1 (by assumption) ?_)
            | ((with_reducible apply appendR_lit) ; (focus (first | exact rfl | (repeat (first | assumption | exact get_new | exact get_set (by assumption) | exact get_set get_new | apply get_old | (apply get_set_ne; (focus (first | omega | (simp only [newB_length, List.length_set, List.length_append, List.length_singleton]; omega)))))); done)) ; (focus (first | rfl | assumption)) ; (focus rfl) ; (focus rfl) ; (focus rfl) ; (focus (first | exact Nat.zero_le _ | omega | (simp; done) | (simp; omega))) ; (try dsimp only))
            | (with_reducible refine appendR_nil ?_ ?_)
            | (with_reducible refine lenR_own (by assumption) ?_)
            | (with_reducible refine rowsR_own (by assumption) ?_)
            | (with_reducible refine ia_own (by assumption) ?_ ?_ (fun _ _ _ _ _ => ?_))
            | (with_reducible refine ia_sl ?_ ?_)
            | (with_reducible refine IaW.of ?_)
            | (with_reducible refine SliceW.of ?_)
            | (with_reducible refine EqnW.of ?_)
            | (with_reducible refine CopyW.of ?_)
            | (with_reducible refine out_own (by assumption) (fun _ => ?_) (fun _ _ => ?_))
            | (with_reducible refine OutW.of ?_)
            | (with_reducible refine NOut.own (by assumption) ?_)
            | (with_reducible refine NOut.lit ?_)
            | (with_reducible refine nthR_z ?_)
            | (with_reducible refine nthR_left (by first | omega | (simp only [List.length_append, List.length_cons, List.length_nil, List.length_take, List.length_drop, bs_length]; omega)) ?_)
            | (with_reducible refine lenR_sl ?_)
            | (with_reducible refine lenR_nils ?_)
            | (with_reducible refine lenR_rsl ?_)
            | (with_reducible refine rowsR_sl ?_)
            | (with_reducible refine rowsR_nils ?_)
            | (with_reducible refine rowsR_rsl ?_)
            | (with_reducible refine lenR_slx ?_)
            | (with_reducible refine rowsR_slx ?_)
            | (with_reducible refine appendR_slx ?_ ?_ ?_)
            | (with_reducible refine bytesR_intro (by first | rfl | (simp only [bs_take, bs_drop, bs_append]; rfl)) ?_)
            | (with_reducible refine nthR_bs (by first | omega | (simp only [List.length_append, List.length_cons, List.length_nil, List.length_take, List.length_drop, bs_length]; omega)) (fun _ _ _ => ?_))
            | (with_reducible intro _))))
      all_goals (conv => whnf)
      all_goals (try dsimp only)
      exact ret_bool rfl
theorem val_zero : ∀ w : List UInt8, w.all (· == 0) = true → val w = 0
  | [], _ => rfl
  | b :: w, h => by
    simp only [List.all_cons, Bool.and_eq_true, beq_iff_eq] at h
    simp only [val, val_zero w h.2, h.1]; rfl
theorem le_zero (k : Nat) : (le k 0).all (· == 0) = true := by
  induction k with
  | zero => rfl
  | succ k ih =>
    have : (0 : Nat) / 256 = 0 := rfl
    simp only [le, List.all_cons, this, ih, Bool.and_true]; rfl
theorem le_all {n : Int} (h : mayW n = true) : (le 8 n.toNat).all (· == 0) = (n == 0) := by
  have h' : 0 ≤ n ∧ n ≤ 4611686018427387903 := by simpa [mayW] using h
  by_cases e : n = 0
  · subst e; exact le_zero 8
  · have : (n == 0) = false := by simpa using e
    rw [this]
    cases hc : (le 8 n.toNat).all (· == 0)
    · rfl
    · have := val_zero _ hc
      rw [val_le8 _ (by omega)] at this
      omega
theorem cat_zero : ∀ l : List Int, l.all mayW = true → (cat l).all (· == 0) = l.all (· == 0)
  | [], _ => rfl
  | n :: l, h => by
    simp only [List.all_cons, Bool.and_eq_true] at h
    rw [cat_cons, List.all_append, List.all_cons, cat_zero l h.2, le_all h.1]
theorem allR_le (s : List UInt8) : (allR s).length ≤ s.length / 8 := by
  unfold allR; split <;> simp [vals]
theorem bool_eq {b : Bool} : (decide (b = b)) = true := by simp
theorem WordsZeros_ok (s : List UInt8) (l : List Int) (hs : s.length ≤ 4611686018) (hl : l.length ≤ 461168601) : AOKn Try.prog F.joistlaw01_WordsZeros [.sl 1 (bs s) false, .sl 1 (is l) false] fun y => y = .bool true := by
  have hn := bs_length s
  have hm := is_length l
  refine AOKn.by_steps mixed fc_joistlaw01_WordsZeros_ok (by simp [fc_joistlaw01_WordsZeros]) ?_
  repeat' (first
    | ((with_reducible refine Side.intro ?_) <;> (first | with_reducible rfl | omega | assumption | exact Nat.le_of_ble_eq_true rfl | (simp only [bs_length, List.length_append, List.length_cons, List.length_nil, List.length_take, List.length_drop, List.length_set, List.length_replicate]; omega) | exact .inl (by omega) | exact .inr (.inl ⟨rfl, by (simp only [bs_length, List.length_append, List.length_cons, List.length_nil, List.length_take, List.length_drop, List.length_set, List.length_replicate]; omega)⟩) | exact Ref.ok_refl _ _ | (simp only [List.append_nil, List.nil_append, List.map_nil]; first | exact List.nodup_nil | exact nodup_bid1 _ | exact nodup_bid2 (by assumption)) | ((first | refine fresh_tup ?_ | skip); (repeat (first |  exact FreshA.sl _ _ FreshA_bs | exact FreshA.sl _ _ FreshA_is | exact FreshA.nils | exact FreshA.nilp | exact FreshA.int _ _ | exact FreshA.bool _ | exact FreshA.str _ | exact fresh_nil | refine fresh_cons ?_ ?_)); done) | exact rfl | (simp; done)))
    | ((conv => whnf) <;> (first
        | (with_reducible refine and_same ?_)
        | (with_reducible refine and_side ?_ ?_)
        | (with_reducible refine Br.yes rfl ?_)
        | (with_reducible refine Br.yes (by omega) ?_)
        | (with_reducible refine Br.no (by omega) ?_)
        | (with_reducible refine Br.no (by assumption) ?_)
        | (with_reducible refine Br.yes (by assumption) ?_)
        | (with_reducible refine Br.mk (fun _ => ?_) (fun _ => ?_))
        | (with_reducible refine Both.mk ?_ ?_)
        | ((with_reducible apply blkAt_intro) ; (focus (first | exact rfl | (repeat (first | assumption | exact get_new | exact get_set (by assumption) | exact get_set get_new | apply get_old | (apply get_set_ne; (focus (first | omega | (simp only [newB_length, List.length_set, List.length_append, List.length_singleton]; omega)))))); done)) ; (focus (first | rfl | assumption | omega)) ; (try dsimp only))
        | (with_reducible refine nthR_bs1 (by assumption) ?_)
        | (with_reducible refine nthR_is1 (by assumption) ?_)
        | ((with_reducible apply appendR_lit) ; (focus (first | exact rfl | (repeat (first | assumption | exact get_new | exact get_set (by assumption) | exact get_set get_new | apply get_old | (apply get_set_ne; (focus (first | omega | (simp only [newB_length, List.length_set, List.length_append, List.length_singleton]; omega)))))); done)) ; (focus (first | rfl | assumption)) ; (focus rfl) ; (focus rfl) ; (focus rfl) ; (focus (first | exact Nat.zero_le _ | omega | (simp; done) | (simp; omega))) ; (try dsimp only))
        | (with_reducible refine appendR_nil ?_ ?_)
        | (with_reducible refine lenR_own (by assumption) ?_)
        | (with_reducible refine rowsR_own (by assumption) ?_)
        | (with_reducible refine ia_own (by assumption) ?_ ?_ (fun _ _ _ _ _ => ?_))
        | (with_reducible refine ia_sl ?_ ?_)
        | (with_reducible refine IaW.of ?_)
        | (with_reducible refine SliceW.of ?_)
        | (with_reducible refine EqnW.of ?_)
        | (with_reducible refine CopyW.of ?_)
        | (with_reducible refine out_own (by assumption) (fun _ => ?_) (fun _ _ => ?_))
        | (with_reducible refine OutW.of ?_)
        | (with_reducible refine NOut.own (by assumption) ?_)
        | (with_reducible refine NOut.lit ?_)
        | (with_reducible refine nthR_z ?_)
        | (with_reducible refine nthR_left (by first | omega | (simp only [List.length_append, List.length_cons, List.length_nil, List.length_take, List.length_drop, bs_length]; omega)) ?_)
        | (with_reducible refine lenR_sl ?_)
        | (with_reducible refine lenR_nils ?_)
        | (with_reducible refine lenR_rsl ?_)
        | (with_reducible refine rowsR_sl ?_)
        | (with_reducible refine rowsR_nils ?_)
        | (with_reducible refine rowsR_rsl ?_)
        | (with_reducible refine lenR_slx ?_)
        | (with_reducible refine rowsR_slx ?_)
        | (with_reducible refine appendR_slx ?_ ?_ ?_)
        | (with_reducible refine bytesR_intro (by first | rfl | (simp only [bs_take, bs_drop, bs_append]; rfl)) ?_)
        | (with_reducible refine nthR_bs (by first | omega | (simp only [List.length_append, List.length_cons, List.length_nil, List.length_take, List.length_drop, bs_length]; omega)) (fun _ _ _ => ?_))
        | (with_reducible intro _))))
  all_goals (conv => whnf)
  all_goals (try dsimp only)
  refine small_call fun H0 hg0 => ?_
  repeat' (first
    | ((with_reducible refine Side.intro ?_) <;> (first | with_reducible rfl | omega | assumption | exact Nat.le_of_ble_eq_true rfl | (simp only [bs_length, List.length_append, List.length_cons, List.length_nil, List.length_take, List.length_drop, List.length_set, List.length_replicate]; omega) | exact .inl (by omega) | exact .inr (.inl ⟨rfl, by (simp only [bs_length, List.length_append, List.length_cons, List.length_nil, List.length_take, List.length_drop, List.length_set, List.length_replicate]; omega)⟩) | exact Ref.ok_refl _ _ | (simp only [List.append_nil, List.nil_append, List.map_nil]; first | exact List.nodup_nil | exact nodup_bid1 _ | exact nodup_bid2 (by assumption)) | ((first | refine fresh_tup ?_ | skip); (repeat (first |  exact FreshA.sl _ _ FreshA_bs | exact FreshA.sl _ _ FreshA_is | exact FreshA.nils | exact FreshA.nilp | exact FreshA.int _ _ | exact FreshA.bool _ | exact FreshA.str _ | exact fresh_nil | refine fresh_cons ?_ ?_)); done) | exact rfl | (simp; done)))
    | ((conv => whnf) <;> (first
        | (with_reducible refine and_same ?_)
        | (with_reducible refine and_side ?_ ?_)
        | (with_reducible refine Br.yes rfl ?_)
        | (with_reducible refine Br.yes (by omega) ?_)
        | (with_reducible refine Br.no (by omega) ?_)
        | (with_reducible refine Br.no (by assumption) ?_)
        | (with_reducible refine Br.yes (by assumption) ?_)
        | (with_reducible refine Br.mk (fun _ => ?_) (fun _ => ?_))
        | (with_reducible refine Both.mk ?_ ?_)
        | ((with_reducible apply blkAt_intro) ; (focus (first | exact rfl | (repeat (first | assumption | exact get_new | exact get_set (by assumption) | exact get_set get_new | apply get_old | (apply get_set_ne; (focus (first | omega | (simp only [newB_length, List.length_set, List.length_append, List.length_singleton]; omega)))))); done)) ; (focus (first | rfl | assumption | omega)) ; (try dsimp only))
        | (with_reducible refine nthR_bs1 (by assumption) ?_)
        | (with_reducible refine nthR_is1 (by assumption) ?_)
        | ((with_reducible apply appendR_lit) ; (focus (first | exact rfl | (repeat (first | assumption | exact get_new | exact get_set (by assumption) | exact get_set get_new | apply get_old | (apply get_set_ne; (focus (first | omega | (simp only [newB_length, List.length_set, List.length_append, List.length_singleton]; omega)))))); done)) ; (focus (first | rfl | assumption)) ; (focus rfl) ; (focus rfl) ; (focus rfl) ; (focus (first | exact Nat.zero_le _ | omega | (simp; done) | (simp; omega))) ; (try dsimp only))
        | (with_reducible refine appendR_nil ?_ ?_)
        | (with_reducible refine lenR_own (by assumption) ?_)
        | (with_reducible refine rowsR_own (by assumption) ?_)
        | (with_reducible refine ia_own (by assumption) ?_ ?_ (fun _ _ _ _ _ => ?_))
        | (with_reducible refine ia_sl ?_ ?_)
        | (with_reducible refine IaW.of ?_)
        | (with_reducible refine SliceW.of ?_)
        | (with_reducible refine EqnW.of ?_)
        | (with_reducible refine CopyW.of ?_)
        | (with_reducible refine out_own (by assumption) (fun _ => ?_) (fun _ _ => ?_))
        | (with_reducible refine OutW.of ?_)
        | (with_reducible refine NOut.own (by assumption) ?_)
        | (with_reducible refine NOut.lit ?_)
        | (with_reducible refine nthR_z ?_)
        | (with_reducible refine nthR_left (by first | omega | (simp only [List.length_append, List.length_cons, List.length_nil, List.length_take, List.length_drop, bs_length]; omega)) ?_)
        | (with_reducible refine lenR_sl ?_)
        | (with_reducible refine lenR_nils ?_)
        | (with_reducible refine lenR_rsl ?_)
        | (with_reducible refine rowsR_sl ?_)
        | (with_reducible refine rowsR_nils ?_)
        | (with_reducible refine rowsR_rsl ?_)
        | (with_reducible refine lenR_slx ?_)
        | (with_reducible refine rowsR_slx ?_)
        | (with_reducible refine appendR_slx ?_ ?_ ?_)
        | (with_reducible refine bytesR_intro (by first | rfl | (simp only [bs_take, bs_drop, bs_append]; rfl)) ?_)
        | (with_reducible refine nthR_bs (by first | omega | (simp only [List.length_append, List.length_cons, List.length_nil, List.length_take, List.length_drop, bs_length]; omega)) (fun _ _ _ => ?_))
        | (with_reducible intro _))))
  all_goals (conv => whnf)
  all_goals (try dsimp only)
  refine loop_at (α := Nat) (fun a => [(6, .bool ((s.take a).all (· == 0))), (7, .int .i64 a)]) (fun a => H0) (fun a => a ≤ s.length) (fun a => s.length - a) 0 (by omega) rfl rfl ?_
  intro k hk
  by_cases hlt : k < s.length
  · obtain ⟨p, hp, hp'⟩ := getN hlt
    have ea : (s.take (k + 1)).all (· == 0) = ((s.take k).all (· == 0) && (p == 0)) := by
      rw [List.take_add_one, hp', List.all_append]; simp
    cases hall : (s.take k).all (· == 0)
    · rw [hall, Bool.false_and] at ea
      repeat' (first
        | ((with_reducible refine Side.intro ?_) <;> (first | with_reducible rfl | omega | assumption | exact Nat.le_of_ble_eq_true rfl | (simp only [bs_length, List.length_append, List.length_cons, List.length_nil, List.length_take, List.length_drop, List.length_set, List.length_replicate]; omega) | exact .inl (by omega) | exact .inr (.inl ⟨rfl, by (simp only [bs_length, List.length_append, List.length_cons, List.length_nil, List.length_take, List.length_drop, List.length_set, List.length_replicate]; omega)⟩) | exact Ref.ok_refl _ _ | (simp only [List.append_nil, List.nil_append, List.map_nil]; first | exact List.nodup_nil | exact nodup_bid1 _ | exact nodup_bid2 (by assumption)) | ((first | refine fresh_tup ?_ | skip); (repeat (first |  exact FreshA.sl _ _ FreshA_bs | exact FreshA.sl _ _ FreshA_is | exact FreshA.nils | exact FreshA.nilp | exact FreshA.int _ _ | exact FreshA.bool _ | exact FreshA.str _ | exact fresh_nil | refine fresh_cons ?_ ?_)); done) | exact rfl | (simp; done)))
        | ((conv => whnf) <;> (first
            | (with_reducible refine and_same ?_)
            | (with_reducible refine and_side ?_ ?_)
            | (with_reducible refine Br.yes rfl ?_)
            | (with_reducible refine Br.yes (by omega) ?_)
            | (with_reducible refine Br.no (by omega) ?_)
            | (with_reducible refine Br.no (by assumption) ?_)
            | (with_reducible refine Br.yes (by assumption) ?_)
            | (with_reducible refine Br.mk (fun _ => ?_) (fun _ => ?_))
            | (with_reducible refine Both.mk ?_ ?_)
            | ((with_reducible apply blkAt_intro) ; (focus (first | exact rfl | (repeat (first | assumption | exact get_new | exact get_set (by assumption) | exact get_set get_new | apply get_old | (apply get_set_ne; (focus (first | omega | (simp only [newB_length, List.length_set, List.length_append, List.length_singleton]; omega)))))); done)) ; (focus (first | rfl | assumption | omega)) ; (try dsimp only))
            | (with_reducible refine nthR_bs1 (by assumption) ?_)
            | (with_reducible refine nthR_is1 (by assumption) ?_)
            | ((with_reducible apply appendR_lit) ; (focus (first | exact rfl | (repeat (first | assumption | exact get_new | exact get_set (by assumption) | exact get_set get_new | apply get_old | (apply get_set_ne; (focus (first | omega | (simp only [newB_length, List.length_set, List.length_append, List.length_singleton]; omega)))))); done)) ; (focus (first | rfl | assumption)) ; (focus rfl) ; (focus rfl) ; (focus rfl) ; (focus (first | exact Nat.zero_le _ | omega | (simp; done) | (simp; omega))) ; (try dsimp only))
            | (with_reducible refine appendR_nil ?_ ?_)
            | (with_reducible refine lenR_own (by assumption) ?_)
            | (with_reducible refine rowsR_own (by assumption) ?_)
            | (with_reducible refine ia_own (by assumption) ?_ ?_ (fun _ _ _ _ _ => ?_))
            | (with_reducible refine ia_sl ?_ ?_)
            | (with_reducible refine IaW.of ?_)
            | (with_reducible refine SliceW.of ?_)
            | (with_reducible refine EqnW.of ?_)
            | (with_reducible refine CopyW.of ?_)
            | (with_reducible refine out_own (by assumption) (fun _ => ?_) (fun _ _ => ?_))
            | (with_reducible refine OutW.of ?_)
            | (with_reducible refine NOut.own (by assumption) ?_)
            | (with_reducible refine NOut.lit ?_)
            | (with_reducible refine nthR_z ?_)
            | (with_reducible refine nthR_left (by first | omega | (simp only [List.length_append, List.length_cons, List.length_nil, List.length_take, List.length_drop, bs_length]; omega)) ?_)
            | (with_reducible refine lenR_sl ?_)
            | (with_reducible refine lenR_nils ?_)
            | (with_reducible refine lenR_rsl ?_)
            | (with_reducible refine rowsR_sl ?_)
            | (with_reducible refine rowsR_nils ?_)
            | (with_reducible refine rowsR_rsl ?_)
            | (with_reducible refine lenR_slx ?_)
            | (with_reducible refine rowsR_slx ?_)
            | (with_reducible refine appendR_slx ?_ ?_ ?_)
            | (with_reducible refine bytesR_intro (by first | rfl | (simp only [bs_take, bs_drop, bs_append]; rfl)) ?_)
            | (with_reducible refine nthR_bs (by first | omega | (simp only [List.length_append, List.length_cons, List.length_nil, List.length_take, List.length_drop, bs_length]; omega)) (fun _ _ _ => ?_))
            | (with_reducible intro _))))
      all_goals (conv => whnf)
      all_goals (try dsimp only)
      exact ⟨k + 1, by rw [ea]; rfl, rfl, by omega, by omega⟩
    · rw [hall, Bool.true_and] at ea
      by_cases h0 : (p.toNat : Int) = 0
      · have hp0 : p = 0 := UInt8.toNat_inj.1 (by show p.toNat = 0; omega)
        rw [hp0] at ea
        repeat' (first
          | ((with_reducible refine Side.intro ?_) <;> (first | with_reducible rfl | omega | assumption | exact Nat.le_of_ble_eq_true rfl | (simp only [bs_length, List.length_append, List.length_cons, List.length_nil, List.length_take, List.length_drop, List.length_set, List.length_replicate]; omega) | exact .inl (by omega) | exact .inr (.inl ⟨rfl, by (simp only [bs_length, List.length_append, List.length_cons, List.length_nil, List.length_take, List.length_drop, List.length_set, List.length_replicate]; omega)⟩) | exact Ref.ok_refl _ _ | (simp only [List.append_nil, List.nil_append, List.map_nil]; first | exact List.nodup_nil | exact nodup_bid1 _ | exact nodup_bid2 (by assumption)) | ((first | refine fresh_tup ?_ | skip); (repeat (first |  exact FreshA.sl _ _ FreshA_bs | exact FreshA.sl _ _ FreshA_is | exact FreshA.nils | exact FreshA.nilp | exact FreshA.int _ _ | exact FreshA.bool _ | exact FreshA.str _ | exact fresh_nil | refine fresh_cons ?_ ?_)); done) | exact rfl | (simp; done)))
          | ((conv => whnf) <;> (first
              | (with_reducible refine and_same ?_)
              | (with_reducible refine and_side ?_ ?_)
              | (with_reducible refine Br.yes rfl ?_)
              | (with_reducible refine Br.yes (by omega) ?_)
              | (with_reducible refine Br.no (by omega) ?_)
              | (with_reducible refine Br.no (by assumption) ?_)
              | (with_reducible refine Br.yes (by assumption) ?_)
              | (with_reducible refine Br.mk (fun _ => ?_) (fun _ => ?_))
              | (with_reducible refine Both.mk ?_ ?_)
              | ((with_reducible apply blkAt_intro) ; (focus (first | exact rfl | (repeat (first | assumption | exact get_new | exact get_set (by assumption) | exact get_set get_new | apply get_old | (apply get_set_ne; (focus (first | omega | (simp only [newB_length, List.length_set, List.length_append, List.length_singleton]; omega)))))); done)) ; (focus (first | rfl | assumption | omega)) ; (try dsimp only))
              | (with_reducible refine nthR_bs1 (by assumption) ?_)
              | (with_reducible refine nthR_is1 (by assumption) ?_)
              | ((with_reducible apply appendR_lit) ; (focus (first | exact rfl | (repeat (first | assumption | exact get_new | exact get_set (by assumption) | exact get_set get_new | apply get_old | (apply get_set_ne; (focus (first | omega | (simp only [newB_length, List.length_set, List.length_append, List.length_singleton]; omega)))))); done)) ; (focus (first | rfl | assumption)) ; (focus rfl) ; (focus rfl) ; (focus rfl) ; (focus (first | exact Nat.zero_le _ | omega | (simp; done) | (simp; omega))) ; (try dsimp only))
              | (with_reducible refine appendR_nil ?_ ?_)
              | (with_reducible refine lenR_own (by assumption) ?_)
              | (with_reducible refine rowsR_own (by assumption) ?_)
              | (with_reducible refine ia_own (by assumption) ?_ ?_ (fun _ _ _ _ _ => ?_))
              | (with_reducible refine ia_sl ?_ ?_)
              | (with_reducible refine IaW.of ?_)
              | (with_reducible refine SliceW.of ?_)
              | (with_reducible refine EqnW.of ?_)
              | (with_reducible refine CopyW.of ?_)
              | (with_reducible refine out_own (by assumption) (fun _ => ?_) (fun _ _ => ?_))
              | (with_reducible refine OutW.of ?_)
              | (with_reducible refine NOut.own (by assumption) ?_)
              | (with_reducible refine NOut.lit ?_)
              | (with_reducible refine nthR_z ?_)
              | (with_reducible refine nthR_left (by first | omega | (simp only [List.length_append, List.length_cons, List.length_nil, List.length_take, List.length_drop, bs_length]; omega)) ?_)
              | (with_reducible refine lenR_sl ?_)
              | (with_reducible refine lenR_nils ?_)
              | (with_reducible refine lenR_rsl ?_)
              | (with_reducible refine rowsR_sl ?_)
              | (with_reducible refine rowsR_nils ?_)
              | (with_reducible refine rowsR_rsl ?_)
              | (with_reducible refine lenR_slx ?_)
              | (with_reducible refine rowsR_slx ?_)
              | (with_reducible refine appendR_slx ?_ ?_ ?_)
              | (with_reducible refine bytesR_intro (by first | rfl | (simp only [bs_take, bs_drop, bs_append]; rfl)) ?_)
              | (with_reducible refine nthR_bs (by first | omega | (simp only [List.length_append, List.length_cons, List.length_nil, List.length_take, List.length_drop, bs_length]; omega)) (fun _ _ _ => ?_))
              | (with_reducible intro _))))
        all_goals (conv => whnf)
        all_goals (try dsimp only)
        all_goals exact ⟨k + 1, by rw [ea]; rfl, rfl, by omega, by omega⟩
      · have hp0 : (p == 0) = false := by
          rw [beq_eq_false_iff_ne]; intro e; rw [e] at h0; exact h0 rfl
        rw [hp0] at ea
        repeat' (first
          | ((with_reducible refine Side.intro ?_) <;> (first | with_reducible rfl | omega | assumption | exact Nat.le_of_ble_eq_true rfl | (simp only [bs_length, List.length_append, List.length_cons, List.length_nil, List.length_take, List.length_drop, List.length_set, List.length_replicate]; omega) | exact .inl (by omega) | exact .inr (.inl ⟨rfl, by (simp only [bs_length, List.length_append, List.length_cons, List.length_nil, List.length_take, List.length_drop, List.length_set, List.length_replicate]; omega)⟩) | exact Ref.ok_refl _ _ | (simp only [List.append_nil, List.nil_append, List.map_nil]; first | exact List.nodup_nil | exact nodup_bid1 _ | exact nodup_bid2 (by assumption)) | ((first | refine fresh_tup ?_ | skip); (repeat (first |  exact FreshA.sl _ _ FreshA_bs | exact FreshA.sl _ _ FreshA_is | exact FreshA.nils | exact FreshA.nilp | exact FreshA.int _ _ | exact FreshA.bool _ | exact FreshA.str _ | exact fresh_nil | refine fresh_cons ?_ ?_)); done) | exact rfl | (simp; done)))
          | ((conv => whnf) <;> (first
              | (with_reducible refine and_same ?_)
              | (with_reducible refine and_side ?_ ?_)
              | (with_reducible refine Br.yes rfl ?_)
              | (with_reducible refine Br.yes (by omega) ?_)
              | (with_reducible refine Br.no (by omega) ?_)
              | (with_reducible refine Br.no (by assumption) ?_)
              | (with_reducible refine Br.yes (by assumption) ?_)
              | (with_reducible refine Br.mk (fun _ => ?_) (fun _ => ?_))
              | (with_reducible refine Both.mk ?_ ?_)
              | ((with_reducible apply blkAt_intro) ; (focus (first | exact rfl | (repeat (first | assumption | exact get_new | exact get_set (by assumption) | exact get_set get_new | apply get_old | (apply get_set_ne; (focus (first | omega | (simp only [newB_length, List.length_set, List.length_append, List.length_singleton]; omega)))))); done)) ; (focus (first | rfl | assumption | omega)) ; (try dsimp only))
              | (with_reducible refine nthR_bs1 (by assumption) ?_)
              | (with_reducible refine nthR_is1 (by assumption) ?_)
              | ((with_reducible apply appendR_lit) ; (focus (first | exact rfl | (repeat (first | assumption | exact get_new | exact get_set (by assumption) | exact get_set get_new | apply get_old | (apply get_set_ne; (focus (first | omega | (simp only [newB_length, List.length_set, List.length_append, List.length_singleton]; omega)))))); done)) ; (focus (first | rfl | assumption)) ; (focus rfl) ; (focus rfl) ; (focus rfl) ; (focus (first | exact Nat.zero_le _ | omega | (simp; done) | (simp; omega))) ; (try dsimp only))
              | (with_reducible refine appendR_nil ?_ ?_)
              | (with_reducible refine lenR_own (by assumption) ?_)
              | (with_reducible refine rowsR_own (by assumption) ?_)
              | (with_reducible refine ia_own (by assumption) ?_ ?_ (fun _ _ _ _ _ => ?_))
              | (with_reducible refine ia_sl ?_ ?_)
              | (with_reducible refine IaW.of ?_)
              | (with_reducible refine SliceW.of ?_)
              | (with_reducible refine EqnW.of ?_)
              | (with_reducible refine CopyW.of ?_)
              | (with_reducible refine out_own (by assumption) (fun _ => ?_) (fun _ _ => ?_))
              | (with_reducible refine OutW.of ?_)
              | (with_reducible refine NOut.own (by assumption) ?_)
              | (with_reducible refine NOut.lit ?_)
              | (with_reducible refine nthR_z ?_)
              | (with_reducible refine nthR_left (by first | omega | (simp only [List.length_append, List.length_cons, List.length_nil, List.length_take, List.length_drop, bs_length]; omega)) ?_)
              | (with_reducible refine lenR_sl ?_)
              | (with_reducible refine lenR_nils ?_)
              | (with_reducible refine lenR_rsl ?_)
              | (with_reducible refine rowsR_sl ?_)
              | (with_reducible refine rowsR_nils ?_)
              | (with_reducible refine rowsR_rsl ?_)
              | (with_reducible refine lenR_slx ?_)
              | (with_reducible refine rowsR_slx ?_)
              | (with_reducible refine appendR_slx ?_ ?_ ?_)
              | (with_reducible refine bytesR_intro (by first | rfl | (simp only [bs_take, bs_drop, bs_append]; rfl)) ?_)
              | (with_reducible refine nthR_bs (by first | omega | (simp only [List.length_append, List.length_cons, List.length_nil, List.length_take, List.length_drop, bs_length]; omega)) (fun _ _ _ => ?_))
              | (with_reducible intro _))))
        all_goals (conv => whnf)
        all_goals (try dsimp only)
        all_goals exact ⟨k + 1, by rw [ea]; rfl, rfl, by omega, by omega⟩
  · have hkn : k = s.length := by omega
    subst hkn
    rw [List.take_length]
    repeat' (first
      | ((with_reducible refine Side.intro ?_) <;> (first | with_reducible rfl | omega | assumption | exact Nat.le_of_ble_eq_true rfl | (simp only [bs_length, List.length_append, List.length_cons, List.length_nil, List.length_take, List.length_drop, List.length_set, List.length_replicate]; omega) | exact .inl (by omega) | exact .inr (.inl ⟨rfl, by (simp only [bs_length, List.length_append, List.length_cons, List.length_nil, List.length_take, List.length_drop, List.length_set, List.length_replicate]; omega)⟩) | exact Ref.ok_refl _ _ | (simp only [List.append_nil, List.nil_append, List.map_nil]; first | exact List.nodup_nil | exact nodup_bid1 _ | exact nodup_bid2 (by assumption)) | ((first | refine fresh_tup ?_ | skip); (repeat (first |  exact FreshA.sl _ _ FreshA_bs | exact FreshA.sl _ _ FreshA_is | exact FreshA.nils | exact FreshA.nilp | exact FreshA.int _ _ | exact FreshA.bool _ | exact FreshA.str _ | exact fresh_nil | refine fresh_cons ?_ ?_)); done) | exact rfl | (simp; done)))
      | ((conv => whnf) <;> (first
          | (with_reducible refine and_same ?_)
          | (with_reducible refine and_side ?_ ?_)
          | (with_reducible refine Br.yes rfl ?_)
          | (with_reducible refine Br.yes (by omega) ?_)
          | (with_reducible refine Br.no (by omega) ?_)
          | (with_reducible refine Br.no (by assumption) ?_)
          | (with_reducible refine Br.yes (by assumption) ?_)
          | (with_reducible refine Br.mk (fun _ => ?_) (fun _ => ?_))
          | (with_reducible refine Both.mk ?_ ?_)
          | ((with_reducible apply blkAt_intro) ; (focus (first | exact rfl | (repeat (first | assumption | exact get_new | exact get_set (by assumption) | exact get_set get_new | apply get_old | (apply get_set_ne; (focus (first | omega | (simp only [newB_length, List.length_set, List.length_append, List.length_singleton]; omega)))))); done)) ; (focus (first | rfl | assumption | omega)) ; (try dsimp only))
          | (with_reducible refine nthR_bs1 (by assumption) ?_)
          | (with_reducible refine nthR_is1 (by assumption) ?_)
          | ((with_reducible apply appendR_lit) ; (focus (first | exact rfl | (repeat (first | assumption | exact get_new | exact get_set (by assumption) | exact get_set get_new | apply get_old | (apply get_set_ne; (focus (first | omega | (simp only [newB_length, List.length_set, List.length_append, List.length_singleton]; omega)))))); done)) ; (focus (first | rfl | assumption)) ; (focus rfl) ; (focus rfl) ; (focus rfl) ; (focus (first | exact Nat.zero_le _ | omega | (simp; done) | (simp; omega))) ; (try dsimp only))
          | (with_reducible refine appendR_nil ?_ ?_)
          | (with_reducible refine lenR_own (by assumption) ?_)
          | (with_reducible refine rowsR_own (by assumption) ?_)
          | (with_reducible refine ia_own (by assumption) ?_ ?_ (fun _ _ _ _ _ => ?_))
          | (with_reducible refine ia_sl ?_ ?_)
          | (with_reducible refine IaW.of ?_)
          | (with_reducible refine SliceW.of ?_)
          | (with_reducible refine EqnW.of ?_)
          | (with_reducible refine CopyW.of ?_)
          | (with_reducible refine out_own (by assumption) (fun _ => ?_) (fun _ _ => ?_))
          | (with_reducible refine OutW.of ?_)
          | (with_reducible refine NOut.own (by assumption) ?_)
          | (with_reducible refine NOut.lit ?_)
          | (with_reducible refine nthR_z ?_)
          | (with_reducible refine nthR_left (by first | omega | (simp only [List.length_append, List.length_cons, List.length_nil, List.length_take, List.length_drop, bs_length]; omega)) ?_)
          | (with_reducible refine lenR_sl ?_)
          | (with_reducible refine lenR_nils ?_)
          | (with_reducible refine lenR_rsl ?_)
          | (with_reducible refine rowsR_sl ?_)
          | (with_reducible refine rowsR_nils ?_)
          | (with_reducible refine rowsR_rsl ?_)
          | (with_reducible refine lenR_slx ?_)
          | (with_reducible refine rowsR_slx ?_)
          | (with_reducible refine appendR_slx ?_ ?_ ?_)
          | (with_reducible refine bytesR_intro (by first | rfl | (simp only [bs_take, bs_drop, bs_append]; rfl)) ?_)
          | (with_reducible refine nthR_bs (by first | omega | (simp only [List.length_append, List.length_cons, List.length_nil, List.length_take, List.length_drop, bs_length]; omega)) (fun _ _ _ => ?_))
          | (with_reducible intro _))))
    all_goals (conv => whnf)
    all_goals (try dsimp only)
    refine Of_call l (by omega) (Looks.isv _ _ _) fun H1 x hg1 hx hxn => ?_
    by_cases hE : ofE l = 0
    · rw [ofR0 hE] at hx
      rw [hE]
      have hcl := cat_length l
      repeat' (first
        | ((with_reducible refine Side.intro ?_) <;> (first | with_reducible rfl | omega | assumption | exact Nat.le_of_ble_eq_true rfl | (simp only [bs_length, List.length_append, List.length_cons, List.length_nil, List.length_take, List.length_drop, List.length_set, List.length_replicate]; omega) | exact .inl (by omega) | exact .inr (.inl ⟨rfl, by (simp only [bs_length, List.length_append, List.length_cons, List.length_nil, List.length_take, List.length_drop, List.length_set, List.length_replicate]; omega)⟩) | exact Ref.ok_refl _ _ | (simp only [List.append_nil, List.nil_append, List.map_nil]; first | exact List.nodup_nil | exact nodup_bid1 _ | exact nodup_bid2 (by assumption)) | ((first | refine fresh_tup ?_ | skip); (repeat (first |  exact FreshA.sl _ _ FreshA_bs | exact FreshA.sl _ _ FreshA_is | exact FreshA.nils | exact FreshA.nilp | exact FreshA.int _ _ | exact FreshA.bool _ | exact FreshA.str _ | exact fresh_nil | refine fresh_cons ?_ ?_)); done) | exact rfl | (simp; done)))
        | ((conv => whnf) <;> (first
            | (with_reducible refine and_same ?_)
            | (with_reducible refine and_side ?_ ?_)
            | (with_reducible refine Br.yes rfl ?_)
            | (with_reducible refine Br.yes (by omega) ?_)
            | (with_reducible refine Br.no (by omega) ?_)
            | (with_reducible refine Br.no (by assumption) ?_)
            | (with_reducible refine Br.yes (by assumption) ?_)
            | (with_reducible refine Br.mk (fun _ => ?_) (fun _ => ?_))
            | (with_reducible refine Both.mk ?_ ?_)
            | ((with_reducible apply blkAt_intro) ; (focus (first | exact rfl | (repeat (first | assumption | exact get_new | exact get_set (by assumption) | exact get_set get_new | apply get_old | (apply get_set_ne; (focus (first | omega | (simp only [newB_length, List.length_set, List.length_append, List.length_singleton]; omega)))))); done)) ; (focus (first | rfl | assumption | omega)) ; (try dsimp only))
            | (with_reducible refine nthR_bs1 (by assumption) ?_)
            | (with_reducible refine nthR_is1 (by assumption) ?_)
            | ((with_reducible apply appendR_lit) ; (focus (first | exact rfl | (repeat (first | assumption | exact get_new | exact get_set (by assumption) | exact get_set get_new | apply get_old | (apply get_set_ne; (focus (first | omega | (simp only [newB_length, List.length_set, List.length_append, List.length_singleton]; omega)))))); done)) ; (focus (first | rfl | assumption)) ; (focus rfl) ; (focus rfl) ; (focus rfl) ; (focus (first | exact Nat.zero_le _ | omega | (simp; done) | (simp; omega))) ; (try dsimp only))
            | (with_reducible refine appendR_nil ?_ ?_)
            | (with_reducible refine lenR_own (by assumption) ?_)
            | (with_reducible refine rowsR_own (by assumption) ?_)
            | (with_reducible refine ia_own (by assumption) ?_ ?_ (fun _ _ _ _ _ => ?_))
            | (with_reducible refine ia_sl ?_ ?_)
            | (with_reducible refine IaW.of ?_)
            | (with_reducible refine SliceW.of ?_)
            | (with_reducible refine EqnW.of ?_)
            | (with_reducible refine CopyW.of ?_)
            | (with_reducible refine out_own (by assumption) (fun _ => ?_) (fun _ _ => ?_))
            | (with_reducible refine OutW.of ?_)
            | (with_reducible refine NOut.own (by assumption) ?_)
            | (with_reducible refine NOut.lit ?_)
            | (with_reducible refine nthR_z ?_)
            | (with_reducible refine nthR_left (by first | omega | (simp only [List.length_append, List.length_cons, List.length_nil, List.length_take, List.length_drop, bs_length]; omega)) ?_)
            | (with_reducible refine lenR_sl ?_)
            | (with_reducible refine lenR_nils ?_)
            | (with_reducible refine lenR_rsl ?_)
            | (with_reducible refine rowsR_sl ?_)
            | (with_reducible refine rowsR_nils ?_)
            | (with_reducible refine rowsR_rsl ?_)
            | (with_reducible refine lenR_slx ?_)
            | (with_reducible refine rowsR_slx ?_)
            | (with_reducible refine appendR_slx ?_ ?_ ?_)
            | (with_reducible refine bytesR_intro (by first | rfl | (simp only [bs_take, bs_drop, bs_append]; rfl)) ?_)
            | (with_reducible refine nthR_bs (by first | omega | (simp only [List.length_append, List.length_cons, List.length_nil, List.length_take, List.length_drop, bs_length]; omega)) (fun _ _ _ => ?_))
            | (with_reducible intro _))))
      all_goals (conv => whnf)
      all_goals (try dsimp only)
      refine loop_at (α := Nat) (fun a => [(10, .bool ((l.take a).all (· == 0))), (11, .int .i64 a)]) (fun a => H1) (fun a => a ≤ l.length) (fun a => l.length - a) 0 (by omega) rfl rfl ?_
      intro k hk
      by_cases hlt : k < l.length
      · obtain ⟨p, hp, hp'⟩ := getN hlt
        have ea : (l.take (k + 1)).all (· == 0) = ((l.take k).all (· == 0) && (p == 0)) := by
          rw [List.take_add_one, hp', List.all_append]; simp
        cases hall : (l.take k).all (· == 0)
        · rw [hall, Bool.false_and] at ea
          repeat' (first
            | ((with_reducible refine Side.intro ?_) <;> (first | with_reducible rfl | omega | assumption | exact Nat.le_of_ble_eq_true rfl | (simp only [bs_length, List.length_append, List.length_cons, List.length_nil, List.length_take, List.length_drop, List.length_set, List.length_replicate]; omega) | exact .inl (by omega) | exact .inr (.inl ⟨rfl, by (simp only [bs_length, List.length_append, List.length_cons, List.length_nil, List.length_take, List.length_drop, List.length_set, List.length_replicate]; omega)⟩) | exact Ref.ok_refl _ _ | (simp only [List.append_nil, List.nil_append, List.map_nil]; first | exact List.nodup_nil | exact nodup_bid1 _ | exact nodup_bid2 (by assumption)) | ((first | refine fresh_tup ?_ | skip); (repeat (first |  exact FreshA.sl _ _ FreshA_bs | exact FreshA.sl _ _ FreshA_is | exact FreshA.nils | exact FreshA.nilp | exact FreshA.int _ _ | exact FreshA.bool _ | exact FreshA.str _ | exact fresh_nil | refine fresh_cons ?_ ?_)); done) | exact rfl | (simp; done)))
            | ((conv => whnf) <;> (first
                | (with_reducible refine and_same ?_)
                | (with_reducible refine and_side ?_ ?_)
                | (with_reducible refine Br.yes rfl ?_)
                | (with_reducible refine Br.yes (by omega) ?_)
                | (with_reducible refine Br.no (by omega) ?_)
                | (with_reducible refine Br.no (by assumption) ?_)
                | (with_reducible refine Br.yes (by assumption) ?_)
                | (with_reducible refine Br.mk (fun _ => ?_) (fun _ => ?_))
                | (with_reducible refine Both.mk ?_ ?_)
                | ((with_reducible apply blkAt_intro) ; (focus (first | exact rfl | (repeat (first | assumption | exact get_new | exact get_set (by assumption) | exact get_set get_new | apply get_old | (apply get_set_ne; (focus (first | omega | (simp only [newB_length, List.length_set, List.length_append, List.length_singleton]; omega)))))); done)) ; (focus (first | rfl | assumption | omega)) ; (try dsimp only))
                | (with_reducible refine nthR_bs1 (by assumption) ?_)
                | (with_reducible refine nthR_is1 (by assumption) ?_)
                | ((with_reducible apply appendR_lit) ; (focus (first | exact rfl | (repeat (first | assumption | exact get_new | exact get_set (by assumption) | exact get_set get_new | apply get_old | (apply get_set_ne; (focus (first | omega | (simp only [newB_length, List.length_set, List.length_append, List.length_singleton]; omega)))))); done)) ; (focus (first | rfl | assumption)) ; (focus rfl) ; (focus rfl) ; (focus rfl) ; (focus (first | exact Nat.zero_le _ | omega | (simp; done) | (simp; omega))) ; (try dsimp only))
                | (with_reducible refine appendR_nil ?_ ?_)
                | (with_reducible refine lenR_own (by assumption) ?_)
                | (with_reducible refine rowsR_own (by assumption) ?_)
                | (with_reducible refine ia_own (by assumption) ?_ ?_ (fun _ _ _ _ _ => ?_))
                | (with_reducible refine ia_sl ?_ ?_)
                | (with_reducible refine IaW.of ?_)
                | (with_reducible refine SliceW.of ?_)
                | (with_reducible refine EqnW.of ?_)
                | (with_reducible refine CopyW.of ?_)
                | (with_reducible refine out_own (by assumption) (fun _ => ?_) (fun _ _ => ?_))
                | (with_reducible refine OutW.of ?_)
                | (with_reducible refine NOut.own (by assumption) ?_)
                | (with_reducible refine NOut.lit ?_)
                | (with_reducible refine nthR_z ?_)
                | (with_reducible refine nthR_left (by first | omega | (simp only [List.length_append, List.length_cons, List.length_nil, List.length_take, List.length_drop, bs_length]; omega)) ?_)
                | (with_reducible refine lenR_sl ?_)
                | (with_reducible refine lenR_nils ?_)
                | (with_reducible refine lenR_rsl ?_)
                | (with_reducible refine rowsR_sl ?_)
                | (with_reducible refine rowsR_nils ?_)
                | (with_reducible refine rowsR_rsl ?_)
                | (with_reducible refine lenR_slx ?_)
                | (with_reducible refine rowsR_slx ?_)
                | (with_reducible refine appendR_slx ?_ ?_ ?_)
                | (with_reducible refine bytesR_intro (by first | rfl | (simp only [bs_take, bs_drop, bs_append]; rfl)) ?_)
                | (with_reducible refine nthR_bs (by first | omega | (simp only [List.length_append, List.length_cons, List.length_nil, List.length_take, List.length_drop, bs_length]; omega)) (fun _ _ _ => ?_))
                | (with_reducible intro _))))
          all_goals (conv => whnf)
          all_goals (try dsimp only)
          exact ⟨k + 1, by rw [ea]; rfl, rfl, by omega, by omega⟩
        · rw [hall, Bool.true_and] at ea
          by_cases h0 : p = 0
          · rw [h0] at ea
            repeat' (first
              | ((with_reducible refine Side.intro ?_) <;> (first | with_reducible rfl | omega | assumption | exact Nat.le_of_ble_eq_true rfl | (simp only [bs_length, List.length_append, List.length_cons, List.length_nil, List.length_take, List.length_drop, List.length_set, List.length_replicate]; omega) | exact .inl (by omega) | exact .inr (.inl ⟨rfl, by (simp only [bs_length, List.length_append, List.length_cons, List.length_nil, List.length_take, List.length_drop, List.length_set, List.length_replicate]; omega)⟩) | exact Ref.ok_refl _ _ | (simp only [List.append_nil, List.nil_append, List.map_nil]; first | exact List.nodup_nil | exact nodup_bid1 _ | exact nodup_bid2 (by assumption)) | ((first | refine fresh_tup ?_ | skip); (repeat (first |  exact FreshA.sl _ _ FreshA_bs | exact FreshA.sl _ _ FreshA_is | exact FreshA.nils | exact FreshA.nilp | exact FreshA.int _ _ | exact FreshA.bool _ | exact FreshA.str _ | exact fresh_nil | refine fresh_cons ?_ ?_)); done) | exact rfl | (simp; done)))
              | ((conv => whnf) <;> (first
                  | (with_reducible refine and_same ?_)
                  | (with_reducible refine and_side ?_ ?_)
                  | (with_reducible refine Br.yes rfl ?_)
                  | (with_reducible refine Br.yes (by omega) ?_)
                  | (with_reducible refine Br.no (by omega) ?_)
                  | (with_reducible refine Br.no (by assumption) ?_)
                  | (with_reducible refine Br.yes (by assumption) ?_)
                  | (with_reducible refine Br.mk (fun _ => ?_) (fun _ => ?_))
                  | (with_reducible refine Both.mk ?_ ?_)
                  | ((with_reducible apply blkAt_intro) ; (focus (first | exact rfl | (repeat (first | assumption | exact get_new | exact get_set (by assumption) | exact get_set get_new | apply get_old | (apply get_set_ne; (focus (first | omega | (simp only [newB_length, List.length_set, List.length_append, List.length_singleton]; omega)))))); done)) ; (focus (first | rfl | assumption | omega)) ; (try dsimp only))
                  | (with_reducible refine nthR_bs1 (by assumption) ?_)
                  | (with_reducible refine nthR_is1 (by assumption) ?_)
                  | ((with_reducible apply appendR_lit) ; (focus (first | exact rfl | (repeat (first | assumption | exact get_new | exact get_set (by assumption) | exact get_set get_new | apply get_old | (apply get_set_ne; (focus (first | omega | (simp only [newB_length, List.length_set, List.length_append, List.length_singleton]; omega)))))); done)) ; (focus (first | rfl | assumption)) ; (focus rfl) ; (focus rfl) ; (focus rfl) ; (focus (first | exact Nat.zero_le _ | omega | (simp; done) | (simp; omega))) ; (try dsimp only))
                  | (with_reducible refine appendR_nil ?_ ?_)
                  | (with_reducible refine lenR_own (by assumption) ?_)
                  | (with_reducible refine rowsR_own (by assumption) ?_)
                  | (with_reducible refine ia_own (by assumption) ?_ ?_ (fun _ _ _ _ _ => ?_))
                  | (with_reducible refine ia_sl ?_ ?_)
                  | (with_reducible refine IaW.of ?_)
                  | (with_reducible refine SliceW.of ?_)
                  | (with_reducible refine EqnW.of ?_)
                  | (with_reducible refine CopyW.of ?_)
                  | (with_reducible refine out_own (by assumption) (fun _ => ?_) (fun _ _ => ?_))
                  | (with_reducible refine OutW.of ?_)
                  | (with_reducible refine NOut.own (by assumption) ?_)
                  | (with_reducible refine NOut.lit ?_)
                  | (with_reducible refine nthR_z ?_)
                  | (with_reducible refine nthR_left (by first | omega | (simp only [List.length_append, List.length_cons, List.length_nil, List.length_take, List.length_drop, bs_length]; omega)) ?_)
                  | (with_reducible refine lenR_sl ?_)
                  | (with_reducible refine lenR_nils ?_)
                  | (with_reducible refine lenR_rsl ?_)
                  | (with_reducible refine rowsR_sl ?_)
                  | (with_reducible refine rowsR_nils ?_)
                  | (with_reducible refine rowsR_rsl ?_)
                  | (with_reducible refine lenR_slx ?_)
                  | (with_reducible refine rowsR_slx ?_)
                  | (with_reducible refine appendR_slx ?_ ?_ ?_)
                  | (with_reducible refine bytesR_intro (by first | rfl | (simp only [bs_take, bs_drop, bs_append]; rfl)) ?_)
                  | (with_reducible refine nthR_bs (by first | omega | (simp only [List.length_append, List.length_cons, List.length_nil, List.length_take, List.length_drop, bs_length]; omega)) (fun _ _ _ => ?_))
                  | (with_reducible intro _))))
            all_goals (conv => whnf)
            all_goals (try dsimp only)
            all_goals exact ⟨k + 1, by rw [ea]; rfl, rfl, by omega, by omega⟩
          · have hp0 : (p == 0) = false := by rw [beq_eq_false_iff_ne]; exact h0
            rw [hp0] at ea
            repeat' (first
              | ((with_reducible refine Side.intro ?_) <;> (first | with_reducible rfl | omega | assumption | exact Nat.le_of_ble_eq_true rfl | (simp only [bs_length, List.length_append, List.length_cons, List.length_nil, List.length_take, List.length_drop, List.length_set, List.length_replicate]; omega) | exact .inl (by omega) | exact .inr (.inl ⟨rfl, by (simp only [bs_length, List.length_append, List.length_cons, List.length_nil, List.length_take, List.length_drop, List.length_set, List.length_replicate]; omega)⟩) | exact Ref.ok_refl _ _ | (simp only [List.append_nil, List.nil_append, List.map_nil]; first | exact List.nodup_nil | exact nodup_bid1 _ | exact nodup_bid2 (by assumption)) | ((first | refine fresh_tup ?_ | skip); (repeat (first |  exact FreshA.sl _ _ FreshA_bs | exact FreshA.sl _ _ FreshA_is | exact FreshA.nils | exact FreshA.nilp | exact FreshA.int _ _ | exact FreshA.bool _ | exact FreshA.str _ | exact fresh_nil | refine fresh_cons ?_ ?_)); done) | exact rfl | (simp; done)))
              | ((conv => whnf) <;> (first
                  | (with_reducible refine and_same ?_)
                  | (with_reducible refine and_side ?_ ?_)
                  | (with_reducible refine Br.yes rfl ?_)
                  | (with_reducible refine Br.yes (by omega) ?_)
                  | (with_reducible refine Br.no (by omega) ?_)
                  | (with_reducible refine Br.no (by assumption) ?_)
                  | (with_reducible refine Br.yes (by assumption) ?_)
                  | (with_reducible refine Br.mk (fun _ => ?_) (fun _ => ?_))
                  | (with_reducible refine Both.mk ?_ ?_)
                  | ((with_reducible apply blkAt_intro) ; (focus (first | exact rfl | (repeat (first | assumption | exact get_new | exact get_set (by assumption) | exact get_set get_new | apply get_old | (apply get_set_ne; (focus (first | omega | (simp only [newB_length, List.length_set, List.length_append, List.length_singleton]; omega)))))); done)) ; (focus (first | rfl | assumption | omega)) ; (try dsimp only))
                  | (with_reducible refine nthR_bs1 (by assumption) ?_)
                  | (with_reducible refine nthR_is1 (by assumption) ?_)
                  | ((with_reducible apply appendR_lit) ; (focus (first | exact rfl | (repeat (first | assumption | exact get_new | exact get_set (by assumption) | exact get_set get_new | apply get_old | (apply get_set_ne; (focus (first | omega | (simp only [newB_length, List.length_set, List.length_append, List.length_singleton]; omega)))))); done)) ; (focus (first | rfl | assumption)) ; (focus rfl) ; (focus rfl) ; (focus rfl) ; (focus (first | exact Nat.zero_le _ | omega | (simp; done) | (simp; omega))) ; (try dsimp only))
                  | (with_reducible refine appendR_nil ?_ ?_)
                  | (with_reducible refine lenR_own (by assumption) ?_)
                  | (with_reducible refine rowsR_own (by assumption) ?_)
                  | (with_reducible refine ia_own (by assumption) ?_ ?_ (fun _ _ _ _ _ => ?_))
                  | (with_reducible refine ia_sl ?_ ?_)
                  | (with_reducible refine IaW.of ?_)
                  | (with_reducible refine SliceW.of ?_)
                  | (with_reducible refine EqnW.of ?_)
                  | (with_reducible refine CopyW.of ?_)
                  | (with_reducible refine out_own (by assumption) (fun _ => ?_) (fun _ _ => ?_))
                  | (with_reducible refine OutW.of ?_)
                  | (with_reducible refine NOut.own (by assumption) ?_)
                  | (with_reducible refine NOut.lit ?_)
                  | (with_reducible refine nthR_z ?_)
                  | (with_reducible refine nthR_left (by first | omega | (simp only [List.length_append, List.length_cons, List.length_nil, List.length_take, List.length_drop, bs_length]; omega)) ?_)
                  | (with_reducible refine lenR_sl ?_)
                  | (with_reducible refine lenR_nils ?_)
                  | (with_reducible refine lenR_rsl ?_)
                  | (with_reducible refine rowsR_sl ?_)
                  | (with_reducible refine rowsR_nils ?_)
                  | (with_reducible refine rowsR_rsl ?_)
                  | (with_reducible refine lenR_slx ?_)
                  | (with_reducible refine rowsR_slx ?_)
                  | (with_reducible refine appendR_slx ?_ ?_ ?_)
                  | (with_reducible refine bytesR_intro (by first | rfl | (simp only [bs_take, bs_drop, bs_append]; rfl)) ?_)
                  | (with_reducible refine nthR_bs (by first | omega | (simp only [List.length_append, List.length_cons, List.length_nil, List.length_take, List.length_drop, bs_length]; omega)) (fun _ _ _ => ?_))
                  | (with_reducible intro _))))
            all_goals (conv => whnf)
            all_goals (try dsimp only)
            all_goals exact ⟨k + 1, by rw [ea]; rfl, rfl, by omega, by omega⟩
      · have hkn : k = l.length := by omega
        subst hkn
        rw [List.take_length]
        repeat' (first
          | ((with_reducible refine Side.intro ?_) <;> (first | with_reducible rfl | omega | assumption | exact Nat.le_of_ble_eq_true rfl | (simp only [bs_length, List.length_append, List.length_cons, List.length_nil, List.length_take, List.length_drop, List.length_set, List.length_replicate]; omega) | exact .inl (by omega) | exact .inr (.inl ⟨rfl, by (simp only [bs_length, List.length_append, List.length_cons, List.length_nil, List.length_take, List.length_drop, List.length_set, List.length_replicate]; omega)⟩) | exact Ref.ok_refl _ _ | (simp only [List.append_nil, List.nil_append, List.map_nil]; first | exact List.nodup_nil | exact nodup_bid1 _ | exact nodup_bid2 (by assumption)) | ((first | refine fresh_tup ?_ | skip); (repeat (first |  exact FreshA.sl _ _ FreshA_bs | exact FreshA.sl _ _ FreshA_is | exact FreshA.nils | exact FreshA.nilp | exact FreshA.int _ _ | exact FreshA.bool _ | exact FreshA.str _ | exact fresh_nil | refine fresh_cons ?_ ?_)); done) | exact rfl | (simp; done)))
          | ((conv => whnf) <;> (first
              | (with_reducible refine and_same ?_)
              | (with_reducible refine and_side ?_ ?_)
              | (with_reducible refine Br.yes rfl ?_)
              | (with_reducible refine Br.yes (by omega) ?_)
              | (with_reducible refine Br.no (by omega) ?_)
              | (with_reducible refine Br.no (by assumption) ?_)
              | (with_reducible refine Br.yes (by assumption) ?_)
              | (with_reducible refine Br.mk (fun _ => ?_) (fun _ => ?_))
              | (with_reducible refine Both.mk ?_ ?_)
              | ((with_reducible apply blkAt_intro) ; (focus (first | exact rfl | (repeat (first | assumption | exact get_new | exact get_set (by assumption) | exact get_set get_new | apply get_old | (apply get_set_ne; (focus (first | omega | (simp only [newB_length, List.length_set, List.length_append, List.length_singleton]; omega)))))); done)) ; (focus (first | rfl | assumption | omega)) ; (try dsimp only))
              | (with_reducible refine nthR_bs1 (by assumption) ?_)
              | (with_reducible refine nthR_is1 (by assumption) ?_)
              | ((with_reducible apply appendR_lit) ; (focus (first | exact rfl | (repeat (first | assumption | exact get_new | exact get_set (by assumption) | exact get_set get_new | apply get_old | (apply get_set_ne; (focus (first | omega | (simp only [newB_length, List.length_set, List.length_append, List.length_singleton]; omega)))))); done)) ; (focus (first | rfl | assumption)) ; (focus rfl) ; (focus rfl) ; (focus rfl) ; (focus (first | exact Nat.zero_le _ | omega | (simp; done) | (simp; omega))) ; (try dsimp only))
              | (with_reducible refine appendR_nil ?_ ?_)
              | (with_reducible refine lenR_own (by assumption) ?_)
              | (with_reducible refine rowsR_own (by assumption) ?_)
              | (with_reducible refine ia_own (by assumption) ?_ ?_ (fun _ _ _ _ _ => ?_))
              | (with_reducible refine ia_sl ?_ ?_)
              | (with_reducible refine IaW.of ?_)
              | (with_reducible refine SliceW.of ?_)
              | (with_reducible refine EqnW.of ?_)
              | (with_reducible refine CopyW.of ?_)
              | (with_reducible refine out_own (by assumption) (fun _ => ?_) (fun _ _ => ?_))
              | (with_reducible refine OutW.of ?_)
              | (with_reducible refine NOut.own (by assumption) ?_)
              | (with_reducible refine NOut.lit ?_)
              | (with_reducible refine nthR_z ?_)
              | (with_reducible refine nthR_left (by first | omega | (simp only [List.length_append, List.length_cons, List.length_nil, List.length_take, List.length_drop, bs_length]; omega)) ?_)
              | (with_reducible refine lenR_sl ?_)
              | (with_reducible refine lenR_nils ?_)
              | (with_reducible refine lenR_rsl ?_)
              | (with_reducible refine rowsR_sl ?_)
              | (with_reducible refine rowsR_nils ?_)
              | (with_reducible refine rowsR_rsl ?_)
              | (with_reducible refine lenR_slx ?_)
              | (with_reducible refine rowsR_slx ?_)
              | (with_reducible refine appendR_slx ?_ ?_ ?_)
              | (with_reducible refine bytesR_intro (by first | rfl | (simp only [bs_take, bs_drop, bs_append]; rfl)) ?_)
              | (with_reducible refine nthR_bs (by first | omega | (simp only [List.length_append, List.length_cons, List.length_nil, List.length_take, List.length_drop, bs_length]; omega)) (fun _ _ _ => ?_))
              | (with_reducible intro _))))
        all_goals (conv => whnf)
        all_goals (try dsimp only)
        refine Zero_call s (by omega) (.bs _ _ _) fun H2 hg2 => ?_
        replace hx := hx.keepN hg2
        repeat' (first
          | ((with_reducible refine Side.intro ?_) <;> (first | with_reducible rfl | omega | assumption | exact Nat.le_of_ble_eq_true rfl | (simp only [bs_length, List.length_append, List.length_cons, List.length_nil, List.length_take, List.length_drop, List.length_set, List.length_replicate]; omega) | exact .inl (by omega) | exact .inr (.inl ⟨rfl, by (simp only [bs_length, List.length_append, List.length_cons, List.length_nil, List.length_take, List.length_drop, List.length_set, List.length_replicate]; omega)⟩) | exact Ref.ok_refl _ _ | (simp only [List.append_nil, List.nil_append, List.map_nil]; first | exact List.nodup_nil | exact nodup_bid1 _ | exact nodup_bid2 (by assumption)) | ((first | refine fresh_tup ?_ | skip); (repeat (first |  exact FreshA.sl _ _ FreshA_bs | exact FreshA.sl _ _ FreshA_is | exact FreshA.nils | exact FreshA.nilp | exact FreshA.int _ _ | exact FreshA.bool _ | exact FreshA.str _ | exact fresh_nil | refine fresh_cons ?_ ?_)); done) | exact rfl | (simp; done)))
          | ((conv => whnf) <;> (first
              | (with_reducible refine and_same ?_)
              | (with_reducible refine and_side ?_ ?_)
              | (with_reducible refine Br.yes rfl ?_)
              | (with_reducible refine Br.yes (by omega) ?_)
              | (with_reducible refine Br.no (by omega) ?_)
              | (with_reducible refine Br.no (by assumption) ?_)
              | (with_reducible refine Br.yes (by assumption) ?_)
              | (with_reducible refine Br.mk (fun _ => ?_) (fun _ => ?_))
              | (with_reducible refine Both.mk ?_ ?_)
              | ((with_reducible apply blkAt_intro) ; (focus (first | exact rfl | (repeat (first | assumption | exact get_new | exact get_set (by assumption) | exact get_set get_new | apply get_old | (apply get_set_ne; (focus (first | omega | (simp only [newB_length, List.length_set, List.length_append, List.length_singleton]; omega)))))); done)) ; (focus (first | rfl | assumption | omega)) ; (try dsimp only))
              | (with_reducible refine nthR_bs1 (by assumption) ?_)
              | (with_reducible refine nthR_is1 (by assumption) ?_)
              | ((with_reducible apply appendR_lit) ; (focus (first | exact rfl | (repeat (first | assumption | exact get_new | exact get_set (by assumption) | exact get_set get_new | apply get_old | (apply get_set_ne; (focus (first | omega | (simp only [newB_length, List.length_set, List.length_append, List.length_singleton]; omega)))))); done)) ; (focus (first | rfl | assumption)) ; (focus rfl) ; (focus rfl) ; (focus rfl) ; (focus (first | exact Nat.zero_le _ | omega | (simp; done) | (simp; omega))) ; (try dsimp only))
              | (with_reducible refine appendR_nil ?_ ?_)
              | (with_reducible refine lenR_own (by assumption) ?_)
              | (with_reducible refine rowsR_own (by assumption) ?_)
              | (with_reducible refine ia_own (by assumption) ?_ ?_ (fun _ _ _ _ _ => ?_))
              | (with_reducible refine ia_sl ?_ ?_)
              | (with_reducible refine IaW.of ?_)
              | (with_reducible refine SliceW.of ?_)
              | (with_reducible refine EqnW.of ?_)
              | (with_reducible refine CopyW.of ?_)
              | (with_reducible refine out_own (by assumption) (fun _ => ?_) (fun _ _ => ?_))
              | (with_reducible refine OutW.of ?_)
              | (with_reducible refine NOut.own (by assumption) ?_)
              | (with_reducible refine NOut.lit ?_)
              | (with_reducible refine nthR_z ?_)
              | (with_reducible refine nthR_left (by first | omega | (simp only [List.length_append, List.length_cons, List.length_nil, List.length_take, List.length_drop, bs_length]; omega)) ?_)
              | (with_reducible refine lenR_sl ?_)
              | (with_reducible refine lenR_nils ?_)
              | (with_reducible refine lenR_rsl ?_)
              | (with_reducible refine rowsR_sl ?_)
              | (with_reducible refine rowsR_nils ?_)
              | (with_reducible refine rowsR_rsl ?_)
              | (with_reducible refine lenR_slx ?_)
              | (with_reducible refine rowsR_slx ?_)
              | (with_reducible refine appendR_slx ?_ ?_ ?_)
              | (with_reducible refine bytesR_intro (by first | rfl | (simp only [bs_take, bs_drop, bs_append]; rfl)) ?_)
              | (with_reducible refine nthR_bs (by first | omega | (simp only [List.length_append, List.length_cons, List.length_nil, List.length_take, List.length_drop, bs_length]; omega)) (fun _ _ _ => ?_))
              | (with_reducible intro _))))
        all_goals (conv => whnf)
        all_goals (try dsimp only)
        refine Zero_call (cat l) (by omega) (.ownbs hx) fun H3 hg3 => ?_
        rw [cat_zero l (ofE0 hE)]
        repeat' (first
          | ((with_reducible refine Side.intro ?_) <;> (first | with_reducible rfl | omega | assumption | exact Nat.le_of_ble_eq_true rfl | (simp only [bs_length, List.length_append, List.length_cons, List.length_nil, List.length_take, List.length_drop, List.length_set, List.length_replicate]; omega) | exact .inl (by omega) | exact .inr (.inl ⟨rfl, by (simp only [bs_length, List.length_append, List.length_cons, List.length_nil, List.length_take, List.length_drop, List.length_set, List.length_replicate]; omega)⟩) | exact Ref.ok_refl _ _ | (simp only [List.append_nil, List.nil_append, List.map_nil]; first | exact List.nodup_nil | exact nodup_bid1 _ | exact nodup_bid2 (by assumption)) | ((first | refine fresh_tup ?_ | skip); (repeat (first |  exact FreshA.sl _ _ FreshA_bs | exact FreshA.sl _ _ FreshA_is | exact FreshA.nils | exact FreshA.nilp | exact FreshA.int _ _ | exact FreshA.bool _ | exact FreshA.str _ | exact fresh_nil | refine fresh_cons ?_ ?_)); done) | exact rfl | (simp; done)))
          | ((conv => whnf) <;> (first
              | (with_reducible refine and_same ?_)
              | (with_reducible refine and_side ?_ ?_)
              | (with_reducible refine Br.yes rfl ?_)
              | (with_reducible refine Br.yes (by omega) ?_)
              | (with_reducible refine Br.no (by omega) ?_)
              | (with_reducible refine Br.no (by assumption) ?_)
              | (with_reducible refine Br.yes (by assumption) ?_)
              | (with_reducible refine Br.mk (fun _ => ?_) (fun _ => ?_))
              | (with_reducible refine Both.mk ?_ ?_)
              | ((with_reducible apply blkAt_intro) ; (focus (first | exact rfl | (repeat (first | assumption | exact get_new | exact get_set (by assumption) | exact get_set get_new | apply get_old | (apply get_set_ne; (focus (first | omega | (simp only [newB_length, List.length_set, List.length_append, List.length_singleton]; omega)))))); done)) ; (focus (first | rfl | assumption | omega)) ; (try dsimp only))
              | (with_reducible refine nthR_bs1 (by assumption) ?_)
              | (with_reducible refine nthR_is1 (by assumption) ?_)
              | ((with_reducible apply appendR_lit) ; (focus (first | exact rfl | (repeat (first | assumption | exact get_new | exact get_set (by assumption) | exact get_set get_new | apply get_old | (apply get_set_ne; (focus (first | omega | (simp only [newB_length, List.length_set, List.length_append, List.length_singleton]; omega)))))); done)) ; (focus (first | rfl | assumption)) ; (focus rfl) ; (focus rfl) ; (focus rfl) ; (focus (first | exact Nat.zero_le _ | omega | (simp; done) | (simp; omega))) ; (try dsimp only))
              | (with_reducible refine appendR_nil ?_ ?_)
              | (with_reducible refine lenR_own (by assumption) ?_)
              | (with_reducible refine rowsR_own (by assumption) ?_)
              | (with_reducible refine ia_own (by assumption) ?_ ?_ (fun _ _ _ _ _ => ?_))
              | (with_reducible refine ia_sl ?_ ?_)
              | (with_reducible refine IaW.of ?_)
              | (with_reducible refine SliceW.of ?_)
              | (with_reducible refine EqnW.of ?_)
              | (with_reducible refine CopyW.of ?_)
              | (with_reducible refine out_own (by assumption) (fun _ => ?_) (fun _ _ => ?_))
              | (with_reducible refine OutW.of ?_)
              | (with_reducible refine NOut.own (by assumption) ?_)
              | (with_reducible refine NOut.lit ?_)
              | (with_reducible refine nthR_z ?_)
              | (with_reducible refine nthR_left (by first | omega | (simp only [List.length_append, List.length_cons, List.length_nil, List.length_take, List.length_drop, bs_length]; omega)) ?_)
              | (with_reducible refine lenR_sl ?_)
              | (with_reducible refine lenR_nils ?_)
              | (with_reducible refine lenR_rsl ?_)
              | (with_reducible refine rowsR_sl ?_)
              | (with_reducible refine rowsR_nils ?_)
              | (with_reducible refine rowsR_rsl ?_)
              | (with_reducible refine lenR_slx ?_)
              | (with_reducible refine rowsR_slx ?_)
              | (with_reducible refine appendR_slx ?_ ?_ ?_)
              | (with_reducible refine bytesR_intro (by first | rfl | (simp only [bs_take, bs_drop, bs_append]; rfl)) ?_)
              | (with_reducible refine nthR_bs (by first | omega | (simp only [List.length_append, List.length_cons, List.length_nil, List.length_take, List.length_drop, bs_length]; omega)) (fun _ _ _ => ?_))
              | (with_reducible intro _))))
        all_goals (conv => whnf)
        all_goals (try dsimp only)
        exact ret_bool rfl
    · rw [ofE1 hE] at hx
      repeat' (first
        | ((with_reducible refine Side.intro ?_) <;> (first | with_reducible rfl | omega | assumption | exact Nat.le_of_ble_eq_true rfl | (simp only [bs_length, List.length_append, List.length_cons, List.length_nil, List.length_take, List.length_drop, List.length_set, List.length_replicate]; omega) | exact .inl (by omega) | exact .inr (.inl ⟨rfl, by (simp only [bs_length, List.length_append, List.length_cons, List.length_nil, List.length_take, List.length_drop, List.length_set, List.length_replicate]; omega)⟩) | exact Ref.ok_refl _ _ | (simp only [List.append_nil, List.nil_append, List.map_nil]; first | exact List.nodup_nil | exact nodup_bid1 _ | exact nodup_bid2 (by assumption)) | ((first | refine fresh_tup ?_ | skip); (repeat (first |  exact FreshA.sl _ _ FreshA_bs | exact FreshA.sl _ _ FreshA_is | exact FreshA.nils | exact FreshA.nilp | exact FreshA.int _ _ | exact FreshA.bool _ | exact FreshA.str _ | exact fresh_nil | refine fresh_cons ?_ ?_)); done) | exact rfl | (simp; done)))
        | ((conv => whnf) <;> (first
            | (with_reducible refine and_same ?_)
            | (with_reducible refine and_side ?_ ?_)
            | (with_reducible refine Br.yes rfl ?_)
            | (with_reducible refine Br.yes (by omega) ?_)
            | (with_reducible refine Br.no (by omega) ?_)
            | (with_reducible refine Br.no (by assumption) ?_)
            | (with_reducible refine Br.yes (by assumption) ?_)
            | (with_reducible refine Br.mk (fun _ => ?_) (fun _ => ?_))
            | (with_reducible refine Both.mk ?_ ?_)
            | ((with_reducible apply blkAt_intro) ; (focus (first | exact rfl | (repeat (first | assumption | exact get_new | exact get_set (by assumption) | exact get_set get_new | apply get_old | (apply get_set_ne; (focus (first | omega | (simp only [newB_length, List.length_set, List.length_append, List.length_singleton]; omega)))))); done)) ; (focus (first | rfl | assumption | omega)) ; (try dsimp only))
            | (with_reducible refine nthR_bs1 (by assumption) ?_)
            | (with_reducible refine nthR_is1 (by assumption) ?_)
            | ((with_reducible apply appendR_lit) ; (focus (first | exact rfl | (repeat (first | assumption | exact get_new | exact get_set (by assumption) | exact get_set get_new | apply get_old | (apply get_set_ne; (focus (first | omega | (simp only [newB_length, List.length_set, List.length_append, List.length_singleton]; omega)))))); done)) ; (focus (first | rfl | assumption)) ; (focus rfl) ; (focus rfl) ; (focus rfl) ; (focus (first | exact Nat.zero_le _ | omega | (simp; done) | (simp; omega))) ; (try dsimp only))
            | (with_reducible refine appendR_nil ?_ ?_)
            | (with_reducible refine lenR_own (by assumption) ?_)
            | (with_reducible refine rowsR_own (by assumption) ?_)
            | (with_reducible refine ia_own (by assumption) ?_ ?_ (fun _ _ _ _ _ => ?_))
            | (with_reducible refine ia_sl ?_ ?_)
            | (with_reducible refine IaW.of ?_)
            | (with_reducible refine SliceW.of ?_)
            | (with_reducible refine EqnW.of ?_)
            | (with_reducible refine CopyW.of ?_)
            | (with_reducible refine out_own (by assumption) (fun _ => ?_) (fun _ _ => ?_))
            | (with_reducible refine OutW.of ?_)
            | (with_reducible refine NOut.own (by assumption) ?_)
            | (with_reducible refine NOut.lit ?_)
            | (with_reducible refine nthR_z ?_)
            | (with_reducible refine nthR_left (by first | omega | (simp only [List.length_append, List.length_cons, List.length_nil, List.length_take, List.length_drop, bs_length]; omega)) ?_)
            | (with_reducible refine lenR_sl ?_)
            | (with_reducible refine lenR_nils ?_)
            | (with_reducible refine lenR_rsl ?_)
            | (with_reducible refine rowsR_sl ?_)
            | (with_reducible refine rowsR_nils ?_)
            | (with_reducible refine rowsR_rsl ?_)
            | (with_reducible refine lenR_slx ?_)
            | (with_reducible refine rowsR_slx ?_)
            | (with_reducible refine appendR_slx ?_ ?_ ?_)
            | (with_reducible refine bytesR_intro (by first | rfl | (simp only [bs_take, bs_drop, bs_append]; rfl)) ?_)
            | (with_reducible refine nthR_bs (by first | omega | (simp only [List.length_append, List.length_cons, List.length_nil, List.length_take, List.length_drop, bs_length]; omega)) (fun _ _ _ => ?_))
            | (with_reducible intro _))))
      all_goals (conv => whnf)
      all_goals (try dsimp only)
      refine Zero_call s (by omega) (.bs _ _ _) fun H2 hg2 => ?_
      repeat' (first
        | ((with_reducible refine Side.intro ?_) <;> (first | with_reducible rfl | omega | assumption | exact Nat.le_of_ble_eq_true rfl | (simp only [bs_length, List.length_append, List.length_cons, List.length_nil, List.length_take, List.length_drop, List.length_set, List.length_replicate]; omega) | exact .inl (by omega) | exact .inr (.inl ⟨rfl, by (simp only [bs_length, List.length_append, List.length_cons, List.length_nil, List.length_take, List.length_drop, List.length_set, List.length_replicate]; omega)⟩) | exact Ref.ok_refl _ _ | (simp only [List.append_nil, List.nil_append, List.map_nil]; first | exact List.nodup_nil | exact nodup_bid1 _ | exact nodup_bid2 (by assumption)) | ((first | refine fresh_tup ?_ | skip); (repeat (first |  exact FreshA.sl _ _ FreshA_bs | exact FreshA.sl _ _ FreshA_is | exact FreshA.nils | exact FreshA.nilp | exact FreshA.int _ _ | exact FreshA.bool _ | exact FreshA.str _ | exact fresh_nil | refine fresh_cons ?_ ?_)); done) | exact rfl | (simp; done)))
        | ((conv => whnf) <;> (first
            | (with_reducible refine and_same ?_)
            | (with_reducible refine and_side ?_ ?_)
            | (with_reducible refine Br.yes rfl ?_)
            | (with_reducible refine Br.yes (by omega) ?_)
            | (with_reducible refine Br.no (by omega) ?_)
            | (with_reducible refine Br.no (by assumption) ?_)
            | (with_reducible refine Br.yes (by assumption) ?_)
            | (with_reducible refine Br.mk (fun _ => ?_) (fun _ => ?_))
            | (with_reducible refine Both.mk ?_ ?_)
            | ((with_reducible apply blkAt_intro) ; (focus (first | exact rfl | (repeat (first | assumption | exact get_new | exact get_set (by assumption) | exact get_set get_new | apply get_old | (apply get_set_ne; (focus (first | omega | (simp only [newB_length, List.length_set, List.length_append, List.length_singleton]; omega)))))); done)) ; (focus (first | rfl | assumption | omega)) ; (try dsimp only))
            | (with_reducible refine nthR_bs1 (by assumption) ?_)
            | (with_reducible refine nthR_is1 (by assumption) ?_)
            | ((with_reducible apply appendR_lit) ; (focus (first | exact rfl | (repeat (first | assumption | exact get_new | exact get_set (by assumption) | exact get_set get_new | apply get_old | (apply get_set_ne; (focus (first | omega | (simp only [newB_length, List.length_set, List.length_append, List.length_singleton]; omega)))))); done)) ; (focus (first | rfl | assumption)) ; (focus rfl) ; (focus rfl) ; (focus rfl) ; (focus (first | exact Nat.zero_le _ | omega | (simp; done) | (simp; omega))) ; (try dsimp only))
            | (with_reducible refine appendR_nil ?_ ?_)
            | (with_reducible refine lenR_own (by assumption) ?_)
            | (with_reducible refine rowsR_own (by assumption) ?_)
            | (with_reducible refine ia_own (by assumption) ?_ ?_ (fun _ _ _ _ _ => ?_))
            | (with_reducible refine ia_sl ?_ ?_)
            | (with_reducible refine IaW.of ?_)
            | (with_reducible refine SliceW.of ?_)
            | (with_reducible refine EqnW.of ?_)
            | (with_reducible refine CopyW.of ?_)
            | (with_reducible refine out_own (by assumption) (fun _ => ?_) (fun _ _ => ?_))
            | (with_reducible refine OutW.of ?_)
            | (with_reducible refine NOut.own (by assumption) ?_)
            | (with_reducible refine NOut.lit ?_)
            | (with_reducible refine nthR_z ?_)
            | (with_reducible refine nthR_left (by first | omega | (simp only [List.length_append, List.length_cons, List.length_nil, List.length_take, List.length_drop, bs_length]; omega)) ?_)
            | (with_reducible refine lenR_sl ?_)
            | (with_reducible refine lenR_nils ?_)
            | (with_reducible refine lenR_rsl ?_)
            | (with_reducible refine rowsR_sl ?_)
            | (with_reducible refine rowsR_nils ?_)
            | (with_reducible refine rowsR_rsl ?_)
            | (with_reducible refine lenR_slx ?_)
            | (with_reducible refine rowsR_slx ?_)
            | (with_reducible refine appendR_slx ?_ ?_ ?_)
            | (with_reducible refine bytesR_intro (by first | rfl | (simp only [bs_take, bs_drop, bs_append]; rfl)) ?_)
            | (with_reducible refine nthR_bs (by first | omega | (simp only [List.length_append, List.length_cons, List.length_nil, List.length_take, List.length_drop, bs_length]; omega)) (fun _ _ _ => ?_))
            | (with_reducible intro _))))
      all_goals (conv => whnf)
      all_goals (try dsimp only)
      exact ret_bool rfl
end Go.Proofs.Ytbknmoeneebaoaa
