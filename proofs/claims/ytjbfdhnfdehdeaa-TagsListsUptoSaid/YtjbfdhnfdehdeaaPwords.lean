import Derived.Test.YtjbfdhnfdehdeaaPlaw01
namespace Go.Proofs.Ytjbfdhnfdehdeaa
open Go Go.Proofs.Ytjbfdhnfdehdeaa.V
set_option maxRecDepth 20000
attribute [local irreducible] CallS AOK AOKn ALoop Side Ref.ok
/-! ### Words, plain -/
def wd (s : List UInt8) (i : Nat) : List UInt8 := (s.drop (i * 8)).take 8
def val : List UInt8 → Nat
  | [] => 0
  | b :: w => b.toNat + 256 * val w
def okW (w : List UInt8) : Bool := decide ((w.getD 7 0).toNat < 64)
def le : Nat → Nat → List UInt8
  | 0, _ => []
  | k + 1, n => UInt8.ofNat n :: le k (n / 256)
theorem le_length : ∀ (k n : Nat), (le k n).length = k
  | 0, _ => rfl
  | k + 1, n => by simp [le, le_length k]
theorem le_get : ∀ (k n j : Nat), j < k → (le k n)[j]? = some (UInt8.ofNat (n / 256 ^ j))
  | 0, n, j, h => by omega
  | k + 1, n, 0, h => by simp [le]
  | k + 1, n, j + 1, h => by
    simp only [le, List.getElem?_cons_succ]
    rw [le_get k (n / 256) j (by omega), Nat.div_div_eq_div_mul, Nat.pow_succ, Nat.mul_comm]
theorem val_lt : ∀ w : List UInt8, val w < 256 ^ w.length
  | [] => by simp [val]
  | b :: w => by
    have h1 := val_lt w
    have h2 := b.toNat_lt
    simp only [val, List.length_cons, Nat.pow_succ]
    omega
theorem val_top : ∀ (w : List UInt8) (m : Nat), w.length = m + 1 → (w.getD m 0).toNat < 64 → val w < 64 * 256 ^ m
  | [b], 0, _, h => by simpa [val] using h
  | b :: c :: w, m + 1, hl, h => by
    have h1 := val_top (c :: w) m (by simpa using hl) (by simpa using h)
    have h2 := b.toNat_lt
    simp only [val, Nat.pow_succ] at h1 ⊢
    omega
theorem val_le : ∀ (k n : Nat), val (le k n) = n % 256 ^ k
  | 0, n => by simp [le, val, Nat.mod_one]
  | k + 1, n => by
    simp only [le, val, val_le k]
    rw [UInt8.toNat_ofNat', show 256 ^ (k + 1) = 256 * 256 ^ k from by rw [Nat.pow_succ, Nat.mul_comm], Nat.mod_mul]
theorem le_val : ∀ (w : List UInt8), le w.length (val w) = w
  | [] => rfl
  | b :: w => by
    have h := b.toNat_lt
    simp only [val, le, List.length_cons, List.cons.injEq]
    refine ⟨?_, ?_⟩
    · apply UInt8.toNat_inj.1
      rw [UInt8.toNat_ofNat']
      omega
    · rw [show (b.toNat + 256 * val w) / 256 = val w from by omega]
      exact le_val w
theorem byte_at (n i : Nat) (hi : i < 8) : ((n : Int).fdiv (2 ^ min (8 * (i : Int)).toNat IntKind.i64.bits) % 256) = ((UInt8.ofNat (n / 256 ^ i)).toNat : Int) := by
  have e1 : min (8 * (i : Int)).toNat IntKind.i64.bits = 8 * i := by
    show min (8 * (i : Int)).toNat 64 = 8 * i
    omega
  have e2 : (2 : Int) ^ (8 * i) = ((256 ^ i : Nat) : Int) := by
    rw [Int.pow_mul]; norm_cast
  rw [e1, e2, fdiv_nat, UInt8.toNat_ofNat']
  norm_cast
theorem set_mid {α : Type} (A B : List α) (k : Nat) (b c : α) (h : k = A.length) : (A ++ c :: B).set k b = A ++ b :: B := by
  subst h
  simp
theorem wr_step (s l : List UInt8) (off i : Nat) (b : UInt8) (hb : l[i]? = some b) (ho : off + i < s.length) : (s.take off ++ l.take i ++ s.drop (off + i)).set (off + i) b = s.take off ++ l.take (i + 1) ++ s.drop (off + (i + 1)) := by
  have hil := (List.getElem?_eq_some_iff.1 hb).1
  rw [List.drop_eq_getElem_cons ho, set_mid _ _ _ _ _ (by simp; omega), List.take_add_one, hb]
  simp [Nat.add_assoc]
theorem wd_length {s : List UInt8} {i : Nat} (h : i < s.length / 8) : (wd s i).length = 8 := by
  simp only [wd, List.length_take, List.length_drop]; omega
theorem val_drop {w : List UInt8} {j : Nat} {b : UInt8} (h : w[j]? = some b) : val (w.drop j) = b.toNat + 256 * val (w.drop (j + 1)) := by
  have hlt := (List.getElem?_eq_some_iff.1 h).1
  have e := (List.getElem?_eq_some_iff.1 h).2
  rw [List.drop_eq_getElem_cons hlt, e]
  rfl
def inR (s : List UInt8) (at' : Int) : Bool := decide (0 ≤ at' ∧ at' < (s.length : Int) / 8)
def getOk (s : List UInt8) (at' : Int) : Bool := inR s at' && okW (wd s at'.toNat)
def getV (s : List UInt8) (at' : Int) : Nat := if getOk s at' then val (wd s at'.toNat) else 0
def mayW (n : Int) : Bool := decide (0 ≤ n ∧ n ≤ 4611686018427387903)
def putE (s : List UInt8) (at' n : Int) : Int := if inR s at' then (if mayW n then 0 else 4) else 1
def put1 (s : List UInt8) (i n : Nat) : List UInt8 := s.take (i * 8) ++ le 8 n ++ s.drop (i * 8 + 8)
def putR (s : List UInt8) (at' n : Int) : List UInt8 := if putE s at' n = 0 then put1 s at'.toNat n.toNat else []
def cat (l : List Int) : List UInt8 := (l.map fun n => le 8 n.toNat).flatten
def ofE (l : List Int) : Int := if l.all mayW then 0 else 4
def ofR (l : List Int) : List UInt8 := if l.all mayW then cat l else []
def vals (s : List UInt8) (k : Nat) : List Int := (List.range k).map fun i => (val (wd s i) : Int)
def allOk (s : List UInt8) : Bool := decide (s.length % 8 = 0) && (List.range (s.length / 8)).all fun i => okW (wd s i)
def allR (s : List UInt8) : List Int := if allOk s then vals s (s.length / 8) else []
theorem put1_length (s : List UInt8) (i n : Nat) (h : i * 8 + 8 ≤ s.length) : (put1 s i n).length = s.length := by
  simp [put1, le_length]; omega
theorem cat_append (l m : List Int) : cat (l ++ m) = cat l ++ cat m := by simp [cat]
theorem cat_one (n : Int) : cat [n] = le 8 n.toNat := by simp [cat]
theorem cat_length : ∀ l : List Int, (cat l).length = l.length * 8
  | [] => rfl
  | n :: l => by
    have : cat (n :: l) = le 8 n.toNat ++ cat l := rfl
    rw [this, List.length_append, le_length, cat_length l, List.length_cons]; omega
/-- What stands after k of the words. -/
def ofK (l : List Int) (k : Nat) : List UInt8 := cat (l.take k) ++ List.replicate ((l.length - k) * 8) 0
theorem ofK_length (l : List Int) (k : Nat) (h : k ≤ l.length) : (ofK l k).length = l.length * 8 := by
  simp [ofK, cat_length]; omega
theorem ofK_succ (l : List Int) (k : Nat) (n : Int) (h : l[k]? = some n) : put1 (ofK l k) k n.toNat = ofK l (k + 1) := by
  have hk := (List.getElem?_eq_some_iff.1 h).1
  have e0 : (cat (l.take k)).length = k * 8 := by rw [cat_length, List.length_take]; omega
  unfold put1 ofK
  rw [List.take_append_of_le_length (by omega), List.take_of_length_le (by omega), List.drop_append, List.drop_of_length_le (by omega), List.take_add_one, h]
  simp only [Option.toList_some, cat_append, cat_one, List.nil_append, List.drop_replicate, e0]
  congr 2
  omega
/-! ### The functions -/
theorem may_val (σ : AH) (n : Int) (Q : AV → AH → Prop) (h1 : mayW n = true → Q (.bool true) σ) (h2 : mayW n = false → Q (.bool false) σ) : CallS Try.prog F.words_may [.int .i64 n] σ Q := by
  refine call_of_body mixed fc_words_may_ok (by simp [fc_words_may]) ?_
  repeat' (first
    | ((conv => whnf) <;> (first
    | (with_reducible refine and_same ?_)
    | (with_reducible refine Br.mk (fun _ => ?_) (fun _ => ?_))
    ))
    )
  all_goals (conv => whnf)
  all_goals (try dsimp only)
  all_goals first
    | exact h1 (by simp only [mayW, decide_eq_true_eq]; omega)
    | exact h2 (by simp only [mayW, decide_eq_false_iff_not]; omega)
theorem place_val (σ : AH) (s : List UInt8) (fr : Bool) (at' : Int) (hs : s.length ≤ 4611686018427) (Q : AV → AH → Prop) (h1 : (at' < 0 ∨ (s.length : Int) / 8 ≤ at') → Q .nils σ) (h2 : 0 ≤ at' → at' < (s.length : Int) / 8 → Q (.sl 1 (bs (wd s at'.toNat)) fr) σ) :
    CallS Try.prog F.words_place [.sl 1 (bs s) fr, .int .i64 at'] σ Q := by
  have hn := bs_length s
  refine call_of_body mixed fc_words_place_ok (by simp [fc_words_place]) ?_
  repeat' (first
    | ((with_reducible refine Side.intro ?_) <;> (first
    | omega
    ))
    | ((conv => whnf) <;> (first
    | (with_reducible refine and_same ?_)
    | (with_reducible refine and_side ?_ ?_)
    | ((with_reducible apply Br.yes) ; (focus omega))
    | (with_reducible refine Br.mk (fun _ => ?_) (fun _ => ?_))
    | (with_reducible refine SliceW.of ?_)
    | (with_reducible refine lenR_sl ?_)
    ))
    )
  all_goals (conv => whnf)
  all_goals (try dsimp only)
  · exact h1 (by omega)
  · exact h1 (by omega)
  · have := h2 (by omega) (by omega)
    have e1 : (at' * 8 + 8).toNat = at'.toNat * 8 + 8 := by omega
    have e2 : (at' * 8).toNat = at'.toNat * 8 := by omega
    rw [bs_take, bs_drop, e1, e2, List.drop_take, show at'.toNat * 8 + 8 - at'.toNat * 8 = 8 from by omega]
    exact this
theorem place_own (σ : AH) (id gen n : Nat) (b : Blk) (at' : Int) (h0 : 0 ≤ at') (h1 : at' < (n : Int) / 8) (hn : n ≤ 4611686018427) (hb : σ[id]? = some b) (hg : b.gen = gen) (hs : b.sz = 1) (Q : AV → AH → Prop) (h : Q (.rsl id gen (at'.toNat * 8) 8 none) σ) :
    CallS Try.prog F.words_place [.rsl id gen 0 n none, .int .i64 at'] σ Q := by
  refine call_of_body mixed fc_words_place_ok (by simp [fc_words_place]) ?_
  repeat' (first
    | ((with_reducible refine Side.intro ?_) <;> (first
    | omega
    ))
    | ((conv => whnf) <;> (first
    | (with_reducible refine and_same ?_)
    | (with_reducible refine and_side ?_ ?_)
    | ((with_reducible apply Br.yes) ; (focus omega))
    | ((with_reducible apply Br.no) ; (focus omega))
    | ((with_reducible apply blkAt_intro) ; (focus (first
    | ((repeat (first
    | assumption
    )); done)
    )) ; (focus (first | rfl | assumption | omega)) ; (try dsimp only))
    | (with_reducible refine SliceW.of ?_)
    | (with_reducible refine lenR_rsl ?_)
    ))
    )
  all_goals (conv => whnf)
  all_goals (try dsimp only)
  have e1 : (at' * 8 + 8).toNat - (at' * 8).toNat = 8 := by omega
  have e2 : 0 + (at' * 8).toNat = at'.toNat * 8 := by omega
  rw [e1, e2]
  exact h
theorem read_ok (w : List UInt8) (hw : w.length = 8) : AOKn Try.prog F.words_read [.sl 1 (bs w) false] fun y => y = .tup [.int .i64 (if okW w then val w else 0 : Nat), .bool (okW w)] := by
  have hn := bs_length w
  obtain ⟨b7, h7⟩ : ∃ b, w[Int.toNat 7]? = some b := ⟨w[7], by simp [hw]⟩
  have h7l := b7.toNat_lt
  have hk : okW w = decide (b7.toNat < 64) := by
    unfold okW
    rw [List.getD_eq_getElem?_getD]
    have : w[7]? = some b7 := h7
    rw [this]; rfl
  refine AOKn.by_steps mixed fc_words_read_ok (by simp [fc_words_read]) ?_
  repeat' (first
    | ((with_reducible refine Side.intro ?_) <;> (first
    | omega
    | (simp only [List.append_nil, List.nil_append, List.map_nil]; first | exact List.nodup_nil | exact nodup_bid1 _ | exact nodup_bid2 (by assumption))
    | ((first | refine fresh_tup ?_ | skip); (repeat (first |  exact FreshA.sl _ _ FreshA_bs | exact FreshA.sl _ _ FreshA_is | exact FreshA.nils | exact FreshA.nilp | exact FreshA.int _ _ | exact FreshA.bool _ | exact FreshA.str _ | exact fresh_nil | refine fresh_cons ?_ ?_ | with_reducible refine fresh_aggR ?_ | with_reducible refine fresh_agg ?_ | with_reducible exact fresh_nilA | with_reducible refine fresh_consA ?_ ?_)); done)
    ))
    | ((conv => whnf) <;> (first
    | (with_reducible refine and_same ?_)
    | (with_reducible refine and_side ?_ ?_)
    | (with_reducible refine Br.mk (fun _ => ?_) (fun _ => ?_))
    | ((with_reducible apply nthR_bs1) ; (focus assumption))
    | (with_reducible refine ia_sl ?_ ?_)
    | (with_reducible refine NOut.lit ?_)
    ))
    )
  all_goals (conv => whnf)
  all_goals (try dsimp only)
  · refine ret_same ?_
    rw [hk, decide_eq_false (by omega)]; rfl
  refine loop_at (α := Nat) (fun a => [(2, .int .i64 (val (w.drop (8 - a)))), (9, .int .i64 a)]) (fun a => []) (fun a => a ≤ 8) (fun a => 8 - a) 0 (by omega) (by simp [Fr.upd, Fr.pick, List.drop_of_length_le, hw, val]) rfl ?_
  intro i hi
  repeat' (first
    | ((with_reducible refine Side.intro ?_) <;> (first
    | omega
    | (simp only [List.append_nil, List.nil_append, List.map_nil]; first | exact List.nodup_nil | exact nodup_bid1 _ | exact nodup_bid2 (by assumption))
    | ((first | refine fresh_tup ?_ | skip); (repeat (first |  exact FreshA.sl _ _ FreshA_bs | exact FreshA.sl _ _ FreshA_is | exact FreshA.nils | exact FreshA.nilp | exact FreshA.int _ _ | exact FreshA.bool _ | exact FreshA.str _ | exact fresh_nil | refine fresh_cons ?_ ?_ | with_reducible refine fresh_aggR ?_ | with_reducible refine fresh_agg ?_ | with_reducible exact fresh_nilA | with_reducible refine fresh_consA ?_ ?_)); done)
    ))
    | ((conv => whnf) <;> (first
    | (with_reducible refine and_same ?_)
    | (with_reducible refine and_side ?_ ?_)
    | ((with_reducible apply Br.yes) ; (focus omega))
    | (with_reducible refine Br.mk (fun _ => ?_) (fun _ => ?_))
    | (with_reducible refine ia_sl ?_ ?_)
    | (with_reducible refine NOut.lit ?_)
    | ((with_reducible apply nthR_bs) ; (focus (first | omega | (simp only [List.length_append, List.length_cons, List.length_nil, List.length_take, List.length_drop, bs_length]; omega))))
    | (with_reducible intro _)
    ))
    )
  all_goals (conv => whnf)
  all_goals (try dsimp only)
  · rename_i b hb hbl
    have hb1 : w[7 - i]? = some b := by rw [show 7 - i = (7 - (i : Int)).toNat from by omega]; exact hb
    have e1 := val_drop hb1
    have e2 := val_top (w.drop (7 - i)) i (by rw [List.length_drop, hw]; omega) (by
      rw [List.getD_eq_getElem?_getD, List.getElem?_drop, show 7 - i + i = Int.toNat 7 from by omega, h7]
      show b7.toNat < 64
      omega)
    have e3 : 64 * 256 ^ i ≤ 64 * 256 ^ 7 := Nat.mul_le_mul_left _ (Nat.pow_le_pow_right (by omega) (by omega))
    have e4 : 64 * 256 ^ 7 = 4611686018427387904 := by decide
    rw [show 7 - i + 1 = 8 - i from by omega] at e1
    refine ⟨i + 1, ?_, rfl, by omega, by omega⟩
    rw [shl_or (c := b.toNat) (n := val (w.drop (8 - i))) rfl rfl hbl (by omega)]
    rw [show 8 - (i + 1) = 7 - i from by omega, e1, Nat.add_comm, Nat.mul_comm]
    rfl
  · refine ret_same ?_
    rw [hk, decide_eq_true (by omega), show 8 - i = 0 from by omega]; rfl
theorem write_own (σ : AH) (id gen off : Nat) (s : List UInt8) (sp : List (List AV)) (pu fu : Bool) (n : Nat) (hn : n < 4611686018427387904) (ho : off + 8 ≤ s.length) (hs : s.length ≤ 4611686018427) (hb : σ[id]? = some { sz := 1, els := bs s ++ sp, gen := gen, wr := true, pure := pu, full := fu }) (Q : AV → AH → Prop)
    (h : Q (.tup []) (σ.set id { sz := 1, els := bs (s.take off ++ le 8 n ++ s.drop (off + 8)) ++ sp, gen := gen, wr := true, pure := pu, full := fu })) :
    CallS Try.prog F.words_write [.rsl id gen off 8 none, .int .i64 n] σ Q := by
  refine call_of_body mixed fc_words_write_ok (by simp [fc_words_write]) ?_
  skip
  all_goals (conv => whnf)
  all_goals (try dsimp only)
  refine loop_at (α := Nat) (fun a => [(5, .int .i64 a)]) (fun a => σ.set id { sz := 1, els := bs (s.take off ++ (le 8 n).take a ++ s.drop (off + a)) ++ sp, gen := gen, wr := true, pure := pu, full := fu }) (fun a => a ≤ 8) (fun a => 8 - a) 0 (by omega) rfl (by (try dsimp only); rw [List.take_zero, List.append_nil, Nat.add_zero, List.take_append_drop]; exact set_same hb) ?_
  intro i hi
  have hl : (bs (s.take off ++ (le 8 n).take i ++ s.drop (off + i))).length = s.length := by
    simp [bs_length, le_length]; omega
  have hb2 : (σ.set id { sz := 1, els := bs (s.take off ++ (le 8 n).take i ++ s.drop (off + i)) ++ sp, gen := gen, wr := true, pure := pu, full := fu })[id]? = some { sz := 1, els := bs (s.take off ++ (le 8 n).take i ++ s.drop (off + i)) ++ sp, gen := gen, wr := true, pure := pu, full := fu } := get_set hb
  repeat' (first
    | ((with_reducible refine Side.intro ?_) <;> (first
    | omega
    | exact rfl
    ))
    | ((conv => whnf) <;> (first
    | (with_reducible refine and_same ?_)
    | (with_reducible refine and_side ?_ ?_)
    | ((with_reducible apply Br.yes) ; (focus omega))
    | (with_reducible refine Br.mk (fun _ => ?_) (fun _ => ?_))
    | ((with_reducible apply blkAt_intro) ; (focus (first
    | ((repeat (first
    | assumption
    )); done)
    )) ; (focus (first | rfl | assumption | omega)) ; (try dsimp only))
    | (with_reducible refine IaW.of ?_)
    | ((with_reducible apply nthR_left) ; (focus (first | omega | (simp only [List.length_append, List.length_cons, List.length_nil, List.length_take, List.length_drop, bs_length]; omega))))
    ))
    )
  all_goals (conv => whnf)
  all_goals (try dsimp only)
  · refine nthR_bs (by rw [bs_length] at hl; omega) (fun b hb _ => ?_)
    repeat' (first
      | ((with_reducible refine Side.intro ?_) <;> (first
      | exact Nat.le_of_ble_eq_true rfl
      ))
      | ((conv => whnf) <;> (first
      | (with_reducible refine and_same ?_)
      | (with_reducible refine and_side ?_ ?_)
      | ((with_reducible apply Br.yes) ; (focus omega))
      ))
      )
    all_goals (conv => whnf)
    all_goals (try dsimp only)
    have hil : (le 8 n)[i]? = some (UInt8.ofNat (n / 256 ^ i)) := le_get 8 n i (by omega)
    refine ⟨i + 1, rfl, ?_, by omega, by omega⟩
    rw [byte_at n i (by omega), List.set_set, Int.toNat_natCast, List.set_append_left _ _ (by rw [hl]; omega), bs_set, wr_step s _ off i _ hil (by omega)]
    cases pu <;> rfl
  · have e8 : i = 8 := by omega
    subst e8
    rw [List.take_of_length_le (l := le 8 n) (by rw [le_length]; exact Nat.le_refl _)]
    exact h
theorem words_Get_ok (s : List UInt8) (at' : Int) (hs : s.length ≤ 4611686018427) : AOKn Try.prog F.words_Get [.sl 1 (bs s) false, .int .i64 at'] fun y => y = .tup [.int .i64 (getV s at'), .bool (getOk s at')] := by
  have hn := bs_length s
  refine AOKn.by_steps mixed fc_words_Get_ok (by simp [fc_words_Get]) ?_
  skip
  all_goals (conv => whnf)
  all_goals (try dsimp only)
  refine place_val _ s false at' hs _ (fun h => ?_) (fun h0 h1 => ?_)
  · have hi : getOk s at' = false := by
      have : inR s at' = false := by simp only [inR, decide_eq_false_iff_not]; omega
      simp [getOk, this]
    repeat' (first
      | ((with_reducible refine Side.intro ?_) <;> (first
      | (simp only [List.append_nil, List.nil_append, List.map_nil]; first | exact List.nodup_nil | exact nodup_bid1 _ | exact nodup_bid2 (by assumption))
      | ((first | refine fresh_tup ?_ | skip); (repeat (first |  exact FreshA.sl _ _ FreshA_bs | exact FreshA.sl _ _ FreshA_is | exact FreshA.nils | exact FreshA.nilp | exact FreshA.int _ _ | exact FreshA.bool _ | exact FreshA.str _ | exact fresh_nil | refine fresh_cons ?_ ?_ | with_reducible refine fresh_aggR ?_ | with_reducible refine fresh_agg ?_ | with_reducible exact fresh_nilA | with_reducible refine fresh_consA ?_ ?_)); done)
      ))
      | ((conv => whnf) <;> (first
      | (with_reducible refine and_side ?_ ?_)
      | (with_reducible refine EqnW.of ?_)
      | (with_reducible refine NOut.lit ?_)
      ))
      )
    all_goals (conv => whnf)
    all_goals (try dsimp only)
    refine ret_same ?_
    simp [getV, hi]
  · have hi : inR s at' = true := by simp only [inR, decide_eq_true_eq]; omega
    have hl := wd_length (s := s) (i := at'.toNat) (by omega)
    have hl2 := bs_length (wd s at'.toNat)
    have hne : ¬ bs (wd s at'.toNat) = [] := fun h => by rw [h] at hl2; simp at hl2; omega
    repeat' (first
      | ((conv => whnf) <;> (first
      | ((with_reducible apply Br.no) ; (focus omega))
      | (with_reducible refine EqnW.of ?_)
      ))
      )
    all_goals (conv => whnf)
    all_goals (try dsimp only)
    refine (read_ok _ hl).call (.cons (.bs _ _ _) .nil) ?_
    rintro _ x σ1 rfl hg hG
    obtain ⟨x1, x2, rfl, h1, h2, -⟩ := hG.two
    rw [h1.same_inv rfl, h2.same_inv rfl]
    repeat' (first
      | ((with_reducible refine Side.intro ?_) <;> (first
      | (simp only [List.append_nil, List.nil_append, List.map_nil]; first | exact List.nodup_nil | exact nodup_bid1 _ | exact nodup_bid2 (by assumption))
      | ((first | refine fresh_tup ?_ | skip); (repeat (first |  exact FreshA.sl _ _ FreshA_bs | exact FreshA.sl _ _ FreshA_is | exact FreshA.nils | exact FreshA.nilp | exact FreshA.int _ _ | exact FreshA.bool _ | exact FreshA.str _ | exact fresh_nil | refine fresh_cons ?_ ?_ | with_reducible refine fresh_aggR ?_ | with_reducible refine fresh_agg ?_ | with_reducible exact fresh_nilA | with_reducible refine fresh_consA ?_ ?_)); done)
      ))
      | ((conv => whnf) <;> (first
      | (with_reducible refine and_side ?_ ?_)
      | (with_reducible refine NOut.lit ?_)
      ))
      )
    all_goals (conv => whnf)
    all_goals (try dsimp only)
    refine ret_same ?_
    simp [getV, getOk, hi]
theorem words_Of_ok (l : List Int) (hs : l.length ≤ 461168601842) : AOKn Try.prog F.words_Of [.sl 1 (is l) false] fun y => y = .tup [.sl 1 (bs (ofR l)) true, .int .i64 (ofE l)] := by
  have hn : (is l).length = l.length := by simp [is]
  refine AOKn.by_steps mixed fc_words_Of_ok (by simp [fc_words_Of]) ?_
  repeat' (first
    | ((with_reducible refine Side.intro ?_) <;> (first
    | omega
    ))
    | ((conv => whnf) <;> (first
    | (with_reducible refine and_same ?_)
    | (with_reducible refine and_side ?_ ?_)
    | ((with_reducible apply Br.yes) ; (focus omega))
    | (with_reducible refine lenR_sl ?_)
    ))
    )
  all_goals (conv => whnf)
  all_goals (try dsimp only)
  have el : (((is l).length : Int) * 8).toNat = l.length * 8 := by omega
  refine loop_at (α := Nat) (fun a => [(4, .rsl 0 0 0 (l.length * 8) none), (13, .int .i64 a)]) (fun a => newB [] 1 (bs (ofK l a)) true) (fun a => a ≤ l.length ∧ (l.take a).all mayW = true) (fun a => l.length - a) 0 ⟨by omega, by simp⟩ (by rw [el]; rfl) (by rw [el]; simp [ofK, cat, bs_replicate]; rfl) ?_
  rintro k ⟨hk, hall⟩
  have hkl := ofK_length l k hk
  have hkb := bs_length (ofK l k)
  by_cases hlt : k < l.length
  · obtain ⟨p, hp, hp'⟩ := getN hlt
    repeat' (first
      | ((with_reducible refine Side.intro ?_) <;> (first
      | omega
      ))
      | ((conv => whnf) <;> (first
      | (with_reducible refine and_same ?_)
      | ((with_reducible apply Br.yes) ; (focus omega))
      | ((with_reducible apply nthR_is1) ; (focus assumption))
      | (with_reducible refine ia_sl ?_ ?_)
      ))
      )
    all_goals (conv => whnf)
    all_goals (try dsimp only)
    refine may_val _ p _ (fun hm => ?_) (fun hm => ?_)
    · have hm' : 0 ≤ p ∧ p ≤ 4611686018427387903 := by simpa [mayW] using hm
      skip
      all_goals (conv => whnf)
      all_goals (try dsimp only)
      refine place_own _ 0 0 (l.length * 8) _ k (by omega) (by omega) (by omega) rfl rfl rfl _ ?_
      skip
      all_goals (conv => whnf)
      all_goals (try dsimp only)
      have hnn : p = (p.toNat : Int) := by omega
      rw [hnn]
      refine write_own _ 0 0 ((k : Int).toNat * 8) (ofK l k) [] _ _ p.toNat (by omega) (by omega) (by omega) (by simp [newB]; exact ⟨rfl, rfl⟩) _ ?_
      repeat' (first
        | ((conv => whnf) <;> (first
        | (with_reducible refine and_same ?_)
        | ((with_reducible apply Br.yes) ; (focus omega))
        ))
        )
      all_goals (conv => whnf)
      all_goals (try dsimp only)
      refine ⟨k + 1, rfl, ?_, ⟨by omega, ?_⟩, by omega⟩
      · have hs := ofK_succ l k p hp'
        unfold put1 at hs
        rw [Int.toNat_natCast, List.append_nil, hs]
        rfl
      · rw [List.take_add_one, hp', List.all_append, hall]
        simp [hm]
    · have e1 : l.all mayW = false := by
        rw [List.all_eq_false]
        exact ⟨p, List.mem_of_getElem? hp', by simp [hm]⟩
      repeat' (first
        | ((with_reducible refine Side.intro ?_) <;> (first
        | (simp only [List.append_nil, List.nil_append, List.map_nil]; first | exact List.nodup_nil | exact nodup_bid1 _ | exact nodup_bid2 (by assumption))
        | ((first | refine fresh_tup ?_ | skip); (repeat (first |  exact FreshA.sl _ _ FreshA_bs | exact FreshA.sl _ _ FreshA_is | exact FreshA.nils | exact FreshA.nilp | exact FreshA.int _ _ | exact FreshA.bool _ | exact FreshA.str _ | exact fresh_nil | refine fresh_cons ?_ ?_ | with_reducible refine fresh_aggR ?_ | with_reducible refine fresh_agg ?_ | with_reducible exact fresh_nilA | with_reducible refine fresh_consA ?_ ?_)); done)
        ))
        | ((conv => whnf) <;> (first
        | (with_reducible refine and_side ?_ ?_)
        | (with_reducible refine NOut.lit ?_)
        ))
        )
      all_goals (conv => whnf)
      all_goals (try dsimp only)
      rw [ofR, ofE, e1]
      exact ret_nilt rfl
  · have hkn : k = l.length := by omega
    subst hkn
    rw [List.take_length] at hall
    have e2 : List.take (l.length * 8) (bs (ofK l l.length)) = bs (cat l) := by
      rw [List.take_of_length_le (by omega)]
      simp [ofK]
    repeat' (first
      | ((with_reducible refine Side.intro ?_) <;> (first
      | omega
      | (simp; done)
      ))
      | ((conv => whnf) <;> (first
      | (with_reducible refine and_same ?_)
      | (with_reducible refine and_side ?_ ?_)
      | ((with_reducible apply Br.no) ; (focus omega))
      | ((with_reducible apply blkAt_intro) ; (focus (first
      | exact rfl
      )) ; (focus (first | rfl | assumption | omega)) ; (try dsimp only))
      | (with_reducible refine NOut.lit ?_)
      ))
      )
    all_goals (conv => whnf)
    all_goals (try dsimp only)
    · refine ret_same ?_
      rw [ofR, ofE, hall, e2]; rfl
    · rw [e2]
      exact Side.intro (fresh_cons (fresh_bs _) (fresh_cons (.int _ _) fresh_nil))
theorem words_Zero_ok (s : List UInt8) (hs : s.length ≤ 4611686018427) : AOKn Try.prog F.words_Zero [.sl 1 (bs s) false] fun y => y = .bool (s.all (· == 0)) := by
  have hn := bs_length s
  refine AOKn.by_steps mixed fc_words_Zero_ok (by simp [fc_words_Zero]) ?_
  repeat' (first
    | ((conv => whnf) <;> (first
    | (with_reducible refine lenR_sl ?_)
    ))
    )
  all_goals (conv => whnf)
  all_goals (try dsimp only)
  refine loop_at (α := Nat) (fun a => [(7, .int .i64 a)]) (fun a => []) (fun a => a ≤ s.length ∧ (s.take a).all (· == 0) = true) (fun a => s.length - a) 0 ⟨by omega, by simp⟩ rfl rfl ?_
  rintro k ⟨hk, hall⟩
  by_cases hlt : k < s.length
  · obtain ⟨p, hp, hp'⟩ := getN hlt
    by_cases h0 : (p.toNat : Int) = 0
    · repeat' (first
        | ((with_reducible refine Side.intro ?_) <;> (first
        | omega
        ))
        | ((conv => whnf) <;> (first
        | (with_reducible refine and_same ?_)
        | ((with_reducible apply Br.yes) ; (focus omega))
        | ((with_reducible apply Br.no) ; (focus omega))
        | ((with_reducible apply nthR_bs1) ; (focus assumption))
        | (with_reducible refine ia_sl ?_ ?_)
        ))
        )
      all_goals (conv => whnf)
      all_goals (try dsimp only)
      refine ⟨k + 1, rfl, rfl, ⟨by omega, ?_⟩, by omega⟩
      rw [List.take_add_one, hp', List.all_append, hall]
      have : p = 0 := UInt8.toNat_inj.1 (by show p.toNat = 0; omega)
      rw [this]; rfl
    · have e1 : s.all (· == 0) = false := by
        rw [List.all_eq_false]
        refine ⟨p, List.mem_of_getElem? hp', ?_⟩
        intro e
        rw [beq_iff_eq] at e
        rw [e] at h0
        exact h0 rfl
      rw [e1]
      repeat' (first
        | ((with_reducible refine Side.intro ?_) <;> (first
        | omega
        | (simp only [List.append_nil, List.nil_append, List.map_nil]; first | exact List.nodup_nil | exact nodup_bid1 _ | exact nodup_bid2 (by assumption))
        | ((first | refine fresh_tup ?_ | skip); (repeat (first |  exact FreshA.sl _ _ FreshA_bs | exact FreshA.sl _ _ FreshA_is | exact FreshA.nils | exact FreshA.nilp | exact FreshA.int _ _ | exact FreshA.bool _ | exact FreshA.str _ | exact fresh_nil | refine fresh_cons ?_ ?_ | with_reducible refine fresh_aggR ?_ | with_reducible refine fresh_agg ?_ | with_reducible exact fresh_nilA | with_reducible refine fresh_consA ?_ ?_)); done)
        ))
        | ((conv => whnf) <;> (first
        | (with_reducible refine and_same ?_)
        | (with_reducible refine and_side ?_ ?_)
        | ((with_reducible apply Br.yes) ; (focus omega))
        | ((with_reducible apply nthR_bs1) ; (focus assumption))
        | (with_reducible refine ia_sl ?_ ?_)
        | (with_reducible refine NOut.lit ?_)
        ))
        )
      all_goals (conv => whnf)
      all_goals (try dsimp only)
      exact ret_same rfl
  · have hkn : k = s.length := by omega
    subst hkn
    rw [List.take_length] at hall
    rw [hall]
    repeat' (first
      | ((with_reducible refine Side.intro ?_) <;> (first
      | (simp only [List.append_nil, List.nil_append, List.map_nil]; first | exact List.nodup_nil | exact nodup_bid1 _ | exact nodup_bid2 (by assumption))
      | ((first | refine fresh_tup ?_ | skip); (repeat (first |  exact FreshA.sl _ _ FreshA_bs | exact FreshA.sl _ _ FreshA_is | exact FreshA.nils | exact FreshA.nilp | exact FreshA.int _ _ | exact FreshA.bool _ | exact FreshA.str _ | exact fresh_nil | refine fresh_cons ?_ ?_ | with_reducible refine fresh_aggR ?_ | with_reducible refine fresh_agg ?_ | with_reducible exact fresh_nilA | with_reducible refine fresh_consA ?_ ?_)); done)
      ))
      | ((conv => whnf) <;> (first
      | (with_reducible refine and_same ?_)
      | (with_reducible refine and_side ?_ ?_)
      | ((with_reducible apply Br.no) ; (focus omega))
      | (with_reducible refine NOut.lit ?_)
      ))
      )
    all_goals (conv => whnf)
    all_goals (try dsimp only)
    exact ret_same rfl
end Go.Proofs.Ytjbfdhnfdehdeaa
