import Derived.Test.YtjjmcpnbaahkgaaPcrc
namespace Go.Proofs.Ytjjmcpnbaahkgaa
open Go Go.Proofs.Ytjjmcpnbaahkgaa.V
set_option maxRecDepth 20000
attribute [local irreducible] CallS AOK AOKn ALoop Side Ref.ok
def sealB (s : List UInt8) : List UInt8 := s ++ le 8 (sum s)
def front (s : List UInt8) : List UInt8 := s.take (s.length - 8)
def openOk (s : List UInt8) : Bool := decide (8 ≤ s.length ∧ sealB (front s) = s)
theorem openOk_eq (s : List UInt8) (h8 : 8 ≤ s.length) : openOk s = decide (s.drop (s.length - 8) = le 8 (sum (front s))) := by
  unfold openOk sealB
  apply decide_eq_decide.2
  have e : s = front s ++ s.drop (s.length - 8) := (List.take_append_drop _ _).symm
  constructor
  · rintro ⟨_, h⟩
    have := h.trans e
    exact (List.append_cancel_left this).symm
  · intro h
    exact ⟨h8, by rw [← h]; exact e.symm⟩
def openR (s : List UInt8) : List UInt8 := if openOk s then front s else []
theorem sealB_length (s : List UInt8) : (sealB s).length = s.length + 8 := by simp [sealB, le_length]
theorem ofR1 (n : Nat) (h : n < 4294967296) : ofR [(n : Int)] = le 8 n := by
  have : mayW (n : Int) = true := by simp only [mayW, decide_eq_true_eq]; omega
  simp [ofR, this, cat]
theorem ofE1' (n : Nat) (h : n < 4294967296) : ofE [(n : Int)] = 0 := by
  have : mayW (n : Int) = true := by simp only [mayW, decide_eq_true_eq]; omega
  simp [ofE, this]
theorem untagLL_is (s : List Int) : untagLL (is s) = is s := by
  induction s with
  | nil => rfl
  | cons b s ih => rw [show is (b :: s) = [.int .i64 b] :: is s from rfl, untagLL, ih]; rfl
theorem Looks.ownis {σ : AH} {x : AV} {s : List Int} (h : Own σ 1 x (is s)) : Looks σ x (.sl 1 (is s) false) := by
  have := Looks.own h
  rwa [untagLL_is] at this
theorem bytes_Equal_ok (s t : List UInt8) : AOKn Try.prog F.bytes_Equal [.sl 1 (bs s) false, .sl 1 (bs t) false] fun y => y = .bool (decide (s = t)) := by
  refine AOKn.by_steps mixed fc_bytes_Equal_ok (by simp [fc_bytes_Equal]) ?_
  repeat' (first
    | ((with_reducible refine Side.intro ?_) <;> (first
    | (simp only [List.append_nil, List.nil_append, List.map_nil]; first | exact List.nodup_nil | exact nodup_bid1 _ | exact nodup_bid2 (by assumption))
    | ((first | refine fresh_tup ?_ | skip); (repeat (first |  exact FreshA.sl _ _ FreshA_bs | exact FreshA.sl _ _ FreshA_is | exact FreshA.nils | exact FreshA.nilp | exact FreshA.int _ _ | exact FreshA.bool _ | exact FreshA.str _ | exact fresh_nil | refine fresh_cons ?_ ?_ | with_reducible refine fresh_aggR ?_ | with_reducible refine fresh_agg ?_ | with_reducible exact fresh_nilA | with_reducible refine fresh_consA ?_ ?_)); done)
    ))
    | ((conv => whnf) <;> (first
    | (with_reducible refine and_side ?_ ?_)
    | (with_reducible refine Br.mk (fun _ => ?_) (fun _ => ?_))
    | (with_reducible refine NOut.lit ?_)
    | (with_reducible refine rowsR_sl ?_)
    | (with_reducible refine bytesR_intro (by first | rfl | (simp only [bs_take, bs_drop, bs_append]; rfl)) ?_)
    ))
    )
  all_goals (conv => whnf)
  all_goals (try dsimp only)
  · exact ret_bool (decide_eq_true ‹_›).symm
  · exact ret_bool (decide_eq_false ‹_›).symm
theorem Seal_ok (s : List UInt8) (hs : s.length ≤ 461168601842) : AOKn Try.prog F.crc_Seal [.sl 1 (bs s) false] fun y => y = .sl 1 (bs (sealB s)) true := by
  have hn := bs_length s
  have hlt := sum_lt s
  refine AOKn.by_steps mixed fc_crc_Seal_ok (by simp [fc_crc_Seal]) ?_
  skip
  all_goals (conv => whnf)
  all_goals (try dsimp only)
  refine Sum_val _ s false (by omega) _ ?_
  repeat' (first
    | ((with_reducible refine Side.intro ?_) <;> (first
    | omega
    | exact Nat.le_of_ble_eq_true rfl
    | exact rfl
    ))
    | ((conv => whnf) <;> (first
    | (with_reducible refine and_side ?_ ?_)
    ))
    )
  all_goals (conv => whnf)
  all_goals (try dsimp only)
  refine (words_Of_ok [((sum s : Nat) : Int)] (by simp)).call (.cons (Looks.ownis (.mk' (sp := []) get_new rfl rfl)) .nil) ?_
  rintro _ x σ1 rfl hg hG
  rw [ofR1 _ hlt, ofE1' _ hlt] at hG
  obtain ⟨w, _, rfl, hw, h2, hwn, _⟩ := hG.two
  obtain rfl := h2.same_inv rfl
  replace hw := hw.own_inv
  clear hg hG
  have hwl := bs_length (le 8 (sum s))
  rw [le_length] at hwl
  skip
  all_goals (conv => whnf)
  all_goals (try dsimp only)
  refine (bytes_Clone_ok s (by omega)).call (.cons (.bs _ _ _) .nil) ?_
  rintro _ x σ2 rfl hg hG
  obtain ⟨hx, hxb⟩ := hG.sl_inv
  replace hw := hw.keepN hg
  repeat' (first
    | ((conv => whnf) <;> (first
    | (with_reducible refine rowsR_own (by assumption) ?_)
    ))
    )
  all_goals (conv => whnf)
  all_goals (try dsimp only)
  refine appendR_own (rows := bs s) ?_ ?_ ?_
  · exact hx
  · rw [hwl]; omega
  intro acc σ3 ho hg3 hb3
  rw [bs_append] at ho
  have hal := bs_length (s ++ le 8 (sum s))
  rw [List.length_append, le_length] at hal
  obtain ⟨id, gen, sp, rfl, hb⟩ := ho.ne (fun e => by rw [e] at hal; simp at hal)
  repeat' (first
    | ((with_reducible refine Side.intro ?_) <;> (first
    | (simp only [bs_length, List.length_append, List.length_cons, List.length_nil, List.length_take, List.length_drop, List.length_set, List.length_replicate]; omega)
    | (simp; done)
    ))
    | ((conv => whnf) <;> (first
    | (with_reducible refine and_same ?_)
    | (with_reducible refine and_side ?_ ?_)
    | ((with_reducible apply blkAt_intro) ; (focus (first
    | ((repeat (first
    | assumption
    )); done)
    )) ; (focus (first | rfl | assumption | omega)) ; (try dsimp only))
    | (with_reducible refine NOut.lit ?_)
    ))
    )
  all_goals (conv => whnf)
  all_goals (try dsimp only)
  all_goals rw [List.take_left]
  · exact ret_same rfl
  · exact Side.intro (fresh_bs _)
theorem Open_ok (s : List UInt8) (hs : s.length ≤ 461168601842) : AOKn Try.prog F.crc_Open [.sl 1 (bs s) false] fun y => y = .tup [.sl 1 (bs (openR s)) true, .bool (openOk s)] := by
  have hn := bs_length s
  refine AOKn.by_steps mixed fc_crc_Open_ok (by simp [fc_crc_Open]) ?_
  by_cases h8 : 8 ≤ s.length
  · have hfl : (front s).length = s.length - 8 := by simp [front]
    have hsl := sealB_length (front s)
    have efr : List.take (((bs s).length : Int) - 8).toNat (bs s) = bs (front s) := by
      rw [bs_take, show (((bs s).length : Int) - 8).toNat = s.length - 8 from by omega]; rfl
    have efr2 : List.drop (Int.toNat 0) (List.take (((bs s).length : Int) - 8).toNat (bs s)) = bs (front s) := by rw [efr]; rfl
    repeat' (first
      | ((with_reducible refine Side.intro ?_) <;> (first
      | omega
      ))
      | ((conv => whnf) <;> (first
      | (with_reducible refine and_same ?_)
      | (with_reducible refine and_side ?_ ?_)
      | (with_reducible refine Br.yes (by omega) ?_)
      | (with_reducible refine Br.no (by omega) ?_)
      | (with_reducible refine SliceW.of ?_)
      | (with_reducible refine lenR_sl ?_)
      ))
      )
    all_goals (conv => whnf)
    all_goals (try dsimp only)
    rw [efr2]
    refine (Seal_ok (front s) (by omega)).call (.cons (.bs _ _ _) .nil) ?_
    rintro _ x σ1 rfl hg hG
    obtain ⟨hx, hxb⟩ := hG.sl_inv
    have hxl := bs_length (sealB (front s))
    skip
    all_goals (conv => whnf)
    all_goals (try dsimp only)
    refine (bytes_Equal_ok (sealB (front s)) s).call (.cons (Looks.ownbs hx) (.cons (.bs _ _ _) .nil)) ?_
    rintro _ y σ2 rfl hg2 hG2
    obtain rfl := hG2.flat_inv rfl (by intros; simp)
    by_cases he : sealB (front s) = s
    · have e0 : openOk s = true := decide_eq_true ⟨h8, he⟩
      rw [openR, e0, if_pos rfl, decide_eq_true he]
      repeat' (first
        | ((with_reducible refine Side.intro ?_) <;> (first
        | omega
        ))
        | ((conv => whnf) <;> (first
        | (with_reducible refine and_same ?_)
        | (with_reducible refine and_side ?_ ?_)
        | (with_reducible refine SliceW.of ?_)
        ))
        )
      all_goals (conv => whnf)
      all_goals (try dsimp only)
      rw [efr2]
      refine (bytes_Clone_ok (front s) (by omega)).call (.cons (.bs _ _ _) .nil) ?_
      rintro _ z σ3 rfl hg3 hG3
      obtain ⟨hz, hzb⟩ := hG3.sl_inv
      repeat' (first
        | ((with_reducible refine Side.intro ?_) <;> (first
        | (simp only [List.append_nil, List.nil_append, List.map_nil]; first | exact List.nodup_nil | exact nodup_bid1 _ | exact nodup_bid2 (by assumption))
        | ((first | refine fresh_tup ?_ | skip); (repeat (first |  exact FreshA.sl _ _ FreshA_bs | exact FreshA.sl _ _ FreshA_is | exact FreshA.nils | exact FreshA.nilp | exact FreshA.int _ _ | exact FreshA.bool _ | exact FreshA.str _ | exact fresh_nil | refine fresh_cons ?_ ?_ | with_reducible refine fresh_aggR ?_ | with_reducible refine fresh_agg ?_ | with_reducible exact fresh_nilA | with_reducible refine fresh_consA ?_ ?_)); done)
        ))
        | ((conv => whnf) <;> (first
        | (with_reducible refine and_side ?_ ?_)
        | (with_reducible refine NOut.own (by assumption) ?_)
        | (with_reducible refine NOut.lit ?_)
        ))
        )
      all_goals (conv => whnf)
      all_goals (try dsimp only)
      exact ret_same rfl
    · have e0 : openOk s = false := decide_eq_false (fun h => he h.2)
      rw [openR, e0, decide_eq_false he]
      repeat' (first
        | ((with_reducible refine Side.intro ?_) <;> (first
        | (simp only [List.append_nil, List.nil_append, List.map_nil]; first | exact List.nodup_nil | exact nodup_bid1 _ | exact nodup_bid2 (by assumption))
        | ((first | refine fresh_tup ?_ | skip); (repeat (first |  exact FreshA.sl _ _ FreshA_bs | exact FreshA.sl _ _ FreshA_is | exact FreshA.nils | exact FreshA.nilp | exact FreshA.int _ _ | exact FreshA.bool _ | exact FreshA.str _ | exact fresh_nil | refine fresh_cons ?_ ?_ | with_reducible refine fresh_aggR ?_ | with_reducible refine fresh_agg ?_ | with_reducible exact fresh_nilA | with_reducible refine fresh_consA ?_ ?_)); done)
        ))
        | ((conv => whnf) <;> (first
        | (with_reducible refine and_side ?_ ?_)
        | (with_reducible refine NOut.lit ?_)
        ))
        )
      all_goals (conv => whnf)
      all_goals (try dsimp only)
      exact ret_nilt rfl
  · have e0 : openOk s = false := decide_eq_false (fun h => h8 h.1)
    rw [openR, e0]
    repeat' (first
      | ((with_reducible refine Side.intro ?_) <;> (first
      | (simp only [List.append_nil, List.nil_append, List.map_nil]; first | exact List.nodup_nil | exact nodup_bid1 _ | exact nodup_bid2 (by assumption))
      | ((first | refine fresh_tup ?_ | skip); (repeat (first |  exact FreshA.sl _ _ FreshA_bs | exact FreshA.sl _ _ FreshA_is | exact FreshA.nils | exact FreshA.nilp | exact FreshA.int _ _ | exact FreshA.bool _ | exact FreshA.str _ | exact fresh_nil | refine fresh_cons ?_ ?_ | with_reducible refine fresh_aggR ?_ | with_reducible refine fresh_agg ?_ | with_reducible exact fresh_nilA | with_reducible refine fresh_consA ?_ ?_)); done)
      ))
      | ((conv => whnf) <;> (first
      | (with_reducible refine and_same ?_)
      | (with_reducible refine and_side ?_ ?_)
      | (with_reducible refine Br.yes (by omega) ?_)
      | (with_reducible refine NOut.lit ?_)
      | (with_reducible refine lenR_sl ?_)
      ))
      )
    all_goals (conv => whnf)
    all_goals (try dsimp only)
    all_goals exact ret_nilt rfl
theorem RSeal_ok (s : List UInt8) (hs : s.length ≤ 461168601842) : AOKn Try.prog F.joistref02_Seal [.sl 1 (bs s) false] fun y => y = .sl 1 (bs (sealB s)) true := by
  have hn := bs_length s
  have hlt := sum_lt s
  refine AOKn.by_steps mixed fc_joistref02_Seal_ok (by simp [fc_joistref02_Seal]) ?_
  have hrb := bs_length (le 8 (sum s))
  rw [le_length] at hrb
  repeat' (first
    | ((with_reducible refine Side.intro ?_) <;> (first
    | omega
    ))
    | ((conv => whnf) <;> (first
    | (with_reducible refine and_side ?_ ?_)
    | ((with_reducible apply appendR_lit) ; (focus (first
    | exact rfl
    )) ; (focus (first | rfl | assumption)) ; (focus rfl) ; (focus rfl) ; (focus rfl) ; (focus (first | exact Nat.zero_le _ | omega | (simp; done) | (simp; omega))) ; (try dsimp only))
    | (with_reducible refine rowsR_sl ?_)
    ))
    )
  all_goals (conv => whnf)
  all_goals (try dsimp only)
  refine RSum_val _ s false (by omega) _ ?_
  skip
  all_goals (conv => whnf)
  all_goals (try dsimp only)
  refine (Bytes_ok (sum s) (by omega)).call (.cons (.int _ _ _) .nil) ?_
  rintro _ x σ1 rfl hg hG
  obtain ⟨hx, hxb⟩ := hG.sl_inv
  have ho1 := Own.keepN hg (Own.mk' (sz := 1) (id := 0) (gen := 0 + 1) (rows := bs s) (sp := []) (len := 0 + (bs s).length) rfl (by omega) (by simp))
  repeat' (first
    | ((conv => whnf) <;> (first
    | (with_reducible refine rowsR_own (by assumption) ?_)
    ))
    )
  all_goals (conv => whnf)
  all_goals (try dsimp only)
  refine appendR_own (rows := bs s) ?_ ?_ ?_
  · exact ho1
  · rw [hrb]; omega
  intro acc σ3 ho hg3 hb3
  rw [bs_append] at ho
  have hal := bs_length (s ++ le 8 (sum s))
  rw [List.length_append, le_length] at hal
  obtain ⟨id, gen, sp, rfl, hb⟩ := ho.ne (fun e => by rw [e] at hal; simp at hal)
  repeat' (first
    | ((with_reducible refine Side.intro ?_) <;> (first
    | (simp only [bs_length, List.length_append, List.length_cons, List.length_nil, List.length_take, List.length_drop, List.length_set, List.length_replicate]; omega)
    | (simp; done)
    ))
    | ((conv => whnf) <;> (first
    | (with_reducible refine and_same ?_)
    | (with_reducible refine and_side ?_ ?_)
    | ((with_reducible apply blkAt_intro) ; (focus (first
    | ((repeat (first
    | assumption
    )); done)
    )) ; (focus (first | rfl | assumption | omega)) ; (try dsimp only))
    | (with_reducible refine NOut.lit ?_)
    ))
    )
  all_goals (conv => whnf)
  all_goals (try dsimp only)
  all_goals rw [List.take_left]
  · exact ret_same rfl
  · exact Side.intro (fresh_bs _)
end Go.Proofs.Ytjjmcpnbaahkgaa
