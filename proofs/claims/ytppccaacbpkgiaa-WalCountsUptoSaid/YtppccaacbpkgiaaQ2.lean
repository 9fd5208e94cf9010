import Derived.Test.YtppccaacbpkgiaaQ1
import Derived.Sort.OwnSortedInts
import Derived.Shelf.Slices.In.SortNone
import Derived.Test.YtppccaacbpkgiaaVL
import Derived.Test.YtppccaacbpkgiaaVM
import Derived.Test.YtppccaacbpkgiaaI
namespace Go.Proofs.Ytppccaacbpkgiaa
open Go Go.Proofs.Ytppccaacbpkgiaa.V
set_option maxRecDepth 20000
attribute [local irreducible] CallS AOK AOKn ALoop Side Ref.ok
theorem call_ss1 {f : Nat} {xs vs : List AV} {σ : AH} {Q : AV → AH → Prop} {s1 s2 : Nat} {r1 r2 : List (List AV)} {y3 : AV} (h : AOKn Try.prog f vs fun y => y = .tup [.sl s1 r1 true, .sl s2 r2 true, y3]) (hs : LooksL σ xs vs) (h3 : y3.plain = true) (hQ : ∀ σ' x y, Gr σ σ' none → Own σ' s1 x r1 → Own σ' s2 y r2 → New σ x → New σ y → (∀ id, x.bid = some id → y.bid ≠ some id) → Q (.tup [x, y, y3]) σ') : CallS Try.prog f xs σ Q := by
  refine h.call hs ?_
  rintro _ x σ1 rfl hg hG
  obtain ⟨_, _, _, rfl, a1, a2, a3, n1, n2, n3, hd⟩ := hG.three
  obtain rfl := a3.same_inv h3
  exact hQ σ1 _ _ hg a1.own_inv a2.own_inv n1 n2 hd.1
theorem Looks.bsE {σ : AH} {rows : List (List AV)} {s : List UInt8} {fr : Bool} (h : rows = bs s) : Looks σ (.sl 1 rows fr) (.sl 1 (bs s) false) := by subst h; exact .bs _ _ _
theorem wrE_ok {g : LogV} {L : List (Int × List UInt8)} (h : wrE g L = 0) : rightG g 4096 ∧ rightB 4096 L = true ∧ ¬ hasMine g L ∧ (L.length : Int) ≤ g.Room := by
  unfold wrE at h
  split at h
  · cases h
  · rename_i q
    split at h
    · cases h
    · refine ⟨Decidable.byContradiction fun r => q (.inl r), ?_, fun r => q (.inr (.inr r)), by omega⟩
      cases hr : rightB 4096 L
      · exact absurd (.inr (.inl hr)) q
      · rfl
theorem recsB_len : ∀ {L : List (Int × List UInt8)}, (∀ p, p ∈ L → p.2.length = 64) → (recsB L).length = 128 * L.length
  | [], _ => rfl
  | p :: L, h => by
    have h1 := recsB_len (L := L) fun q hq => h q (by simp [hq])
    have h2 := h p (by simp)
    have e : recsB (p :: L) = recB p ++ recsB L := rfl
    rw [e, List.length_append, recB_length, List.length_cons]
    omega
theorem recsB_lenR {n : Int} {L : List (Int × List UInt8)} (h : rightB n L = true) : (recsB L).length = 128 * L.length := recsB_len fun p hp => (right_line h hp).2.2
theorem HasPrefix_ok (s t : List UInt8) (hs : s.length ≤ 4611686018427) (ht : t.length ≤ 4611686018427) : AOKn Try.prog F.bytes_HasPrefix [.sl 1 (bs s) false, .sl 1 (bs t) false] fun y => y = .bool (decide (s.take t.length = t)) := by
  have h1 := bs_length s
  have h2 := bs_length t
  refine AOKn.by_steps mixed fc_bytes_HasPrefix_ok (by simp [fc_bytes_HasPrefix]) ?_
  by_cases hl : t.length ≤ s.length
  · have e : List.drop (Int.toNat 0) (List.take ((bs t).length : Int).toNat (bs s)) = bs (s.take t.length) := by
      rw [h2, Int.toNat_natCast, bs_take]; rfl
    repeat' (first
      | ((with_reducible refine Side.intro ?_) <;> (first
      | omega
      ))
      | ((conv => whnf) <;> (first
      | (with_reducible refine and_same ?_)
      | (with_reducible refine and_side ?_ ?_)
      | ((with_reducible apply Br.yes) ; (focus omega))
      | (with_reducible refine SliceW.of ?_)
      | (with_reducible refine lenR_sl ?_)
      ))
      )
    all_goals (conv => whnf)
    all_goals (try dsimp only)
    rw [e]
    refine bytes_Equal_val _ _ _ (s.take t.length) t _ (fun he => ?_) (fun he => ?_)
    · repeat' (first
        | ((with_reducible refine Side.intro ?_) <;> (first
        | (simp only [List.append_nil, List.nil_append, List.map_nil]; first | exact List.nodup_nil | exact nodup_bid1 _ | exact nodup_bid2 (by assumption))
        | ((first | refine fresh_tup ?_ | skip); (repeat (first |  exact FreshA.sl _ _ FreshA_bs | exact FreshA.sl _ _ FreshA_is | exact FreshA.nils | exact FreshA.nilp | exact FreshA.int _ _ | exact FreshA.bool _ | exact FreshA.str _ | exact fresh_nil | refine fresh_cons ?_ ?_ | with_reducible refine fresh_aggR ?_ | with_reducible refine fresh_agg ?_ | with_reducible exact fresh_nilA | with_reducible refine fresh_consA ?_ ?_)); done)
        ))
        | ((conv => whnf) <;> (first
        | (with_reducible refine and_side ?_ ?_)
        | (with_reducible refine NOut.lit ?_)
        ))
        )
      all_goals (conv => whnf)
      all_goals (try dsimp only)
      exact ret_bool (decide_eq_true he).symm
    · repeat' (first
        | ((with_reducible refine Side.intro ?_) <;> (first
        | (simp only [List.append_nil, List.nil_append, List.map_nil]; first | exact List.nodup_nil | exact nodup_bid1 _ | exact nodup_bid2 (by assumption))
        | ((first | refine fresh_tup ?_ | skip); (repeat (first |  exact FreshA.sl _ _ FreshA_bs | exact FreshA.sl _ _ FreshA_is | exact FreshA.nils | exact FreshA.nilp | exact FreshA.int _ _ | exact FreshA.bool _ | exact FreshA.str _ | exact fresh_nil | refine fresh_cons ?_ ?_ | with_reducible refine fresh_aggR ?_ | with_reducible refine fresh_agg ?_ | with_reducible exact fresh_nilA | with_reducible refine fresh_consA ?_ ?_)); done)
        ))
        | ((conv => whnf) <;> (first
        | (with_reducible refine and_side ?_ ?_)
        | (with_reducible refine NOut.lit ?_)
        ))
        )
      all_goals (conv => whnf)
      all_goals (try dsimp only)
      exact ret_bool (decide_eq_false he).symm
  · have hne : ¬ (s.take t.length = t) := fun e => by
      have := congrArg List.length e
      rw [List.length_take] at this
      omega
    repeat' (first
      | ((with_reducible refine Side.intro ?_) <;> (first
      | (simp only [List.append_nil, List.nil_append, List.map_nil]; first | exact List.nodup_nil | exact nodup_bid1 _ | exact nodup_bid2 (by assumption))
      | ((first | refine fresh_tup ?_ | skip); (repeat (first |  exact FreshA.sl _ _ FreshA_bs | exact FreshA.sl _ _ FreshA_is | exact FreshA.nils | exact FreshA.nilp | exact FreshA.int _ _ | exact FreshA.bool _ | exact FreshA.str _ | exact fresh_nil | refine fresh_cons ?_ ?_ | with_reducible refine fresh_aggR ?_ | with_reducible refine fresh_agg ?_ | with_reducible exact fresh_nilA | with_reducible refine fresh_consA ?_ ?_)); done)
      ))
      | ((conv => whnf) <;> (first
      | (with_reducible refine and_same ?_)
      | (with_reducible refine and_side ?_ ?_)
      | ((with_reducible apply Br.no) ; (focus omega))
      | (with_reducible refine NOut.lit ?_)
      | (with_reducible refine lenR_sl ?_)
      ))
      )
    all_goals (conv => whnf)
    all_goals (try dsimp only)
    exact ret_bool (decide_eq_false hne).symm
def toldP (g : LogV) (s m : List UInt8) (L : List (Int × List UInt8)) : Prop := wrE g L = 0 ∧ markB L.length (recsB L) = m ∧ (s.drop (g.First * 64).toNat).take (recsB L).length = recsB L
instance (g : LogV) (s m : List UInt8) (L : List (Int × List UInt8)) : Decidable (toldP g s m L) := by unfold toldP; infer_instance
theorem told_ok (g : LogV) (s m : List UInt8) (L : List (Int × List UInt8)) (hs : s.length ≤ 4611686018427) (hm : m.length ≤ 4611686018427) (hL : L.length ≤ 1048576) (hI : ∀ p, p ∈ L → inI2 p.1) (hF : 0 ≤ g.First ∧ g.First * 64 ≤ s.length) : AOKn Try.prog F.wal_told [.agg (logR g), .sl 1 (bs s) false, .sl 1 (bs m) false, .sl 2 (chg false L) false] fun y => y = .bool (decide (toldP g s m L)) := by
  have hns := bs_length s
  have hLg := looks_log
  refine AOKn.by_steps mixed fc_wal_told_ok (by simp [fc_wal_told]) ?_
  repeat' (first
    | ((with_reducible refine Side.intro ?_) <;> (first
    | exact Nat.le_of_ble_eq_true rfl
    | exact rfl
    ))
    | ((conv => whnf) <;> (first
    | (with_reducible refine and_side ?_ ?_)
    | ((with_reducible apply blkAt_step) ; (focus (first
    | exact rfl
    )) ; (focus (first | rfl | assumption | omega)) ; (focus (first | rfl | assumption)) ; (try dsimp only))
    ))
    )
  all_goals (conv => whnf)
  all_goals (try dsimp only)
  refine call_ss1 (wWrite_ok g L hL hI) (.cons (hLg _ g) (.cons (looks_chg _ _ _) .nil)) rfl fun σ1 x y hg1 hx hy hnx hny hd => ?_
  have b1 := hg1.2 0 _ get_new (by simp)
  by_cases hE : wrE g L = 0
  · have e1 : wrR g L = recsB L := if_pos hE
    have e2 : wrM g L = markB L.length (recsB L) := if_pos hE
    rw [e1] at hx
    rw [e2] at hy
    rw [hE]
    repeat' (first
      | ((conv => whnf) <;> (first
      | (with_reducible refine and_same ?_)
      | (with_reducible refine Br.yes rfl ?_)
      ))
      )
    all_goals (conv => whnf)
    all_goals (try dsimp only)
    have hEq := bytes_Equal_ok (markB L.length (recsB L)) m
    by_cases h2 : markB L.length (recsB L) = m
    · rw [decide_eq_true h2] at hEq
      refine call_one hEq (.cons (Looks.ownbs hy) (.cons (.bs _ _ _) .nil)) rfl fun σ2 hg2 => ?_
      replace hx := hx.keepN hg2
      have b2 := hg2.2 0 _ b1 (by simp)
      repeat' (first
        | ((with_reducible refine Side.intro ?_) <;> (first
        | omega
        ))
        | ((conv => whnf) <;> (first
        | (with_reducible refine and_same ?_)
        | (with_reducible refine and_side ?_ ?_)
        | ((with_reducible apply Br.yes) ; (focus omega))
        | ((with_reducible apply blkAt_step) ; (focus (first
        | ((repeat (first
        | assumption
        )); done)
        )) ; (focus (first | rfl | assumption | omega)) ; (focus (first | rfl | assumption)) ; (try dsimp only))
        | (with_reducible refine SliceW.of ?_)
        ))
        )
      all_goals (conv => whnf)
      all_goals (try dsimp only)
      have hP := HasPrefix_ok (s.drop (g.First * 64).toNat) (recsB L) (by rw [List.length_drop]; omega) ?_
      · by_cases h3 : (s.drop (g.First * 64).toNat).take (recsB L).length = recsB L
        · rw [decide_eq_true h3] at hP
          refine call_one hP (.cons ?_ (.cons (Looks.ownbs hx) .nil)) rfl fun σ3 hg3 => ?_
          · exact Looks.bsE (by rw [hns, Int.toNat_natCast, bs_take, List.take_length, bs_drop])
          · repeat' (first
              | ((with_reducible refine Side.intro ?_) <;> (first
              | (simp only [List.append_nil, List.nil_append, List.map_nil]; first | exact List.nodup_nil | exact nodup_bid1 _ | exact nodup_bid2 (by assumption))
              | ((first | refine fresh_tup ?_ | skip); (repeat (first |  exact FreshA.sl _ _ FreshA_bs | exact FreshA.sl _ _ FreshA_is | exact FreshA.nils | exact FreshA.nilp | exact FreshA.int _ _ | exact FreshA.bool _ | exact FreshA.str _ | exact fresh_nil | refine fresh_cons ?_ ?_ | with_reducible refine fresh_aggR ?_ | with_reducible refine fresh_agg ?_ | with_reducible exact fresh_nilA | with_reducible refine fresh_consA ?_ ?_)); done)
              ))
              | ((conv => whnf) <;> (first
              | (with_reducible refine and_side ?_ ?_)
              | (with_reducible refine NOut.lit ?_)
              ))
              )
            all_goals (conv => whnf)
            all_goals (try dsimp only)
            exact ret_bool (decide_eq_true ⟨hE, h2, h3⟩).symm
        · rw [decide_eq_false h3] at hP
          refine call_one hP (.cons ?_ (.cons (Looks.ownbs hx) .nil)) rfl fun σ3 hg3 => ?_
          · exact Looks.bsE (by rw [hns, Int.toNat_natCast, bs_take, List.take_length, bs_drop])
          · repeat' (first
              | ((with_reducible refine Side.intro ?_) <;> (first
              | (simp only [List.append_nil, List.nil_append, List.map_nil]; first | exact List.nodup_nil | exact nodup_bid1 _ | exact nodup_bid2 (by assumption))
              | ((first | refine fresh_tup ?_ | skip); (repeat (first |  exact FreshA.sl _ _ FreshA_bs | exact FreshA.sl _ _ FreshA_is | exact FreshA.nils | exact FreshA.nilp | exact FreshA.int _ _ | exact FreshA.bool _ | exact FreshA.str _ | exact fresh_nil | refine fresh_cons ?_ ?_ | with_reducible refine fresh_aggR ?_ | with_reducible refine fresh_agg ?_ | with_reducible exact fresh_nilA | with_reducible refine fresh_consA ?_ ?_)); done)
              ))
              | ((conv => whnf) <;> (first
              | (with_reducible refine and_side ?_ ?_)
              | (with_reducible refine NOut.lit ?_)
              ))
              )
            all_goals (conv => whnf)
            all_goals (try dsimp only)
            exact ret_bool (decide_eq_false fun q => h3 q.2.2).symm
      · rw [recsB_lenR (wrE_ok hE).2.1]
        omega
    · rw [decide_eq_false h2] at hEq
      refine call_one hEq (.cons (Looks.ownbs hy) (.cons (.bs _ _ _) .nil)) rfl fun σ2 hg2 => ?_
      repeat' (first
        | ((with_reducible refine Side.intro ?_) <;> (first
        | (simp only [List.append_nil, List.nil_append, List.map_nil]; first | exact List.nodup_nil | exact nodup_bid1 _ | exact nodup_bid2 (by assumption))
        | ((first | refine fresh_tup ?_ | skip); (repeat (first |  exact FreshA.sl _ _ FreshA_bs | exact FreshA.sl _ _ FreshA_is | exact FreshA.nils | exact FreshA.nilp | exact FreshA.int _ _ | exact FreshA.bool _ | exact FreshA.str _ | exact fresh_nil | refine fresh_cons ?_ ?_ | with_reducible refine fresh_aggR ?_ | with_reducible refine fresh_agg ?_ | with_reducible exact fresh_nilA | with_reducible refine fresh_consA ?_ ?_)); done)
        ))
        | ((conv => whnf) <;> (first
        | (with_reducible refine and_side ?_ ?_)
        | (with_reducible refine NOut.lit ?_)
        ))
        )
      all_goals (conv => whnf)
      all_goals (try dsimp only)
      exact ret_bool (decide_eq_false fun q => h2 q.2.1).symm
  · repeat' (first
      | ((with_reducible refine Side.intro ?_) <;> (first
      | (simp only [List.append_nil, List.nil_append, List.map_nil]; first | exact List.nodup_nil | exact nodup_bid1 _ | exact nodup_bid2 (by assumption))
      | ((first | refine fresh_tup ?_ | skip); (repeat (first |  exact FreshA.sl _ _ FreshA_bs | exact FreshA.sl _ _ FreshA_is | exact FreshA.nils | exact FreshA.nilp | exact FreshA.int _ _ | exact FreshA.bool _ | exact FreshA.str _ | exact fresh_nil | refine fresh_cons ?_ ?_ | with_reducible refine fresh_aggR ?_ | with_reducible refine fresh_agg ?_ | with_reducible exact fresh_nilA | with_reducible refine fresh_consA ?_ ?_)); done)
      ))
      | ((conv => whnf) <;> (first
      | (with_reducible refine and_same ?_)
      | (with_reducible refine and_side ?_ ?_)
      | ((with_reducible apply Br.no) ; (focus omega))
      | (with_reducible refine NOut.lit ?_)
      ))
      )
    all_goals (conv => whnf)
    all_goals (try dsimp only)
    exact ret_bool (decide_eq_false fun q => hE q.1).symm
/-! ### Read -/
def rdX (s : List UInt8) (f i : Nat) : List UInt8 := (s.drop (64 * f + 128 * i)).take 128
def rdP (x : List UInt8) : Int × List UInt8 := (((getV x 0 : Nat) : Int), x.drop 64)
def rdL (s : List UInt8) (f n : Nat) : List (Int × List UInt8) := (List.range n).map fun i => rdP (rdX s f i)
theorem rdL_succ (s : List UInt8) (f n : Nat) : rdL s f (n + 1) = rdL s f n ++ [rdP (rdX s f n)] := by simp [rdL, List.range_succ]
theorem rdL_length (s : List UInt8) (f n : Nat) : (rdL s f n).length = n := by simp [rdL]
def rdM (g : LogV) (s : List UInt8) : List UInt8 := (s.drop (64 * g.Mark.toNat)).take 64
def rdN (g : LogV) (s : List UInt8) : Nat := getV (rdM g s) 0
def rdBad (g : LogV) (s : List UInt8) : Prop := s.length % 64 ≠ 0 ∨ 4096 < s.length / 64 ∨ ¬ rightG g ((s.length / 64 : Nat) : Int)
instance (g : LogV) (s : List UInt8) : Decidable (rdBad g s) := by unfold rdBad; infer_instance
def rdZero (g : LogV) (s : List UInt8) : Bool := (rdM g s).all (· == 0)
def rdOk (g : LogV) (s : List UInt8) : Prop := 1 ≤ rdN g s ∧ (rdN g s : Int) ≤ g.Room ∧ rightB ((s.length / 64 : Nat) : Int) (rdL s g.First.toNat (rdN g s)) = true ∧ toldP g s (rdM g s) (rdL s g.First.toNat (rdN g s))
instance (g : LogV) (s : List UInt8) : Decidable (rdOk g s) := by unfold rdOk; infer_instance
/-- What is read: an error's number, changes. -/
def rdE (g : LogV) (s : List UInt8) : Int := if rdBad g s then 1 else if rdZero g s = true then 0 else if rdOk g s then 0 else 7
def rdR (g : LogV) (s : List UInt8) : List (Int × List UInt8) := if rdBad g s then [] else if rdZero g s = true then [] else if rdOk g s then rdL s g.First.toNat (rdN g s) else []
theorem rdX_len {s : List UInt8} {f i : Nat} (h : 64 * f + 128 * i + 128 ≤ s.length) : (rdX s f i).length = 128 := by
  simp [rdX]; omega
theorem getV_bd (s : List UInt8) (i : Int) : getV s i < 4611686018427387904 := by
  unfold getV
  split
  · rename_i h
    unfold getOk at h
    rw [Bool.and_eq_true] at h
    obtain ⟨h1, h2⟩ := h
    unfold inR at h1
    rw [decide_eq_true_iff] at h1
    exact okW_val (wd_length (by omega)) h2
  · decide
theorem getV_take {s : List UInt8} {n : Nat} (h : 8 ≤ n) (hs : 8 ≤ s.length) : getV (s.take n) 0 = getV s 0 := by
  have e : wd (s.take n) 0 = wd s 0 := by
    simp only [wd, Nat.zero_mul, List.drop_zero, List.take_take, Nat.min_eq_left h]
  have e2 : inR (s.take n) 0 = inR s 0 := by
    unfold inR
    rw [List.length_take]
    congr 1
    apply propext
    omega
  unfold getV getOk
  rw [e2, show Int.toNat 0 = 0 from rfl, e]
def RdH (g : LogV) (s : List UInt8) (y : AV) (τ : AH) : Prop := ∃ a xs, y = .tup [a, .int .i64 (rdE g s)] ∧ NestR τ 2 a (crow ((rdR g s).map (·.1)) xs) ∧ Sep τ xs ((rdR g s).map (·.2)) ∧ Off a xs
theorem RdH.none {g : LogV} {s : List UInt8} {k : Int} (h : rdE g s = k) (hr : rdR g s = []) (τ : AH) : RdH g s (.tup [.nils, .int .i64 k]) τ :=
  ⟨.nils, [], by rw [h], by rw [hr]; exact NestR.nil _ _, by rw [hr]; exact Sep.nil _, fun y hy => by simp at hy⟩
theorem Read_h (g : LogV) (s : List UInt8) (hs : s.length ≤ 4611686018427) : CallS Try.prog F.wal_Read [.agg (logR g), .sl 1 (bs s) false] [] (RdH g s) := by
  have hns := bs_length s
  have hLg := looks_log
  refine call_of_body mixed fc_wal_Read_ok (by simp [fc_wal_Read]) ?_
  have bad : rdBad g s → ∀ τ, RdH g s (.tup [.nils, .int .i64 1]) τ := fun q τ => RdH.none (if_pos q) (if_pos q) τ
  by_cases h1 : s.length % 64 ≠ 0
  · repeat' (first
      | ((with_reducible refine Side.intro ?_) <;> (first
      | omega
      | exact rfl
      ))
      | ((conv => whnf) <;> (first
      | (with_reducible refine and_same ?_)
      | (with_reducible refine and_side ?_ ?_)
      | ((with_reducible apply Br.yes) ; (focus omega))
      | (with_reducible refine lenR_sl ?_)
      ))
      )
    all_goals (conv => whnf)
    all_goals (try dsimp only)
    exact bad (.inl h1) _
  by_cases h2 : 4096 < s.length / 64
  · repeat' (first
      | ((with_reducible refine Side.intro ?_) <;> (first
      | omega
      | exact rfl
      ))
      | ((conv => whnf) <;> (first
      | (with_reducible refine and_same ?_)
      | (with_reducible refine and_side ?_ ?_)
      | ((with_reducible apply Br.yes) ; (focus omega))
      | ((with_reducible apply Br.no) ; (focus omega))
      | (with_reducible refine lenR_sl ?_)
      ))
      )
    all_goals (conv => whnf)
    all_goals (try dsimp only)
    exact bad (.inr (.inl h2)) _
  repeat' (first
    | ((with_reducible refine Side.intro ?_) <;> (first
    | omega
    | exact Nat.le_of_ble_eq_true rfl
    | exact rfl
    ))
    | ((conv => whnf) <;> (first
    | (with_reducible refine and_same ?_)
    | (with_reducible refine and_side ?_ ?_)
    | ((with_reducible apply Br.yes) ; (focus omega))
    | ((with_reducible apply Br.no) ; (focus omega))
    | ((with_reducible apply blkAt_step) ; (focus (first
    | exact rfl
    )) ; (focus (first | rfl | assumption | omega)) ; (focus (first | rfl | assumption)) ; (try dsimp only))
    | (with_reducible refine lenR_sl ?_)
    ))
    )
  all_goals (conv => whnf)
  all_goals (try dsimp only)
  have hR := wRight_ok g ((s.length / 64 : Nat) : Int) (by omega)
  have eL : ((bs s).length : Int) / 64 = ((s.length / 64 : Nat) : Int) := by omega
  rw [eL]
  by_cases h3 : rightG g ((s.length / 64 : Nat) : Int)
  · rw [decide_eq_true h3] at hR
    refine call_one hR (.cons (hLg _ g) (.cons (Looks.int _ _ _) .nil)) rfl fun σ1 hg1 => ?_
    have b1 := hg1.2 0 _ get_new (by simp)
    have nb : ¬ rdBad g s := by
      rintro (q | q | q)
      · exact h1 q
      · exact h2 q
      · exact q h3
    have h4 := h3
    unfold rightG at h4
    have hMl : (rdM g s).length = 64 := by simp [rdM]; omega
    have eM : List.drop (g.Mark * 64).toNat (List.take (g.Mark * 64 + 64).toNat (bs s)) = bs (rdM g s) := by
      rw [bs_take, bs_drop]
      congr 1
      rw [List.drop_take, rdM]
      congr 1
      · omega
      · congr 1; omega
    repeat' (first
      | ((with_reducible refine Side.intro ?_) <;> (first
      | omega
      ))
      | ((conv => whnf) <;> (first
      | (with_reducible refine and_same ?_)
      | (with_reducible refine and_side ?_ ?_)
      | ((with_reducible apply Br.yes) ; (focus omega))
      | ((with_reducible apply blkAt_step) ; (focus (first
      | ((repeat (first
      | assumption
      )); done)
      )) ; (focus (first | rfl | assumption | omega)) ; (focus (first | rfl | assumption)) ; (try dsimp only))
      | (with_reducible refine SliceW.of ?_)
      ))
      )
    all_goals (conv => whnf)
    all_goals (try dsimp only)
    rw [eM]
    have hZ := words_Zero_ok (rdM g s) (by omega)
    by_cases h5 : rdZero g s = true
    · have h5' : (rdM g s).all (· == 0) = true := h5
      rw [h5'] at hZ
      refine call_one hZ (.cons (.bs _ _ _) .nil) rfl fun σ2 hg2 => ?_
      skip
      all_goals (conv => whnf)
      all_goals (try dsimp only)
      exact RdH.none (by unfold rdE; rw [if_neg nb, if_pos h5]) (by unfold rdR; rw [if_neg nb, if_pos h5]) _
    · have h5' : (rdM g s).all (· == 0) = false := by rw [Bool.not_eq_true] at h5; exact h5
      rw [h5'] at hZ
      refine call_one hZ (.cons (.bs _ _ _) .nil) rfl fun σ2 hg2 => ?_
      have b2 := hg2.2 0 _ b1 (by simp)
      skip
      all_goals (conv => whnf)
      all_goals (try dsimp only)
      refine call_two (words_Get_ok (rdM g s) 0 (by omega)) (.cons (.bs _ _ _) (.cons (Looks.int _ _ _) .nil)) rfl rfl fun σ3 hg3 => ?_
      have b3 := hg3.2 0 _ b2 (by simp)
      have hN : getV (rdM g s) 0 = rdN g s := rfl
      rw [hN]
      have corrupt : ¬ rdOk g s → ∀ τ, RdH g s (.tup [.nils, .int .i64 7]) τ := fun q τ => RdH.none (by unfold rdE; rw [if_neg nb, if_neg h5, if_neg q]) (by unfold rdR; rw [if_neg nb, if_neg h5, if_neg q]) τ
      have fine : rdOk g s → rdE g s = 0 ∧ rdR g s = rdL s g.First.toNat (rdN g s) := fun q => ⟨by unfold rdE; rw [if_neg nb, if_neg h5, if_pos q], by unfold rdR; rw [if_neg nb, if_neg h5, if_pos q]⟩
      have hnl := getV_bd (rdM g s) 0
      rw [hN] at hnl
      unfold rdOk at corrupt fine
      generalize rdN g s = n at *
      by_cases h6 : (n : Int) < 1 ∨ g.Room < n
      · repeat' (first
          | ((conv => whnf) <;> (first
          | (with_reducible refine and_same ?_)
          | ((with_reducible apply Br.yes) ; (focus omega))
          | (with_reducible refine Br.mk (fun _ => ?_) (fun _ => ?_))
          | ((with_reducible apply blkAt_step) ; (focus (first
          | ((repeat (first
          | assumption
          )); done)
          )) ; (focus (first | rfl | assumption | omega)) ; (focus (first | rfl | assumption)) ; (try dsimp only))
          ))
          )
        all_goals (conv => whnf)
        all_goals (try dsimp only)
        all_goals exact corrupt (by omega) _
      · obtain ⟨f, hf⟩ := Int.eq_ofNat_of_zero_le h4.2.2.1
        have hfT : g.First.toNat = f := by omega
        rw [hfT] at corrupt fine
        have hroom : 64 * f + 128 * n ≤ s.length := by omega
        have eR : List.drop (g.First * 64).toNat (List.take ((bs s).length : Int).toNat (bs s)) = bs (s.drop (64 * f + 128 * 0)) := by
          rw [hns, Int.toNat_natCast, bs_take, List.take_length, bs_drop]
          congr 2
          omega
        repeat' (first
          | ((with_reducible refine Side.intro ?_) <;> (first
          | omega
          ))
          | ((conv => whnf) <;> (first
          | (with_reducible refine and_same ?_)
          | (with_reducible refine and_side ?_ ?_)
          | ((with_reducible apply Br.yes) ; (focus omega))
          | ((with_reducible apply Br.no) ; (focus omega))
          | ((with_reducible apply blkAt_step) ; (focus (first
          | ((repeat (first
          | assumption
          )); done)
          )) ; (focus (first | rfl | assumption | omega)) ; (focus (first | rfl | assumption)) ; (try dsimp only))
          | (with_reducible refine SliceW.of ?_)
          ))
          )
        all_goals (conv => whnf)
        all_goals (try dsimp only)
        rw [eR]
        refine loop_at (α := Nat × AV × List AV × AH) (fun q => [(11, .sl 1 (bs (s.drop (64 * f + 128 * q.1))) false), (12, q.2.1), (61, .int .i64 q.1)]) (fun q => q.2.2.2)
          (fun q => q.1 ≤ n ∧ NestR q.2.2.2 2 q.2.1 (crow ((rdL s f q.1).map (·.1)) q.2.2.1) ∧ Sep q.2.2.2 q.2.2.1 ((rdL s f q.1).map (·.2)) ∧ Off q.2.1 q.2.2.1 ∧ q.2.2.2[0]? = some { sz := 3, els := [logR g], gen := 0, wr := true, pure := true } ∧ ∀ id, q.2.1.bid = some id → 0 < id) (fun q => n - q.1) (0, .nils, [], σ3) ⟨Nat.zero_le _, NestR.nil _ _, Sep.nil _, (fun y hy => by simp at hy), b3, (fun id e => by cases e)⟩ rfl rfl ?_
        rintro ⟨i, acc, xs, τ⟩ ⟨hi, hacc, hsp, hoff, hb, h0⟩
        dsimp only at hi hacc hsp hoff hb h0 ⊢
        have hdl : (s.drop (64 * f + 128 * i)).length = s.length - (64 * f + 128 * i) := List.length_drop
        have hbd := bs_length (s.drop (64 * f + 128 * i))
        by_cases hlt : i < n
        · have eG : getV (s.drop (64 * f + 128 * i)) 0 = getV (rdX s f i) 0 := (getV_take (by omega) (by omega)).symm
          repeat' (first
            | ((conv => whnf) <;> (first
            | (with_reducible refine and_same ?_)
            | ((with_reducible apply Br.yes) ; (focus omega))
            ))
            )
          all_goals (conv => whnf)
          all_goals (try dsimp only)
          refine call_two (words_Get_ok (s.drop (64 * f + 128 * i)) 0 (by omega)) (.cons (.bs _ _ _) (.cons (Looks.int _ _ _) .nil)) rfl rfl fun σ4 hg4 => ?_
          rw [eG]
          repeat' (first
            | ((with_reducible refine Side.intro ?_) <;> (first
            | omega
            ))
            | ((conv => whnf) <;> (first
            | (with_reducible refine and_same ?_)
            | (with_reducible refine and_side ?_ ?_)
            | (with_reducible refine SliceW.of ?_)
            ))
            )
          all_goals (conv => whnf)
          all_goals (try dsimp only)
          have eX : List.drop (Int.toNat 64) (List.take (Int.toNat 128) (bs (s.drop (64 * f + 128 * i)))) = bs ((rdX s f i).drop 64) := by
            rw [bs_take, bs_drop]; rfl
          rw [eX]
          have hxl : (rdX s f i).length = 128 := rdX_len (by omega)
          refine call_sl (bytes_Clone_ok ((rdX s f i).drop 64) (by rw [List.length_drop]; omega)) (.cons (.bs _ _ _) .nil) fun σ5 x hg5 hx hxb => ?_
          have hcl := crow_length (L := (rdL s f i).map (·.1)) (xs := xs) (by rw [hsp.len, List.length_map, List.length_map])
          rw [List.length_map, rdL_length] at hcl
          obtain ⟨ox1, ox2, ox3⟩ := hx.one
          have raw : UseRaw := ⟨⟩
          repeat' (first
            | ((with_reducible refine Side.intro ?_) <;> (first
            | omega
            | exact Nat.le_of_ble_eq_true rfl
            | exact rfl
            ))
            | ((conv => whnf) <;> (first
            | (with_reducible refine and_same ?_)
            | (with_reducible refine and_side ?_ ?_)
            | ((with_reducible apply blkAt_step) ; (focus (first
            | ((repeat (first
            | exact get_new
            )); done)
            )) ; (focus (first | rfl | assumption | omega)) ; (focus (first | rfl | assumption)) ; (try dsimp only))
            | ((with_reducible apply AppC.raw) ; (focus assumption))
            | (with_reducible refine rowsR_rsl ?_)
            ))
            )
          all_goals (conv => whnf)
          all_goals (try dsimp only)
          rotate_left
          · rw [ox1]; exact Side.intro rfl
          rw [ox1]
          have hgg : Gr τ σ5 none := hg4.trans hg5
          replace hxb : New τ x := fun id e => Nat.le_trans hg4.1 (hxb id e)
          have hxa : x.bid = none ∨ x.bid ≠ acc.bid := hacc.apart hxb
          have hl1 := hgg.1
          have hrow : (AV.agg (lay (lay [AV.int IntKind.i64 0, AV.nils] 0 (AV.int IntKind.i64 ((getV (rdX s f i) 0 : Nat) : Int)).cells) 1 [x])).cells = [AV.int .i64 ((getV (rdX s f i) 0 : Nat) : Int), x] := rfl
          rw [hrow]
          generalize allFlatL ((List.replicate 1 [AV.int IntKind.i64 0, AV.nils]).set 0 [AV.int .i64 ((getV (rdX s f i) 0 : Nat) : Int), x]) = fl
          have hnew1 : Gr σ5 (newB σ5 2 [[AV.int .i64 ((getV (rdX s f i) 0 : Nat) : Int), x]] fl) none := Gr.append _ _
          have hnew : Gr τ (newB σ5 2 [[AV.int .i64 ((getV (rdX s f i) 0 : Nat) : Int), x]] fl) none := hgg.trans hnew1
          refine NestR.append (row := [AV.int .i64 ((getV (rdX s f i) 0 : Nat) : Int), x]) (NestR.keepN hnew hacc) (by rw [hcl]; omega) (fun y hy => ?_) ?_
          · simp only [List.mem_cons, List.not_mem_nil, or_false] at hy
            rcases hy with rfl | rfl
            · exact ⟨fun id h => (by cases h), .inl rfl⟩
            · exact ⟨fun id h => (by have := hx.lt h; simp only [newB_length]; omega), hxa⟩
          intro acc' σ' ho' hg' hb'
          have eS : List.drop (Int.toNat 128) (List.take ((bs (s.drop (64 * f + 128 * i))).length : Int).toNat (bs (s.drop (64 * f + 128 * i)))) = bs (s.drop (64 * f + 128 * (i + 1))) := by
            rw [hbd, Int.toNat_natCast, bs_take, List.take_length, bs_drop, List.drop_drop]
            rfl
          repeat' (first
            | ((with_reducible refine Side.intro ?_) <;> (first
            | omega
            ))
            | ((conv => whnf) <;> (first
            | (with_reducible refine and_same ?_)
            | (with_reducible refine and_side ?_ ?_)
            | ((with_reducible apply Br.yes) ; (focus omega))
            | (with_reducible refine SliceW.of ?_)
            ))
            )
          all_goals (conv => whnf)
          all_goals (try dsimp only)
          rw [eS]
          have h0l := (List.getElem?_eq_some_iff.1 hb).1
          refine ⟨(i + 1, acc', xs ++ [x], σ'), rfl, rfl, ⟨hlt, ?_, ?_, ?_, ?_, ?_⟩, by dsimp only; omega⟩
          · dsimp only
            rw [rdL_succ, List.map_append]
            show NestR σ' 2 acc' (crow ((rdL s f i).map (·.1) ++ [((getV (rdX s f i) 0 : Nat) : Int)]) (xs ++ [x]))
            rw [crow_snoc (by rw [hsp.len, List.length_map, List.length_map])]
            exact ho'
          · dsimp only
            rw [rdL_succ, List.map_append]
            refine Sep.snoc ?_ ?_ ?_
            · exact Sep.keep (Sep.keepN hnew hsp) hg' hoff.keepd
            · exact Own.keep hg' (hx.keepN hnew1) (by rcases hxa with q | q; exact .inl q; exact .inr fun e => q e.symm)
            · exact hsp.apart hxb
          · dsimp only
            rcases hb' with q | q
            · exact (hoff.snoc hxa).same q
            · refine Off.snoc (Off.new hsp q (by simp only [newB_length]; omega)) ?_
              rw [q]
              cases hb : x.bid with
              | none => exact .inl rfl
              | some a =>
                right
                intro e
                cases e
                have := hx.lt hb
                simp only [newB_length] at this
                omega
          · exact hg'.2 _ _ (hnew.2 _ _ hb (by simp)) (fun e => Nat.lt_irrefl _ (h0 _ e))
          · dsimp only
            intro id e
            rcases hb' with q | q
            · exact h0 id (q.symm.trans e)
            · rw [q, newB_length] at e
              cases e
              omega
        · have ei : i = n := by omega
          subst ei
          have hlk : Looks τ acc (.sl 2 (chg false (rdL s f i)) false) := NestR.looksC hacc hsp
          have hRl := rdL_length s f i
          have hcI : ∀ p, p ∈ rdL s f i → inI2 p.1 := fun p hp => by
            obtain ⟨j, _, rfl⟩ := List.mem_map.1 hp
            have := getV_bd (rdX s f j) 0
            unfold inI2 rdP
            dsimp only
            omega
          have hRL := lines_Right_ok ((s.length / 64 : Nat) : Int) (rdL s f i) (by omega)
          repeat' (first
            | ((conv => whnf) <;> (first
            | (with_reducible refine and_same ?_)
            | ((with_reducible apply Br.no) ; (focus omega))
            ))
            )
          all_goals (conv => whnf)
          all_goals (try dsimp only)
          by_cases h7 : rightB ((s.length / 64 : Nat) : Int) (rdL s f i) = true
          · rw [h7] at hRL
            refine call_one hRL (.cons (Looks.int _ _ _) (.cons hlk .nil)) rfl fun σ4 hg4 => ?_
            have hb4 := hg4.2 0 _ hb (by simp)
            have hT := told_ok g s (rdM g s) (rdL s f i) hs (by omega) (by omega) hcI (by omega)
            have hacc4 := NestR.keepN hg4 hacc
            have hsp4 := Sep.keepN hg4 hsp
            have hlk4 : Looks σ4 acc (.sl 2 (chg false (rdL s f i)) false) := NestR.looksC hacc4 hsp4
            repeat' (first
              | ((with_reducible refine Side.intro ?_) <;> (first
              | exact Nat.le_of_ble_eq_true rfl
              ))
              | ((conv => whnf) <;> (first
              | (with_reducible refine and_side ?_ ?_)
              | ((with_reducible apply blkAt_step) ; (focus (first
              | ((repeat (first
              | assumption
              )); done)
              )) ; (focus (first | rfl | assumption | omega)) ; (focus (first | rfl | assumption)) ; (try dsimp only))
              ))
              )
            all_goals (conv => whnf)
            all_goals (try dsimp only)
            by_cases h8 : toldP g s (rdM g s) (rdL s f i)
            · rw [decide_eq_true h8] at hT
              refine call_one hT (.cons (hLg _ g) (.cons (.bs _ _ _) (.cons (.bs _ _ _) (.cons hlk4 .nil)))) rfl fun σ5 hg5 => ?_
              obtain ⟨f1, f2⟩ := fine ⟨by omega, by omega, h7, h8⟩
              skip
              all_goals (conv => whnf)
              all_goals (try dsimp only)
              exact ⟨acc, xs, by rw [f1]; rfl, by rw [f2]; exact NestR.keepN hg5 hacc4, by rw [f2]; exact Sep.keepN hg5 hsp4, hoff⟩
            · rw [decide_eq_false h8] at hT
              refine call_one hT (.cons (hLg _ g) (.cons (.bs _ _ _) (.cons (.bs _ _ _) (.cons hlk4 .nil)))) rfl fun σ5 hg5 => ?_
              skip
              all_goals (conv => whnf)
              all_goals (try dsimp only)
              exact corrupt (fun q => h8 q.2.2.2) _
          · rw [Bool.not_eq_true] at h7
            rw [h7] at hRL
            refine call_one hRL (.cons (Looks.int _ _ _) (.cons hlk .nil)) rfl fun σ4 hg4 => ?_
            skip
            all_goals (conv => whnf)
            all_goals (try dsimp only)
            exact corrupt (fun q => by rw [h7] at q; cases q.2.2.1) _
  · rw [decide_eq_false h3] at hR
    refine call_one hR (.cons (hLg _ g) (.cons (Looks.int _ _ _) .nil)) rfl fun σ1 hg1 => ?_
    skip
    all_goals (conv => whnf)
    all_goals (try dsimp only)
    exact bad (.inr (.inr h3)) _
end Go.Proofs.Ytppccaacbpkgiaa

namespace Go.Proofs.Ytppccaacbpkgiaa
open Go Go.Proofs.Ytppccaacbpkgiaa.V
set_option maxRecDepth 20000
attribute [local irreducible] CallS AOK AOKn ALoop Side Ref.ok
theorem Read_call (g : LogV) (s : List UInt8) (hs : s.length ≤ 4611686018427) {σ : AH} {x : AV} (hx : Looks σ x (.sl 1 (bs s) false)) {Q : AV → AH → Prop}
    (h : ∀ σ' a xs, Gr σ σ' none → NestR σ' 2 a (crow ((rdR g s).map (·.1)) xs) → Sep σ' xs ((rdR g s).map (·.2)) → Off a xs → (∀ id, a.bid = some id → σ.length ≤ id) → (∀ y, y ∈ xs → ∀ id, y.bid = some id → σ.length ≤ id) → Q (.tup [a, .int .i64 (rdE g s)]) σ') : CallS Try.prog F.wal_Read [.agg (logR g), x] σ Q := by
  refine CallS.lift (vs := [.agg (logR g), .sl 1 (bs s) false]) (.cons (looks_log _ g) (.cons hx .nil)) ((Read_h g s hs).mono ?_)
  rintro _ τ ⟨a, xs, rfl, ha, hsp, ho⟩
  refine ⟨?_, fun τ' hh => ?_⟩
  · intro y hy
    simp only [List.mem_cons, List.not_mem_nil, or_false] at hy
    rcases hy with rfl | rfl
    · exact ha.fs
    · exact .fresh (.int _ _)
  · refine h (σ ++ τ') (shA σ.length a) (xs.map (shA σ.length)) (Gr.append _ _) ?_ (Sep.handed hh hsp) (ho.sh _) (shA_new _ _) ?_
    · rw [← crow_sh]
      exact NestR.handed hh ha (crow_fs hsp.fs)
    · intro y hy
      obtain ⟨z, _, rfl⟩ := List.mem_map.1 hy
      exact shA_new _ z
theorem rightB_mono {n m : Int} (h : n ≤ m) {L : List (Int × List UInt8)} (hr : rightB n L = true) : rightB m L = true := by
  refine rightB_true fun j hj => ?_
  have := List.all_eq_true.1 hr j (List.mem_range.2 hj)
  unfold okAt at this ⊢
  cases hp : L[j]? with
  | none => rfl
  | some p =>
    rw [hp] at this
    simp only [Bool.and_eq_true, Bool.or_eq_true, decide_eq_true_iff] at this ⊢
    exact ⟨⟨this.1.1, by omega, this.1.2.2⟩, this.2⟩
theorem rightG_mono {g : LogV} {n : Int} (h : n ≤ 4096) (hr : rightG g n) : rightG g 4096 := by
  unfold rightG at *
  omega
theorem told_iff {g : LogV} {s m : List UInt8} {L : List (Int × List UInt8)} {n : Int} (hn : n ≤ 4096) (hg : rightG g n) (hr : rightB n L = true) (hl : (L.length : Int) ≤ g.Room) : toldP g s m L ↔ ¬ hasMine g L ∧ recsB L = (s.drop (g.First * 64).toNat).take (128 * L.length) ∧ markB L.length (recsB L) = m := by
  have h1 := recsB_lenR hr
  have h2 : wrE g L = 0 ↔ ¬ hasMine g L := by
    constructor
    · exact fun q => (wrE_ok q).2.2.1
    · intro q
      unfold wrE
      rw [if_neg, if_neg (by omega)]
      rintro (r | r | r)
      · exact r (rightG_mono hn hg)
      · rw [rightB_mono hn hr] at r; cases r
      · exact q r
  unfold toldP
  rw [h2, h1]
  constructor
  · rintro ⟨a, b, c⟩; exact ⟨a, c.symm, b⟩
  · rintro ⟨a, b, c⟩; exact ⟨a, c, b.symm⟩
theorem rRead_ok (g : LogV) (s : List UInt8) (hs : s.length ≤ 4611686018427) : AOKn Try.prog F.joistref05_Read [.agg (logR g), .sl 1 (bs s) false] fun y => y = .tup [.sl 2 (chg true (rdR g s)) true, .int .i64 (rdE g s)] := by
  have hns := bs_length s
  have hLg := looks_log
  refine AOKn.by_steps mixed fc_joistref05_Read_ok (by simp [fc_joistref05_Read]) ?_
  have none : ∀ k, rdE g s = k → rdR g s = [] → ∃ y0, NilR (.tup [.nils, .int .i64 k]) y0 ∧ y0 = .tup [.sl 2 (chg true (rdR g s)) true, .int .i64 (rdE g s)] := fun k q r => by
    rw [q, r]; exact ret_nilt rfl
  have bad : rdBad g s → ∃ y0, NilR (.tup [.nils, .int .i64 1]) y0 ∧ y0 = .tup [.sl 2 (chg true (rdR g s)) true, .int .i64 (rdE g s)] := fun q => none 1 (if_pos q) (if_pos q)
  by_cases h1 : s.length % 64 ≠ 0
  · repeat' (first
      | ((with_reducible refine Side.intro ?_) <;> (first
      | omega
      | (simp only [List.append_nil, List.nil_append, List.map_nil]; first | exact List.nodup_nil | exact nodup_bid1 _ | exact nodup_bid2 (by assumption))
      | ((first | refine fresh_tup ?_ | skip); (repeat (first | exact fresh_chg _ |  exact FreshA.sl _ _ FreshA_bs | exact FreshA.sl _ _ FreshA_is | exact FreshA.nils | exact FreshA.nilp | exact FreshA.int _ _ | exact FreshA.bool _ | exact FreshA.str _ | exact fresh_nil | refine fresh_cons ?_ ?_ | with_reducible refine fresh_aggR ?_ | with_reducible refine fresh_agg ?_ | with_reducible exact fresh_nilA | with_reducible refine fresh_consA ?_ ?_)); done)
      | exact rfl
      ))
      | ((conv => whnf) <;> (first
      | (with_reducible refine and_same ?_)
      | (with_reducible refine and_side ?_ ?_)
      | ((with_reducible apply Br.yes) ; (focus omega))
      | (with_reducible refine NOut.lit ?_)
      | (with_reducible refine lenR_sl ?_)
      ))
      )
    all_goals (conv => whnf)
    all_goals (try dsimp only)
    exact bad (.inl h1)
  by_cases h2 : 4096 < s.length / 64
  · repeat' (first
      | ((with_reducible refine Side.intro ?_) <;> (first
      | omega
      | (simp only [List.append_nil, List.nil_append, List.map_nil]; first | exact List.nodup_nil | exact nodup_bid1 _ | exact nodup_bid2 (by assumption))
      | ((first | refine fresh_tup ?_ | skip); (repeat (first | exact fresh_chg _ |  exact FreshA.sl _ _ FreshA_bs | exact FreshA.sl _ _ FreshA_is | exact FreshA.nils | exact FreshA.nilp | exact FreshA.int _ _ | exact FreshA.bool _ | exact FreshA.str _ | exact fresh_nil | refine fresh_cons ?_ ?_ | with_reducible refine fresh_aggR ?_ | with_reducible refine fresh_agg ?_ | with_reducible exact fresh_nilA | with_reducible refine fresh_consA ?_ ?_)); done)
      | exact rfl
      ))
      | ((conv => whnf) <;> (first
      | (with_reducible refine and_same ?_)
      | (with_reducible refine and_side ?_ ?_)
      | ((with_reducible apply Br.yes) ; (focus omega))
      | ((with_reducible apply Br.no) ; (focus omega))
      | (with_reducible refine NOut.lit ?_)
      | (with_reducible refine lenR_sl ?_)
      ))
      )
    all_goals (conv => whnf)
    all_goals (try dsimp only)
    exact bad (.inr (.inl h2))
  repeat' (first
    | ((with_reducible refine Side.intro ?_) <;> (first
    | omega
    | exact Nat.le_of_ble_eq_true rfl
    | exact rfl
    ))
    | ((conv => whnf) <;> (first
    | (with_reducible refine and_same ?_)
    | (with_reducible refine and_side ?_ ?_)
    | ((with_reducible apply Br.yes) ; (focus omega))
    | ((with_reducible apply Br.no) ; (focus omega))
    | ((with_reducible apply blkAt_step) ; (focus (first
    | exact rfl
    )) ; (focus (first | rfl | assumption | omega)) ; (focus (first | rfl | assumption)) ; (try dsimp only))
    | (with_reducible refine lenR_sl ?_)
    ))
    )
  all_goals (conv => whnf)
  all_goals (try dsimp only)
  have hR := rRight_ok g ((s.length / 64 : Nat) : Int) (by omega)
  have eL : ((bs s).length : Int) / 64 = ((s.length / 64 : Nat) : Int) := by omega
  rw [eL]
  by_cases h3 : rightG g ((s.length / 64 : Nat) : Int)
  · rw [decide_eq_true h3] at hR
    refine call_one hR (.cons (hLg _ g) (.cons (Looks.int _ _ _) .nil)) rfl fun σ1 hg1 => ?_
    have b1 := hg1.2 0 _ get_new (by simp)
    have nb : ¬ rdBad g s := by
      rintro (q | q | q)
      · exact h1 q
      · exact h2 q
      · exact q h3
    have h4 := h3
    unfold rightG at h4
    have hMl : (rdM g s).length = 64 := by simp [rdM]; omega
    have eM : List.drop (64 * g.Mark).toNat (List.take (64 * (g.Mark + 1)).toNat (bs s)) = bs (rdM g s) := by
      rw [bs_take, bs_drop]
      congr 1
      rw [List.drop_take, rdM]
      congr 1
      · omega
      · congr 1; omega
    repeat' (first
      | ((with_reducible refine Side.intro ?_) <;> (first
      | omega
      ))
      | ((conv => whnf) <;> (first
      | (with_reducible refine and_same ?_)
      | (with_reducible refine and_side ?_ ?_)
      | ((with_reducible apply Br.yes) ; (focus omega))
      | ((with_reducible apply blkAt_step) ; (focus (first
      | ((repeat (first
      | assumption
      )); done)
      )) ; (focus (first | rfl | assumption | omega)) ; (focus (first | rfl | assumption)) ; (try dsimp only))
      | (with_reducible refine SliceW.of ?_)
      ))
      )
    all_goals (conv => whnf)
    all_goals (try dsimp only)
    rw [eM]
    have hZ := ref_Zero_ok (rdM g s) (by omega)
    by_cases h5 : rdZero g s = true
    · have h5' : (rdM g s).all (· == 0) = true := h5
      rw [h5'] at hZ
      refine call_one hZ (.cons (.bs _ _ _) .nil) rfl fun σ2 hg2 => ?_
      repeat' (first
        | ((with_reducible refine Side.intro ?_) <;> (first
        | (simp only [List.append_nil, List.nil_append, List.map_nil]; first | exact List.nodup_nil | exact nodup_bid1 _ | exact nodup_bid2 (by assumption))
        | ((first | refine fresh_tup ?_ | skip); (repeat (first | exact fresh_chg _ |  exact FreshA.sl _ _ FreshA_bs | exact FreshA.sl _ _ FreshA_is | exact FreshA.nils | exact FreshA.nilp | exact FreshA.int _ _ | exact FreshA.bool _ | exact FreshA.str _ | exact fresh_nil | refine fresh_cons ?_ ?_ | with_reducible refine fresh_aggR ?_ | with_reducible refine fresh_agg ?_ | with_reducible exact fresh_nilA | with_reducible refine fresh_consA ?_ ?_)); done)
        ))
        | ((conv => whnf) <;> (first
        | (with_reducible refine and_side ?_ ?_)
        | (with_reducible refine NOut.lit ?_)
        ))
        )
      all_goals (conv => whnf)
      all_goals (try dsimp only)
      exact none 0 (by unfold rdE; rw [if_neg nb, if_pos h5]) (by unfold rdR; rw [if_neg nb, if_pos h5])
    · have h5' : (rdM g s).all (· == 0) = false := by rw [Bool.not_eq_true] at h5; exact h5
      rw [h5'] at hZ
      refine call_one hZ (.cons (.bs _ _ _) .nil) rfl fun σ2 hg2 => ?_
      have b2 := hg2.2 0 _ b1 (by simp)
      skip
      all_goals (conv => whnf)
      all_goals (try dsimp only)
      refine call_two (ref_Get_ok (rdM g s) 0 (by omega)) (.cons (.bs _ _ _) (.cons (Looks.int _ _ _) .nil)) rfl rfl fun σ3 hg3 => ?_
      have b3 := hg3.2 0 _ b2 (by simp)
      have hN : getV (rdM g s) 0 = rdN g s := rfl
      rw [hN]
      have corrupt : ¬ rdOk g s → ∃ y0, NilR (.tup [.nils, .int .i64 7]) y0 ∧ y0 = .tup [.sl 2 (chg true (rdR g s)) true, .int .i64 (rdE g s)] := fun q => none 7 (by unfold rdE; rw [if_neg nb, if_neg h5, if_neg q]) (by unfold rdR; rw [if_neg nb, if_neg h5, if_neg q])
      have fine : rdOk g s → rdE g s = 0 ∧ rdR g s = rdL s g.First.toNat (rdN g s) := fun q => ⟨by unfold rdE; rw [if_neg nb, if_neg h5, if_pos q], by unfold rdR; rw [if_neg nb, if_neg h5, if_pos q]⟩
      have hnl := getV_bd (rdM g s) 0
      rw [hN] at hnl
      unfold rdOk at corrupt fine
      clear none bad
      generalize rdN g s = n at *
      by_cases h6 : (n : Int) < 1 ∨ g.Room < n
      · repeat' (first
          | ((with_reducible refine Side.intro ?_) <;> (first
          | (simp only [List.append_nil, List.nil_append, List.map_nil]; first | exact List.nodup_nil | exact nodup_bid1 _ | exact nodup_bid2 (by assumption))
          | ((first | refine fresh_tup ?_ | skip); (repeat (first | exact fresh_chg _ |  exact FreshA.sl _ _ FreshA_bs | exact FreshA.sl _ _ FreshA_is | exact FreshA.nils | exact FreshA.nilp | exact FreshA.int _ _ | exact FreshA.bool _ | exact FreshA.str _ | exact fresh_nil | refine fresh_cons ?_ ?_ | with_reducible refine fresh_aggR ?_ | with_reducible refine fresh_agg ?_ | with_reducible exact fresh_nilA | with_reducible refine fresh_consA ?_ ?_)); done)
          ))
          | ((conv => whnf) <;> (first
          | (with_reducible refine and_same ?_)
          | (with_reducible refine and_side ?_ ?_)
          | ((with_reducible apply Br.yes) ; (focus omega))
          | (with_reducible refine Br.mk (fun _ => ?_) (fun _ => ?_))
          | ((with_reducible apply blkAt_step) ; (focus (first
          | ((repeat (first
          | assumption
          )); done)
          )) ; (focus (first | rfl | assumption | omega)) ; (focus (first | rfl | assumption)) ; (try dsimp only))
          | (with_reducible refine NOut.lit ?_)
          ))
          )
        all_goals (conv => whnf)
        all_goals (try dsimp only)
        all_goals exact corrupt (by omega)
      · obtain ⟨f, hf⟩ := Int.eq_ofNat_of_zero_le h4.2.2.1
        have hfT : g.First.toNat = f := by omega
        have hfT2 : (g.First * 64).toNat = 64 * f := by omega
        rw [hfT] at corrupt fine
        have hroom : 64 * f + 128 * n ≤ s.length := by omega
        have eR : List.drop (64 * g.First).toNat (List.take (64 * (g.First + 2 * (n : Int))).toNat (bs s)) = bs ((s.drop (64 * f)).take (128 * n)) := by
          rw [bs_take, bs_drop]
          congr 1
          rw [List.drop_take]
          congr 1
          · omega
          · congr 1; omega
        have hbl : ((s.drop (64 * f)).take (128 * n)).length = 128 * n := by rw [List.length_take, List.length_drop]; omega
        have hbb := bs_length ((s.drop (64 * f)).take (128 * n))
        repeat' (first
          | ((with_reducible refine Side.intro ?_) <;> (first
          | omega
          ))
          | ((conv => whnf) <;> (first
          | (with_reducible refine and_same ?_)
          | (with_reducible refine and_side ?_ ?_)
          | ((with_reducible apply Br.yes) ; (focus omega))
          | ((with_reducible apply Br.no) ; (focus omega))
          | ((with_reducible apply blkAt_step) ; (focus (first
          | ((repeat (first
          | assumption
          )); done)
          )) ; (focus (first | rfl | assumption | omega)) ; (focus (first | rfl | assumption)) ; (try dsimp only))
          | (with_reducible refine SliceW.of ?_)
          ))
          )
        all_goals (conv => whnf)
        all_goals (try dsimp only)
        rw [eR]
        generalize hb : (s.drop (64 * f)).take (128 * n) = b at *
        refine loop_at (α := Nat × AV × AH) (fun q => [(11, q.2.1), (12, .int .i64 q.1)]) (fun q => q.2.2)
          (fun q => q.1 ≤ n ∧ Own q.2.2 2 q.2.1 (chg true (rdL s f q.1)) ∧ q.2.2[0]? = some { sz := 3, els := [logR g], gen := 0, wr := true, pure := true } ∧ ∀ id, q.2.1.bid = some id → 0 < id) (fun q => n - q.1) (0, .nils, σ3) ⟨Nat.zero_le _, Own.nil _ _, b3, (fun id e => by cases e)⟩ rfl rfl ?_
        rintro ⟨i, acc, τ⟩ ⟨hi, hacc, hbx, h0⟩
        dsimp only at hi hacc hbx h0 ⊢
        have hcl : (chg true (rdL s f i)).length = i := by rw [chg_length, rdL_length]
        by_cases hlt : i < n
        · have eX : List.drop (128 * (i : Int)).toNat (List.take (128 * ((i : Int) + 1)).toNat (bs b)) = bs (rdX s f i) := by
            rw [bs_take, bs_drop]
            congr 1
            rw [← hb, List.drop_take, List.drop_take, List.drop_drop, List.take_take, rdX]
            congr 1 <;> first | omega | (congr 1; omega)
          have hxl : (rdX s f i).length = 128 := rdX_len (by omega)
          have hxb := bs_length (rdX s f i)
          repeat' (first
            | ((with_reducible refine Side.intro ?_) <;> (first
            | omega
            ))
            | ((conv => whnf) <;> (first
            | (with_reducible refine and_same ?_)
            | (with_reducible refine and_side ?_ ?_)
            | ((with_reducible apply Br.yes) ; (focus omega))
            | (with_reducible refine SliceW.of ?_)
            ))
            )
          all_goals (conv => whnf)
          all_goals (try dsimp only)
          rw [eX]
          refine call_two (ref_Get_ok (rdX s f i) 0 (by omega)) (.cons (.bs _ _ _) (.cons (Looks.int _ _ _) .nil)) rfl rfl fun σ4 hg4 => ?_
          replace hacc := hacc.keepN hg4
          have hbx4 := hg4.2 0 _ hbx (by simp)
          have h0l := (List.getElem?_eq_some_iff.1 hbx4).1
          repeat' (first
            | ((with_reducible refine Side.intro ?_) <;> (first
            | omega
            | exact Nat.le_of_ble_eq_true rfl
            | (simp only [bs_length, List.length_append, List.length_cons, List.length_nil, List.length_take, List.length_drop, List.length_set, List.length_replicate]; omega)
            | exact rfl
            ))
            | ((conv => whnf) <;> (first
            | (with_reducible refine and_same ?_)
            | (with_reducible refine and_side ?_ ?_)
            | ((with_reducible apply blkAt_step) ; (focus (first
            | ((repeat (first
            | exact get_new
            | exact get_set get_new
            | apply get_old
            )); done)
            )) ; (focus (first | rfl | assumption | omega)) ; (focus (first | rfl | assumption)) ; (try dsimp only))
            | ((with_reducible apply appendR_lit) ; (focus (first
            | ((repeat (first
            | exact get_new
            )); done)
            )) ; (focus (first | rfl | assumption)) ; (focus (first | rfl | assumption)) ; (focus rfl) ; (focus rfl) ; (focus rfl) ; (focus (first | exact Nat.zero_le _ | omega | (simp; done) | (simp; omega))) ; (try dsimp only))
            | (with_reducible refine SliceW.of ?_)
            | (with_reducible refine AppC.frz ?_)
            | (with_reducible refine rowsR_sl ?_)
            | (with_reducible refine rowsR_rsl ?_)
            ))
            )
          all_goals (conv => whnf)
          all_goals (try dsimp only)
          have eY : List.drop (Int.toNat 64) (List.take ((bs (rdX s f i)).length : Int).toNat (bs (rdX s f i))) = bs ((rdX s f i).drop 64) := by
            rw [hxb, Int.toNat_natCast, bs_take, List.take_length, bs_drop]; rfl
          rw [eY]
          refine appendR_own (rows := chg true (rdL s f i)) (hacc.keepN (by (repeat (first
                | exact Gr.refl _ _
                | refine Gr.setNew ?_ (by first | exact Nat.le_refl _ | (simp only [newB_length, List.length_set, List.length_append, List.length_singleton]; omega) | omega) _
                | refine Gr.addN ?_ _
                )))) (by rw [hcl]; simp only [List.length_cons, List.length_nil]; omega) ?_
          intro acc' σ' ho' hg' hb'
          have hbx5 : σ'[0]? = some { sz := 3, els := [logR g], gen := 0, wr := true, pure := true } := hg'.2 _ _ (get_set_ne (by omega) (get_old (get_set_ne (by omega) (get_old hbx4)))) (fun e => Nat.lt_irrefl _ (h0 _ e))
          repeat' (first
            | ((conv => whnf) <;> (first
            | (with_reducible refine and_same ?_)
            | ((with_reducible apply Br.yes) ; (focus omega))
            ))
            )
          all_goals (conv => whnf)
          all_goals (try dsimp only)
          refine ⟨(i + 1, acc', σ'), rfl, rfl, ⟨hlt, ?_, hbx5, ?_⟩, by dsimp only; omega⟩
          · dsimp only
            rw [rdL_succ, chg_append]
            simpa [chg, rdP] using ho'
          · dsimp only
            intro id e
            rcases hb' with q | q
            · exact h0 id (q.symm.trans e)
            · rw [q] at e
              simp only [List.length_set, newB_length] at e
              cases e
              omega
        · have ei : i = n := by omega
          subst ei
          have hlk : Looks τ acc (.sl 2 (chg false (rdL s f i)) false) := Looks.ownchg hacc
          have hRl := rdL_length s f i
          have hcI : ∀ p, p ∈ rdL s f i → inI2 p.1 := fun p hp => by
            obtain ⟨j, _, rfl⟩ := List.mem_map.1 hp
            have := getV_bd (rdX s f j) 0
            unfold inI2 rdP
            dsimp only
            omega
          have hRL := ref_Right_ok ((s.length / 64 : Nat) : Int) (rdL s f i) (by omega)
          have hFo := foreign_ok g (rdL s f i) (by omega) hcI
          by_cases h7 : rightB ((s.length / 64 : Nat) : Int) (rdL s f i) = true
          · rw [h7] at hRL
            have hti := told_iff (m := rdM g s) (s := s) (by omega) h3 h7 (by omega)
            rw [hRl, hfT2, hb] at hti
            repeat' (first
              | ((conv => whnf) <;> (first
              | (with_reducible refine and_same ?_)
              | ((with_reducible apply Br.no) ; (focus omega))
              ))
              )
            all_goals (conv => whnf)
            all_goals (try dsimp only)
            refine call_one hRL (.cons (Looks.int _ _ _) (.cons hlk .nil)) rfl fun σ4 hg4 => ?_
            have hbx4 := hg4.2 0 _ hbx (by simp)
            replace hacc := hacc.keepN hg4
            have hlk4 : Looks σ4 acc (.sl 2 (chg false (rdL s f i)) false) := Looks.ownchg hacc
            repeat' (first
              | ((with_reducible refine Side.intro ?_) <;> (first
              | exact Nat.le_of_ble_eq_true rfl
              ))
              | ((conv => whnf) <;> (first
              | (with_reducible refine and_side ?_ ?_)
              | ((with_reducible apply blkAt_step) ; (focus (first
              | ((repeat (first
              | assumption
              )); done)
              )) ; (focus (first | rfl | assumption | omega)) ; (focus (first | rfl | assumption)) ; (try dsimp only))
              ))
              )
            all_goals (conv => whnf)
            all_goals (try dsimp only)
            by_cases h8 : hasMine g (rdL s f i)
            · rw [decide_eq_true h8] at hFo
              refine call_one hFo (.cons (hLg _ g) (.cons hlk4 .nil)) rfl fun σ5 hg5 => ?_
              repeat' (first
                | ((with_reducible refine Side.intro ?_) <;> (first
                | (simp only [List.append_nil, List.nil_append, List.map_nil]; first | exact List.nodup_nil | exact nodup_bid1 _ | exact nodup_bid2 (by assumption))
                | ((first | refine fresh_tup ?_ | skip); (repeat (first | exact fresh_chg _ |  exact FreshA.sl _ _ FreshA_bs | exact FreshA.sl _ _ FreshA_is | exact FreshA.nils | exact FreshA.nilp | exact FreshA.int _ _ | exact FreshA.bool _ | exact FreshA.str _ | exact fresh_nil | refine fresh_cons ?_ ?_ | with_reducible refine fresh_aggR ?_ | with_reducible refine fresh_agg ?_ | with_reducible exact fresh_nilA | with_reducible refine fresh_consA ?_ ?_)); done)
                ))
                | ((conv => whnf) <;> (first
                | (with_reducible refine and_side ?_ ?_)
                | (with_reducible refine NOut.lit ?_)
                ))
                )
              all_goals (conv => whnf)
              all_goals (try dsimp only)
              exact corrupt fun q => (hti.1 q.2.2.2).1 h8
            · rw [decide_eq_false h8] at hFo
              refine call_one hFo (.cons (hLg _ g) (.cons hlk4 .nil)) rfl fun σ5 hg5 => ?_
              replace hacc := hacc.keepN hg5
              have hlk5 : Looks σ5 acc (.sl 2 (chg false (rdL s f i)) false) := Looks.ownchg hacc
              have hrm : ∀ p, p ∈ rdL s f i → mayW p.1 = true ∧ p.2.length ≤ 1048576 := fun p hp => by
                have := right_line h7 hp
                exact ⟨by unfold mayW; rw [decide_eq_true_iff]; omega, by omega⟩
              repeat' (first
                | ((conv => whnf) <;> (first
                | (with_reducible refine rowsR_sl ?_)
                | ((with_reducible apply bytesR_intro) ; (focus (first | rfl | (simp only [bs_take, bs_drop, bs_append]; rfl))))
                ))
                )
              all_goals (conv => whnf)
              all_goals (try dsimp only)
              refine call_sl (records_ok (rdL s f i) (by omega) hrm) (.cons hlk5 .nil) fun σ6 y hg6 hy hny => ?_
              replace hacc := hacc.keepN hg6
              have hMk := mark_ok i b (by omega) (by omega)
              by_cases h9 : recsB (rdL s f i) = b
              · have h9' : ¬ (recsB (rdL s f i) ≠ b) := fun q => q h9
                repeat' (first
                  | ((conv => whnf) <;> (first
                  | ((with_reducible apply Br.no) ; (focus omega))
                  | ((with_reducible apply rowsR_own) ; (focus assumption))
                  | (with_reducible refine rowsR_sl ?_)
                  | ((with_reducible apply bytesR_intro) ; (focus (first | rfl | (simp only [bs_take, bs_drop, bs_append]; rfl))))
                  ))
                  )
                all_goals (conv => whnf)
                all_goals (try dsimp only)
                refine call_sl hMk (.cons (Looks.int _ _ _) (.cons (.bs _ _ _) .nil)) fun σ7 z hg7 hz hnz => ?_
                replace hacc := hacc.keepN hg7
                rw [h9] at hti
                by_cases h10 : markB i b = rdM g s
                · have h10' : ¬ (markB i b ≠ rdM g s) := fun q => q h10
                  obtain ⟨f1, f2⟩ := fine ⟨by omega, by omega, h7, hti.2 ⟨h8, rfl, h10⟩⟩
                  rw [f1, f2]
                  repeat' (first
                    | ((with_reducible refine Side.intro ?_) <;> (first
                    | (simp only [List.append_nil, List.nil_append, List.map_nil]; first | exact List.nodup_nil | exact nodup_bid1 _ | exact nodup_bid2 (by assumption))
                    | ((first | refine fresh_tup ?_ | skip); (repeat (first | exact fresh_chg _ |  exact FreshA.sl _ _ FreshA_bs | exact FreshA.sl _ _ FreshA_is | exact FreshA.nils | exact FreshA.nilp | exact FreshA.int _ _ | exact FreshA.bool _ | exact FreshA.str _ | exact fresh_nil | refine fresh_cons ?_ ?_ | with_reducible refine fresh_aggR ?_ | with_reducible refine fresh_agg ?_ | with_reducible exact fresh_nilA | with_reducible refine fresh_consA ?_ ?_)); done)
                    ))
                    | ((conv => whnf) <;> (first
                    | (with_reducible refine and_side ?_ ?_)
                    | ((with_reducible apply Br.no) ; (focus omega))
                    | ((with_reducible apply rowsR_own) ; (focus assumption))
                    | ((with_reducible apply NOut.own) ; (focus assumption))
                    | (with_reducible refine NOut.lit ?_)
                    | ((with_reducible apply bytesR_intro) ; (focus (first | rfl | (simp only [bs_take, bs_drop, bs_append]; rfl))))
                    ))
                    )
                  all_goals (conv => whnf)
                  all_goals (try dsimp only)
                  exact ret_same rfl
                · have h10' : markB i b ≠ rdM g s := h10
                  repeat' (first
                    | ((with_reducible refine Side.intro ?_) <;> (first
                    | (simp only [List.append_nil, List.nil_append, List.map_nil]; first | exact List.nodup_nil | exact nodup_bid1 _ | exact nodup_bid2 (by assumption))
                    | ((first | refine fresh_tup ?_ | skip); (repeat (first | exact fresh_chg _ |  exact FreshA.sl _ _ FreshA_bs | exact FreshA.sl _ _ FreshA_is | exact FreshA.nils | exact FreshA.nilp | exact FreshA.int _ _ | exact FreshA.bool _ | exact FreshA.str _ | exact fresh_nil | refine fresh_cons ?_ ?_ | with_reducible refine fresh_aggR ?_ | with_reducible refine fresh_agg ?_ | with_reducible exact fresh_nilA | with_reducible refine fresh_consA ?_ ?_)); done)
                    ))
                    | ((conv => whnf) <;> (first
                    | (with_reducible refine and_side ?_ ?_)
                    | ((with_reducible apply Br.yes) ; (focus omega))
                    | ((with_reducible apply rowsR_own) ; (focus assumption))
                    | (with_reducible refine NOut.lit ?_)
                    | ((with_reducible apply bytesR_intro) ; (focus (first | rfl | (simp only [bs_take, bs_drop, bs_append]; rfl))))
                    ))
                    )
                  all_goals (conv => whnf)
                  all_goals (try dsimp only)
                  exact corrupt fun q => h10 (hti.1 q.2.2.2).2.2
              · have h9' : recsB (rdL s f i) ≠ b := h9
                repeat' (first
                  | ((with_reducible refine Side.intro ?_) <;> (first
                  | (simp only [List.append_nil, List.nil_append, List.map_nil]; first | exact List.nodup_nil | exact nodup_bid1 _ | exact nodup_bid2 (by assumption))
                  | ((first | refine fresh_tup ?_ | skip); (repeat (first | exact fresh_chg _ |  exact FreshA.sl _ _ FreshA_bs | exact FreshA.sl _ _ FreshA_is | exact FreshA.nils | exact FreshA.nilp | exact FreshA.int _ _ | exact FreshA.bool _ | exact FreshA.str _ | exact fresh_nil | refine fresh_cons ?_ ?_ | with_reducible refine fresh_aggR ?_ | with_reducible refine fresh_agg ?_ | with_reducible exact fresh_nilA | with_reducible refine fresh_consA ?_ ?_)); done)
                  ))
                  | ((conv => whnf) <;> (first
                  | (with_reducible refine and_side ?_ ?_)
                  | ((with_reducible apply Br.yes) ; (focus omega))
                  | ((with_reducible apply rowsR_own) ; (focus assumption))
                  | (with_reducible refine NOut.lit ?_)
                  | ((with_reducible apply bytesR_intro) ; (focus (first | rfl | (simp only [bs_take, bs_drop, bs_append]; rfl))))
                  ))
                  )
                all_goals (conv => whnf)
                all_goals (try dsimp only)
                exact corrupt fun q => h9 (hti.1 q.2.2.2).2.1
          · rw [Bool.not_eq_true] at h7
            rw [h7] at hRL
            repeat' (first
              | ((conv => whnf) <;> (first
              | (with_reducible refine and_same ?_)
              | ((with_reducible apply Br.no) ; (focus omega))
              ))
              )
            all_goals (conv => whnf)
            all_goals (try dsimp only)
            refine call_one hRL (.cons (Looks.int _ _ _) (.cons hlk .nil)) rfl fun σ4 hg4 => ?_
            repeat' (first
              | ((with_reducible refine Side.intro ?_) <;> (first
              | (simp only [List.append_nil, List.nil_append, List.map_nil]; first | exact List.nodup_nil | exact nodup_bid1 _ | exact nodup_bid2 (by assumption))
              | ((first | refine fresh_tup ?_ | skip); (repeat (first | exact fresh_chg _ |  exact FreshA.sl _ _ FreshA_bs | exact FreshA.sl _ _ FreshA_is | exact FreshA.nils | exact FreshA.nilp | exact FreshA.int _ _ | exact FreshA.bool _ | exact FreshA.str _ | exact fresh_nil | refine fresh_cons ?_ ?_ | with_reducible refine fresh_aggR ?_ | with_reducible refine fresh_agg ?_ | with_reducible exact fresh_nilA | with_reducible refine fresh_consA ?_ ?_)); done)
              ))
              | ((conv => whnf) <;> (first
              | (with_reducible refine and_side ?_ ?_)
              | (with_reducible refine NOut.lit ?_)
              ))
              )
            all_goals (conv => whnf)
            all_goals (try dsimp only)
            exact corrupt (fun q => by rw [h7] at q; cases q.2.2.1)
  · rw [decide_eq_false h3] at hR
    refine call_one hR (.cons (hLg _ g) (.cons (Looks.int _ _ _) .nil)) rfl fun σ1 hg1 => ?_
    repeat' (first
      | ((with_reducible refine Side.intro ?_) <;> (first
      | (simp only [List.append_nil, List.nil_append, List.map_nil]; first | exact List.nodup_nil | exact nodup_bid1 _ | exact nodup_bid2 (by assumption))
      | ((first | refine fresh_tup ?_ | skip); (repeat (first | exact fresh_chg _ |  exact FreshA.sl _ _ FreshA_bs | exact FreshA.sl _ _ FreshA_is | exact FreshA.nils | exact FreshA.nilp | exact FreshA.int _ _ | exact FreshA.bool _ | exact FreshA.str _ | exact fresh_nil | refine fresh_cons ?_ ?_ | with_reducible refine fresh_aggR ?_ | with_reducible refine fresh_agg ?_ | with_reducible exact fresh_nilA | with_reducible refine fresh_consA ?_ ?_)); done)
      ))
      | ((conv => whnf) <;> (first
      | (with_reducible refine and_side ?_ ?_)
      | (with_reducible refine NOut.lit ?_)
      ))
      )
    all_goals (conv => whnf)
    all_goals (try dsimp only)
    exact bad (.inr (.inr h3))
end Go.Proofs.Ytppccaacbpkgiaa

namespace Go.Proofs.Ytppccaacbpkgiaa
open Go Go.Proofs.Ytppccaacbpkgiaa.V Go.Sort
/-! ### slices.Sort at []int, by the kit's contract -/
def srt (l : List Int) : List Int := l.mergeSort fun x y => decide (x ≤ y)
theorem srt_perm (l : List Int) : (srt l).Perm l := List.mergeSort_perm _ _
theorem srt_length (l : List Int) : (srt l).length = l.length := (srt_perm l).length_eq
theorem srt_sorted (l : List Int) : (srt l).Pairwise (· ≤ ·) := by
  have h := List.pairwise_mergeSort (le := fun x y : Int => decide (x ≤ y)) (by intro a b c; simp; omega) (by intro a b; simp; omega) l
  exact h.imp (by simp)
theorem flat_is (l : List Int) : (is l).flatten = l.map (AV.int .i64) := by
  induction l with
  | nil => rfl
  | cons a r ih => simp only [is, List.map_cons, List.flatten_cons, List.singleton_append] at ih ⊢; rw [ih]
theorem repVL_ints [Zone] {w : World} {W : Nat → Prop} : ∀ {l : List Int} {cs : List Value} {t : List AV}, RepVL w W cs (l.map (AV.int .i64) ++ t) → cs.take l.length = l.map (Value.int .i64) ∧ RepVL w W (cs.drop l.length) t
  | [], cs, t, h => ⟨by simp, by simpa using h⟩
  | a :: l, _, t, .cons hv ht => by
    obtain ⟨h1, h2⟩ := repVL_ints (l := l) ht
    cases hv
    exact ⟨by simp [h1], by simpa using h2⟩
theorem ints_repVL [Zone] {w : World} {W : Nat → Prop} : ∀ (l : List Int) {cs : List Value} {t : List AV}, RepVL w W cs t → RepVL w W (l.map (Value.int .i64) ++ cs) (l.map (AV.int .i64) ++ t)
  | [], _, _, h => h
  | a :: l, _, _, h => .cons (.int .i64 a) (ints_repVL l h)
theorem sort_own {P : Program} {ρ : Go.Shelf.Ren} (Ly : Lays.n189 P ρ) (hB : Bodied P (ρ.f 189)) {σ : AH} {x : AV} {l : List Int} (h : Own σ 1 x (is l)) (hne : l ≠ []) (hl : l.length ≤ 1048576) {Q : AV → AH → Prop}
    (hQ : ∀ id gen sp, x = .rsl id gen 0 l.length none → σ[id]? = some { sz := 1, els := is l ++ sp, gen := gen, wr := true, pure := true } → Q (.tup []) (σ.set id { sz := 1, els := is (srt l) ++ sp, gen := gen, wr := true, pure := true })) : CallS P (ρ.f 189) [x] σ Q := by
  refine ⟨hB, fun z w E cs hr hrep => ?_⟩
  obtain ⟨id, gen, sp, rfl, hb⟩ := h.ne (by intro e; exact hne (by simpa [is] using e))
  rw [is_length] at hrep
  cases hrep with
  | cons hv t =>
  cases t
  obtain ⟨m, hm, hok'⟩ := hr.blk id _ hb
  have hok := hok'.cells rfl
  have hs' := hv.rsl_inv hm (hok.1) hok.pos
  obtain ⟨k1, k2, k3, k4, k5, k6⟩ := (show BlkOk w E _ m from hok)
  unfold RslOk at hs'
  have hlp : 0 < l.length := List.length_pos_iff.2 hne
  split at hs'
  · omega
  · rename_i g c hp
    rw [hp] at k6
    obtain ⟨⟨k7, k7'⟩, k8, cur, e, lo, hi, k9, k10, k11, k12, k13⟩ := k6
    simp only [if_true] at k13
    obtain ⟨a, k, rfl, h1, h2, h3, h4⟩ := hs'
    have ha := h3 (by omega)
    rw [Nat.zero_mul] at ha
    subst ha
    have hfl : (is l ++ sp).flatten = l.map (AV.int .i64) ++ sp.flatten := by rw [List.flatten_append, flat_is]
    have hfl' : (is (srt l) ++ sp).flatten = (srt l).map (AV.int .i64) ++ sp.flatten := by rw [List.flatten_append, flat_is]
    have k10' : cur.size = c := by rw [k10]; exact Nat.mul_one _
    have hfn : (is (srt l) ++ sp).flatten.length = (is l ++ sp).flatten.length := by rw [hfl, hfl']; simp [srt_length]
    rw [hfl] at k13
    obtain ⟨q1, q2⟩ := repVL_ints k13
    have hsz : l.length ≤ cur.size := by simp only [List.length_append, is_length] at k7; omega
    have hgl : g < w.heap.size := hr.place_lt hm hp
    have hH : Holds (Value.int .i64) w g 0 l.toArray := by
      intro j hj
      have hj' : j < l.length := by simpa using hj
      have e1 : cur[j]? = some (.int .i64 l[j]) := by
        rw [← Array.getElem?_toList]
        have := congrArg (fun z => z[j]?) q1
        simp only [List.getElem?_map, List.getElem?_eq_getElem hj', Option.map_some] at this
        rw [← this, List.getElem?_take_of_lt hj', List.getElem?_take_of_lt (by simp only [List.length_append, List.length_map]; omega)]
      refine ⟨?_, ?_⟩
      · simp only [World.cell?, k9, Nat.zero_add]
        simpa [hj'] using e1
      · simp only [World.frozen?, k9, Nat.zero_add]
        rcases k11 with h | ⟨h, h'⟩
        · simp; omega
        · simp [h, h']
    refine (Any.slices_Sort_int Ly g 0 k l w hH hgl (by omega)).mono ?_
    rintro e1 w' ⟨rfl, n, os, rfl⟩
    have hw1 := write_block (w' := putRow (Value.int .i64) (Sort.ahead w n) g 0 (srt l).toArray) hr hb hm hok rfl hp (cur' := putCells (Value.int .i64) 0 (srt l).toArray cur) (lo' := lo) (hi' := hi) k9 ?_ ?_ (fun h => h) ?_ rfl rfl rfl ?_ (b' := { sz := 1, els := is (srt l) ++ sp, gen := gen, wr := true, pure := true }) rfl rfl rfl rfl ?_ ?_ ?_ ?_ ?_
    · obtain ⟨s1, r1⟩ := hw1
      obtain ⟨s2, r2⟩ := Rel.calm r1 (w' := grow (putRow (Value.int .i64) (Sort.ahead w n) g 0 (srt l).toArray) os) ⟨fun k hk => heap_grow_old _ _ hk, by simp, rfl, rfl, rfl⟩
      exact ⟨_, E, .tup [], _, rfl, .tup _ _ .nil, r2, s1.trans s2, hQ id gen sp (by rw [is_length]) hb⟩
    · have := heap_sortedI (n := n) (os := #[]) (srt l).toArray k9
      simpa using this
    · simp [putCells]
    · intro k hk
      simp [putRow, mapBlock, Sort.ahead, Array.getElem?_modify, Ne.symm hk]
    · simp [putRow, mapBlock, Sort.ahead]
    · intro r hr'
      rcases List.mem_append.1 hr' with q | q
      · obtain ⟨a, _, rfl⟩ := List.mem_map.1 q; rfl
      · exact k5 r (List.mem_append_right _ q)
    · simpa [is_length, srt_length] using k7
    · intro q; cases q
    · intro v hv'
      simp only [putCells, Array.mem_toList_iff, Array.mem_mapIdx] at hv'
      obtain ⟨j, hj, rfl⟩ := hv'
      split
      · rfl
      · exact k12 _ (by simp)
    · simp only [if_true]
      rw [hfn, hfl', hfl]
      have e2 : (putCells (Value.int .i64) 0 (srt l).toArray cur).toList = (srt l).map (Value.int .i64) ++ cur.toList.drop l.length := by
        apply List.ext_getElem?
        intro j
        by_cases hj : j < l.length
        · rw [List.getElem?_append_left (by simpa [srt_length] using hj)]
          rw [List.getElem?_eq_getElem (by simp [putCells]; omega), List.getElem?_eq_getElem (by simpa [srt_length] using hj)]
          simp [putCells, srt_length, hj]
        · rw [List.getElem?_append_right (by simp [srt_length]; omega), List.getElem?_drop]
          simp only [List.length_map, srt_length]
          rw [show l.length + (j - l.length) = j by omega]
          simp [putCells, srt_length, Array.getElem?_mapIdx, hj]
      rw [e2, List.take_append, List.length_map, srt_length]
      rw [List.drop_take] at q2
      simp only [List.length_append, List.length_map] at q2 ⊢
      rw [Nat.add_sub_cancel_left] at q2 ⊢
      rw [List.take_of_length_le (by simp [srt_length])]
      exact ints_repVL _ q2
theorem sort_call {P : Program} {ρ : Go.Shelf.Ren} (Ly : Lays.n189 P ρ) (hB : Bodied P (ρ.f 189)) {σ : AH} {x : AV} {l : List Int} (h : Own σ 1 x (is l)) (hl : l.length ≤ 1048576) {Q : AV → AH → Prop}
    (hQ : ∀ σ', Gr σ σ' x.bid → Own σ' 1 x (is (srt l)) → Q (.tup []) σ') : CallS P (ρ.f 189) [x] σ Q := by
  by_cases hne : l = []
  · subst hne
    refine ⟨hB, fun z w E cs hr hrep => ?_⟩
    cases hrep with
    | cons hv t =>
    rename_i v vs
    cases t
    have hv' : ∃ p c, v = .slice p 0 c := by
      rcases h with ⟨rfl, _⟩ | ⟨id, gen, sp, rfl, hb⟩
      · exact ⟨none, 0, hv.nils_inv⟩
      · obtain ⟨m, hm, hok'⟩ := hr.blk id _ hb
        have hok := hok'.cells rfl
        have hs' := hv.rsl_inv hm (hok.1) hok.pos
        unfold RslOk at hs'
        split at hs'
        · rcases hs'.1 with h | ⟨a, h⟩
          · exact ⟨_, _, h⟩
          · exact ⟨_, _, h⟩
        · obtain ⟨a, k, h, _⟩ := hs'
          exact ⟨_, _, h⟩
    obtain ⟨p, c, rfl⟩ := hv'
    refine (Any.slices_Sort_int_none Ly p c w).mono ?_
    rintro e1 w' ⟨rfl, rfl⟩
    exact ⟨_, E, .tup [], σ, rfl, .tup _ _ .nil, hr, Step.refl _ _, hQ σ (Gr.refl _ _) (by simpa [srt] using h)⟩
  · refine sort_own Ly hB h hne hl fun id gen sp e hb => hQ _ ?_ ?_
    · rw [e]; exact Gr.set _ _ _
    · rw [e, ← srt_length l]
      exact Own.mk' (get_set hb) (by rw [is_length]) rfl
end Go.Proofs.Ytppccaacbpkgiaa

namespace Go.Proofs.Ytppccaacbpkgiaa
open Go Go.Proofs.Ytppccaacbpkgiaa.V
set_option maxRecDepth 20000
attribute [local irreducible] CallS AOK AOKn ALoop Side Ref.ok
/-! ### A device: what it is, where it lies -/
structure Dv where
  L : List UInt8
  S : List UInt8
  es : List ME
  clock : Nat
  armed : Int
  down : Bool
structure DA where
  i : Nat
  il : Nat
  gl : Nat
  spl : List (List AV)
  is : Nat
  gs : Nat
  sps : List (List AV)
  im : Nat
def dbox (a : DA) (d : Dv) : Blk := { sz := 5, els := [[.rsl a.il a.gl 0 d.L.length none, .rsl a.is a.gs 0 d.S.length none, .rsl a.im 0 0 0 none, .int .i64 d.armed, .bool d.down]], gen := 0, wr := true, pure := false }
def DA.has (a : DA) (id : Nat) : Prop := id = a.i ∨ id = a.il ∨ id = a.is ∨ id = a.im
structure DevH (σ : AH) (a : DA) (d : Dv) : Prop where
  box : σ[a.i]? = some { sz := 5, els := [[.rsl a.il a.gl 0 d.L.length none, .rsl a.is a.gs 0 d.S.length none, .rsl a.im 0 0 0 none, .int .i64 d.armed, .bool d.down]], gen := 0, wr := true, pure := false }
  lasts : σ[a.il]? = some { sz := 1, els := bs d.L ++ a.spl, gen := a.gl, wr := true, pure := true }
  seen : σ[a.is]? = some { sz := 1, els := bs d.S ++ a.sps, gen := a.gs, wr := true, pure := true }
  map : σ[a.im]? = some (mblk d.es d.clock)
  ne : a.i ≠ a.il ∧ a.i ≠ a.is ∧ a.i ≠ a.im ∧ a.il ≠ a.is ∧ a.il ≠ a.im ∧ a.is ≠ a.im
/-- Blocks that are none of these stand. -/
def GrP (σ σ' : AH) (X : Nat → Prop) : Prop := σ.length ≤ σ'.length ∧ ∀ id b, σ[id]? = some b → ¬ X id → σ'[id]? = some b
theorem GrP.refl (σ : AH) (X : Nat → Prop) : GrP σ σ X := ⟨Nat.le_refl _, fun _ _ h _ => h⟩
theorem GrP.of {σ σ' : AH} (h : Gr σ σ' none) (X : Nat → Prop) : GrP σ σ' X := ⟨h.1, fun id b hb _ => h.2 id b hb (by simp)⟩
theorem GrP.trans {σ σ1 σ2 : AH} {X : Nat → Prop} (h : GrP σ σ1 X) (k : GrP σ1 σ2 X) : GrP σ σ2 X := ⟨Nat.le_trans h.1 k.1, fun id b hb hn => k.2 id b (h.2 id b hb hn) hn⟩
theorem GrP.set {σ : AH} {X : Nat → Prop} {id : Nat} (h : X id) (b : Blk) : GrP σ (σ.set id b) X := ⟨by simp, fun id' b' hb hn => by rw [List.getElem?_set_ne (fun e => hn (by rw [← e]; exact h))]; exact hb⟩
theorem GrP.setT {σ τ : AH} {X : Nat → Prop} (h : GrP σ τ X) {id : Nat} (hx : X id) (b : Blk) : GrP σ (τ.set id b) X := h.trans (.set hx b)
theorem GrP.add {σ τ : AH} {X : Nat → Prop} (h : GrP σ τ X) (r : AH) : GrP σ (τ ++ r) X := h.trans (.of (Gr.append _ _) _)
theorem GrP.new {σ τ : AH} {X : Nat → Prop} (h : GrP σ τ X) (sz : Nat) (els : List (List AV)) (p : Bool) : GrP σ (newB τ sz els p) X := h.add _
theorem GrP.setN {σ τ : AH} {X : Nat → Prop} (h : GrP σ τ X) {id : Nat} (hi : σ.length ≤ id) (b : Blk) : GrP σ (τ.set id b) X := by
  refine ⟨by simpa using h.1, fun id' b' hb hn => ?_⟩
  have hlt := (List.getElem?_eq_some_iff.1 hb).1
  rw [List.getElem?_set_ne (by omega)]
  exact h.2 id' b' hb hn
theorem DevH.lt {σ : AH} {a : DA} {d : Dv} (h : DevH σ a d) (id : Nat) (hx : a.has id) : id < σ.length := by
  rcases hx with rfl | rfl | rfl | rfl
  · exact (List.getElem?_eq_some_iff.1 h.box).1
  · exact (List.getElem?_eq_some_iff.1 h.lasts).1
  · exact (List.getElem?_eq_some_iff.1 h.seen).1
  · exact (List.getElem?_eq_some_iff.1 h.map).1
theorem DevH.keep {σ σ' : AH} {a : DA} {d : Dv} (h : DevH σ a d) {X : Nat → Prop} (hg : GrP σ σ' X) (hx : ∀ id, a.has id → ¬ X id) : DevH σ' a d :=
  ⟨hg.2 _ _ h.box (hx _ (.inl rfl)), hg.2 _ _ h.lasts (hx _ (.inr (.inl rfl))), hg.2 _ _ h.seen (hx _ (.inr (.inr (.inl rfl)))), hg.2 _ _ h.map (hx _ (.inr (.inr (.inr rfl)))), h.ne⟩
theorem DevH.keepN {σ σ' : AH} {a : DA} {d : Dv} (h : DevH σ a d) (hg : Gr σ σ' none) : DevH σ' a d := h.keep (GrP.of hg fun _ => False) fun _ _ => id
theorem DevH.setBox {σ : AH} {a : DA} {d : Dv} (h : DevH σ a d) (m : Int) (b : Bool) : DevH (σ.set a.i { sz := 5, els := [[.rsl a.il a.gl 0 d.L.length none, .rsl a.is a.gs 0 d.S.length none, .rsl a.im 0 0 0 none, .int .i64 m, .bool b]], gen := 0, wr := true, pure := false }) a { d with armed := m, down := b } := by
  obtain ⟨n1, n2, n3, n4, n5, n6⟩ := h.ne
  exact ⟨get_set h.box, get_set_ne n1 h.lasts, get_set_ne n2 h.seen, get_set_ne n3 h.map, h.ne⟩
theorem DevH.setL {σ : AH} {a : DA} {d : Dv} (h : DevH σ a d) (l : List UInt8) (hl : l.length = d.L.length) : DevH (σ.set a.il { sz := 1, els := bs l ++ a.spl, gen := a.gl, wr := true, pure := true }) a { d with L := l } := by
  obtain ⟨n1, n2, n3, n4, n5, n6⟩ := h.ne
  exact ⟨by dsimp only; rw [hl]; exact get_set_ne (Ne.symm n1) h.box, get_set h.lasts, get_set_ne n4 h.seen, get_set_ne n5 h.map, h.ne⟩
theorem DevH.setS {σ : AH} {a : DA} {d : Dv} (h : DevH σ a d) (l : List UInt8) (hl : l.length = d.S.length) : DevH (σ.set a.is { sz := 1, els := bs l ++ a.sps, gen := a.gs, wr := true, pure := true }) a { d with S := l } := by
  obtain ⟨n1, n2, n3, n4, n5, n6⟩ := h.ne
  exact ⟨by dsimp only; rw [hl]; exact get_set_ne (Ne.symm n2) h.box, get_set_ne (Ne.symm n4) h.lasts, get_set h.seen, get_set_ne n6 h.map, h.ne⟩
theorem DevH.setM {σ : AH} {a : DA} {d : Dv} (h : DevH σ a d) (es : List ME) (c : Nat) : DevH (σ.set a.im (mblk es c)) a { d with es := es, clock := c } := by
  obtain ⟨n1, n2, n3, n4, n5, n6⟩ := h.ne
  exact ⟨get_set_ne (Ne.symm n3) h.box, get_set_ne (Ne.symm n5) h.lasts, get_set_ne (Ne.symm n6) h.seen, get_set h.map, h.ne⟩
/-! ### What is asked, and where a step begins -/
def askD (d : Dv) (at' n : Int) : Int := if d.down = true then 5 else if at' < 0 ∨ (d.S.length : Int) < at' ∨ n < 0 ∨ (d.S.length : Int) - at' < n then 1 else 0
def beginD (d : Dv) (at' n : Int) : Int × Dv :=
  if askD d at' n ≠ 0 then (askD d at' n, d) else if 0 < d.armed then (if d.armed - 1 = 0 then (5, { d with armed := d.armed - 1, down := true }) else (0, { d with armed := d.armed - 1 })) else (0, d)
theorem asks_ok {σ : AH} {a : DA} {d : Dv} (h : DevH σ a d) (hl : d.S.length ≤ 1048576) (at' n : Int) (Q : AV → AH → Prop) (hQ : Q (.int .i64 (askD d at' n)) σ) : CallS Try.prog F.pmem_Device_asks [.ptr a.i 0 0 0, .int .i64 at', .int .i64 n] σ Q := by
  obtain ⟨box, lasts, seen, map, ne⟩ := h
  have hn := bs_length d.S
  refine call_of_body mixed fc_pmem_Device_asks_ok (by simp [fc_pmem_Device_asks]) ?_
  unfold askD at hQ
  by_cases hd : d.down = true
  · rw [if_pos hd] at hQ
    rw [hd] at box
    repeat' (first
      | ((conv => whnf) <;> (first
      | ((with_reducible apply blkAt_step) ; (focus (first
      | ((repeat (first
      | assumption
      )); done)
      )) ; (focus (first | rfl | assumption | omega)) ; (focus (first | rfl | assumption)) ; (try dsimp only))
      ))
      )
    all_goals (conv => whnf)
    all_goals (try dsimp only)
    exact hQ
  · rw [if_neg hd] at hQ
    rw [Bool.not_eq_true] at hd
    rw [hd] at box
    repeat' (first
      | ((conv => whnf) <;> (first
      | (with_reducible refine and_same ?_)
      | ((with_reducible apply Br.yes) ; (focus omega))
      | (with_reducible refine Br.mk (fun _ => ?_) (fun _ => ?_))
      | ((with_reducible apply blkAt_step) ; (focus (first
      | ((repeat (first
      | assumption
      )); done)
      )) ; (focus (first | rfl | assumption | omega)) ; (focus (first | rfl | assumption)) ; (try dsimp only))
      | (with_reducible refine lenR_rsl ?_)
      ))
      )
    all_goals (conv => whnf)
    all_goals (try dsimp only)
    all_goals (first | (rw [if_pos (by omega)] at hQ; exact hQ) | (rw [if_neg (by omega)] at hQ; exact hQ))
theorem begins_ok {σ : AH} {a : DA} {d : Dv} (h : DevH σ a d) (hl : d.S.length ≤ 1048576) (ha : d.armed ≤ 9223372036854775807 ∧ 0 ≤ d.armed) (at' n : Int) (Q : AV → AH → Prop) (hQ : ∀ σ', DevH σ' a (beginD d at' n).2 → GrP σ σ' a.has → Q (.int .i64 (beginD d at' n).1) σ') : CallS Try.prog F.pmem_Device_begins [.ptr a.i 0 0 0, .int .i64 at', .int .i64 n] σ Q := by
  have h0 := h
  obtain ⟨box, lasts, seen, map, ne⟩ := h0
  refine call_of_body mixed fc_pmem_Device_begins_ok (by simp [fc_pmem_Device_begins]) ?_
  skip
  all_goals (conv => whnf)
  all_goals (try dsimp only)
  refine asks_ok h hl at' n _ ?_
  unfold beginD at hQ
  generalize hk : askD d at' n = k at hQ
  by_cases h1 : k = 0
  · subst h1
    rw [if_neg (by simp)] at hQ
    by_cases h2 : 0 < d.armed
    · rw [if_pos h2] at hQ
      by_cases h3 : d.armed - 1 = 0
      · rw [if_pos h3] at hQ
        repeat' (first
          | ((with_reducible refine Side.intro ?_) <;> (first
          | exact Nat.le_of_ble_eq_true rfl
          | exact rfl
          ))
          | ((conv => whnf) <;> (first
          | (with_reducible refine and_same ?_)
          | (with_reducible refine and_side ?_ ?_)
          | ((with_reducible apply Br.yes) ; (focus omega))
          | ((with_reducible apply Br.no) ; (focus omega))
          | ((with_reducible apply blkAt_step) ; (focus (first
          | ((repeat (first
          | assumption
          | exact get_set (by assumption)
          )); done)
          )) ; (focus (first | rfl | assumption | omega)) ; (focus (first | rfl | assumption)) ; (try dsimp only))
          ))
          )
        all_goals (conv => whnf)
        all_goals (try dsimp only)
        exact hQ _ ((h.setBox (d.armed - 1) d.down).setBox (d.armed - 1) true) (((GrP.refl _ _).setT (.inl rfl) _).setT (.inl rfl) _)
      · rw [if_neg h3] at hQ
        repeat' (first
          | ((with_reducible refine Side.intro ?_) <;> (first
          | exact Nat.le_of_ble_eq_true rfl
          | exact rfl
          ))
          | ((conv => whnf) <;> (first
          | (with_reducible refine and_same ?_)
          | (with_reducible refine and_side ?_ ?_)
          | ((with_reducible apply Br.yes) ; (focus omega))
          | ((with_reducible apply Br.no) ; (focus omega))
          | ((with_reducible apply blkAt_step) ; (focus (first
          | ((repeat (first
          | assumption
          | exact get_set (by assumption)
          )); done)
          )) ; (focus (first | rfl | assumption | omega)) ; (focus (first | rfl | assumption)) ; (try dsimp only))
          ))
          )
        all_goals (conv => whnf)
        all_goals (try dsimp only)
        exact hQ _ (h.setBox (d.armed - 1) d.down) ((GrP.refl _ _).setT (.inl rfl) _)
    · rw [if_neg h2] at hQ
      repeat' (first
        | ((conv => whnf) <;> (first
        | (with_reducible refine and_same ?_)
        | ((with_reducible apply Br.no) ; (focus omega))
        | ((with_reducible apply blkAt_step) ; (focus (first
        | ((repeat (first
        | assumption
        )); done)
        )) ; (focus (first | rfl | assumption | omega)) ; (focus (first | rfl | assumption)) ; (try dsimp only))
        ))
        )
      all_goals (conv => whnf)
      all_goals (try dsimp only)
      exact hQ _ h (GrP.refl _ _)
  · rw [if_pos h1] at hQ
    repeat' (first
      | ((conv => whnf) <;> (first
      | (with_reducible refine and_same ?_)
      | ((with_reducible apply Br.yes) ; (focus omega))
      ))
      )
    all_goals (conv => whnf)
    all_goals (try dsimp only)
    exact hQ _ h (GrP.refl _ _)
theorem Lines_ok {σ : AH} {a : DA} {d : Dv} (h : DevH σ a d) (hl : d.S.length ≤ 1048576) (Q : AV → AH → Prop) (hQ : Q (.int .i64 ((d.S.length : Int) / 64)) σ) : CallS Try.prog F.pmem_Device_Lines [.ptr a.i 0 0 0] σ Q := by
  obtain ⟨box, lasts, seen, map, ne⟩ := h
  have hn := bs_length d.S
  refine call_of_body mixed fc_pmem_Device_Lines_ok (by simp [fc_pmem_Device_Lines]) ?_
  repeat' (first
    | ((with_reducible refine Side.intro ?_) <;> (first
    | omega
    ))
    | ((conv => whnf) <;> (first
    | (with_reducible refine and_same ?_)
    | (with_reducible refine and_side ?_ ?_)
    | ((with_reducible apply Br.yes) ; (focus omega))
    | ((with_reducible apply blkAt_step) ; (focus (first
    | ((repeat (first
    | assumption
    )); done)
    )) ; (focus (first | rfl | assumption | omega)) ; (focus (first | rfl | assumption)) ; (try dsimp only))
    | (with_reducible refine lenR_rsl ?_)
    ))
    )
  all_goals (conv => whnf)
  all_goals (try dsimp only)
  exact hQ
theorem Down_ok {σ : AH} {a : DA} {d : Dv} (h : DevH σ a d) (Q : AV → AH → Prop) (hQ : Q (.bool d.down) σ) : CallS Try.prog F.pmem_Device_Down [.ptr a.i 0 0 0] σ Q := by
  obtain ⟨box, lasts, seen, map, ne⟩ := h
  refine call_of_body mixed fc_pmem_Device_Down_ok (by simp [fc_pmem_Device_Down]) ?_
  repeat' (first
    | ((conv => whnf) <;> (first
    | ((with_reducible apply blkAt_step) ; (focus (first
    | ((repeat (first
    | assumption
    )); done)
    )) ; (focus (first | rfl | assumption | omega)) ; (focus (first | rfl | assumption)) ; (try dsimp only))
    ))
    )
  all_goals (conv => whnf)
  all_goals (try dsimp only)
  exact hQ
theorem Arm_ok {σ : AH} {a : DA} {d : Dv} (h : DevH σ a d) (n : Int) (Q : AV → AH → Prop) (hQ : ∀ σ', DevH σ' a { d with armed := max n 0 } → GrP σ σ' a.has → Q (.tup []) σ') : CallS Try.prog F.pmem_Device_Arm [.ptr a.i 0 0 0, .int .i64 n] σ Q := by
  have h0 := h
  obtain ⟨box, lasts, seen, map, ne⟩ := h0
  refine call_of_body mixed fc_pmem_Device_Arm_ok (by simp [fc_pmem_Device_Arm]) ?_
  by_cases hn : n < 0
  · have e : max n 0 = 0 := by omega
    rw [e] at hQ
    repeat' (first
      | ((with_reducible refine Side.intro ?_) <;> (first
      | exact Nat.le_of_ble_eq_true rfl
      | exact rfl
      ))
      | ((conv => whnf) <;> (first
      | (with_reducible refine and_same ?_)
      | (with_reducible refine and_side ?_ ?_)
      | ((with_reducible apply Br.yes) ; (focus omega))
      | ((with_reducible apply blkAt_step) ; (focus (first
      | ((repeat (first
      | assumption
      )); done)
      )) ; (focus (first | rfl | assumption | omega)) ; (focus (first | rfl | assumption)) ; (try dsimp only))
      ))
      )
    all_goals (conv => whnf)
    all_goals (try dsimp only)
    exact hQ _ (h.setBox _ d.down) ((GrP.refl _ _).setT (.inl rfl) _)
  · have e : max n 0 = n := by omega
    rw [e] at hQ
    repeat' (first
      | ((with_reducible refine Side.intro ?_) <;> (first
      | exact Nat.le_of_ble_eq_true rfl
      | exact rfl
      ))
      | ((conv => whnf) <;> (first
      | (with_reducible refine and_same ?_)
      | (with_reducible refine and_side ?_ ?_)
      | ((with_reducible apply Br.no) ; (focus omega))
      | ((with_reducible apply blkAt_step) ; (focus (first
      | ((repeat (first
      | assumption
      )); done)
      )) ; (focus (first | rfl | assumption | omega)) ; (focus (first | rfl | assumption)) ; (try dsimp only))
      ))
      )
    all_goals (conv => whnf)
    all_goals (try dsimp only)
    exact hQ _ (h.setBox _ d.down) ((GrP.refl _ _).setT (.inl rfl) _)
theorem Image_ok {σ : AH} {a : DA} {d : Dv} (h : DevH σ a d) (hl : d.L.length ≤ 1048576) (Q : AV → AH → Prop) (hQ : ∀ y σ', Gr σ σ' none → Own σ' 1 y (bs d.L) → New σ y → Q y σ') : CallS Try.prog F.pmem_Device_Image [.ptr a.i 0 0 0] σ Q := by
  obtain ⟨box, lasts, seen, map, ne⟩ := h
  have hn := bs_length d.L
  refine call_of_body mixed fc_pmem_Device_Image_ok (by simp [fc_pmem_Device_Image]) ?_
  repeat' (first
    | ((conv => whnf) <;> (first
    | ((with_reducible apply blkAt_step) ; (focus (first
    | ((repeat (first
    | assumption
    )); done)
    )) ; (focus (first | rfl | assumption | omega)) ; (focus (first | rfl | assumption)) ; (try dsimp only))
    ))
    )
  all_goals (conv => whnf)
  all_goals (try dsimp only)
  have ho : Own σ 1 (.rsl a.il a.gl 0 d.L.length none) (bs d.L) := Own.mk' lasts hn.symm rfl
  refine call_sl (bytes_Clone_ok d.L (by omega)) (.cons (Looks.ownbs ho) .nil) fun σ1 y hg ho1 hy => ?_
  skip
  all_goals (conv => whnf)
  all_goals (try dsimp only)
  exact hQ y σ1 hg ho1 hy
theorem View_ok {σ : AH} {a : DA} {d : Dv} (h : DevH σ a d) (hl : d.S.length ≤ 1048576) (Q : AV → AH → Prop) (hQ : ∀ y σ', Gr σ σ' none → Own σ' 1 y (bs d.S) → New σ y → Q y σ') : CallS Try.prog F.pmem_Device_View [.ptr a.i 0 0 0] σ Q := by
  obtain ⟨box, lasts, seen, map, ne⟩ := h
  have hn := bs_length d.S
  refine call_of_body mixed fc_pmem_Device_View_ok (by simp [fc_pmem_Device_View]) ?_
  repeat' (first
    | ((conv => whnf) <;> (first
    | ((with_reducible apply blkAt_step) ; (focus (first
    | ((repeat (first
    | assumption
    )); done)
    )) ; (focus (first | rfl | assumption | omega)) ; (focus (first | rfl | assumption)) ; (try dsimp only))
    ))
    )
  all_goals (conv => whnf)
  all_goals (try dsimp only)
  have ho : Own σ 1 (.rsl a.is a.gs 0 d.S.length none) (bs d.S) := Own.mk' seen hn.symm rfl
  refine call_sl (bytes_Clone_ok d.S (by omega)) (.cons (Looks.ownbs ho) .nil) fun σ1 y hg ho1 hy => ?_
  skip
  all_goals (conv => whnf)
  all_goals (try dsimp only)
  exact hQ y σ1 hg ho1 hy
end Go.Proofs.Ytppccaacbpkgiaa

namespace Go.Proofs.Ytppccaacbpkgiaa
open Go Go.Proofs.Ytppccaacbpkgiaa.V
set_option maxRecDepth 20000
attribute [local irreducible] CallS AOK AOKn ALoop Side Ref.ok
/-- Bytes, by value or in a block of one's own. -/
inductive BytR (σ : AH) (x : AV) (s : List UInt8) : Prop
  | sl (fr : Bool) (h : x = .sl 1 (bs s) fr)
  | own (h : Own σ 1 x (bs s))
theorem BytR.lenW {σ : AH} {x : AV} {s : List UInt8} {K : Nat → Prop} (h : BytR σ x s) (hk : K s.length) : LenW σ x K := by
  rcases h with ⟨fr, rfl⟩ | h
  · exact lenR_sl (by rw [bs_length]; exact hk)
  · exact lenR_own h (by rw [bs_length]; exact hk)
theorem BytR.rowsW {σ : AH} {x : AV} {s : List UInt8} {K : Bool → List (List AV) → Prop} (h : BytR σ x s) (hk : K true (bs s)) : RowsW σ 1 x K := by
  rcases h with ⟨fr, rfl⟩ | h
  · exact rowsR_sl hk
  · exact rowsR_own h hk
theorem BytR.keepN {σ σ' : AH} {x : AV} {s : List UInt8} (h : BytR σ x s) (hg : Gr σ σ' none) : BytR σ' x s := by
  rcases h with ⟨fr, rfl⟩ | h
  · exact .sl fr rfl
  · exact .own (h.keepN hg)
theorem BytR.looks {σ : AH} {x : AV} {s : List UInt8} (h : BytR σ x s) : Looks σ x (.sl 1 (bs s) false) := by
  rcases h with ⟨fr, rfl⟩ | h
  · exact Looks.bs σ s fr
  · exact Looks.ownbs h
/-! ### A new device -/
def newG (n : Nat) : Prop := n ≠ 0 ∧ n % 64 = 0 ∧ n / 64 ≤ 4096
instance (n : Nat) : Decidable (newG n) := by unfold newG; infer_instance
theorem New_ok {σ : AH} {x : AV} {s : List UInt8} (h : BytR σ x s) (hl : s.length ≤ 4611686018) (Q : AV → AH → Prop)
    (hy : newG s.length → ∀ a σ', Gr σ σ' none → DevH σ' a ⟨s, s, [], 0, 0, false⟩ → (∀ id, a.has id → σ.length ≤ id) → Q (.tup [.ptr a.i 0 0 0, .int .i64 0]) σ')
    (hn : ¬ newG s.length → ∀ σ', Gr σ σ' none → Q (.tup [.nilp, .int .i64 1]) σ') : CallS Try.prog F.pmem_New [x] σ Q := by
  refine call_of_body mixed fc_pmem_New_ok (by simp [fc_pmem_New]) ?_
  by_cases hG : newG s.length
  · have hy := hy hG
    obtain ⟨g1, g2, g3⟩ := hG
    repeat' (first
      | ((with_reducible refine Side.intro ?_) <;> (first
      | omega
      ))
      | ((conv => whnf) <;> (first
      | (with_reducible refine and_same ?_)
      | (with_reducible refine and_side ?_ ?_)
      | ((with_reducible apply Br.yes) ; (focus omega))
      | ((with_reducible apply Br.no) ; (focus omega))
      | ((with_reducible apply BytR.lenW) ; (focus assumption))
      ))
      )
    all_goals (conv => whnf)
    all_goals (try dsimp only)
    refine call_sl (bytes_Clone_ok s (by omega)) (.cons h.looks .nil) fun σ1 y1 hg1 ho1 hy1 => ?_
    have h1 := h.keepN hg1
    skip
    all_goals (conv => whnf)
    all_goals (try dsimp only)
    refine call_sl (bytes_Clone_ok s (by omega)) (.cons h1.looks .nil) fun σ2 y2 hg2 ho2 hy2 => ?_
    have ho0 := ho1
    replace ho1 := ho1.keepN hg2
    have hne : bs s ≠ [] := by intro e; rw [bs_eq_nil] at e; rw [e] at g1; exact g1 rfl
    obtain ⟨i1, gn1, sp1, rfl, b1⟩ := ho1.ne hne
    obtain ⟨i2, gn2, sp2, rfl, b2⟩ := ho2.ne hne
    rw [bs_length] at *
    have l1 := (List.getElem?_eq_some_iff.1 b1).1
    have l2 := (List.getElem?_eq_some_iff.1 b2).1
    have l0 := ho0.lt rfl
    have n1 := hy1 _ rfl
    have n2 := hy2 _ rfl
    repeat' (first
      | ((with_reducible refine Side.intro ?_) <;> (first
      | exact Nat.le_of_ble_eq_true rfl
      | exact rfl
      ))
      | ((conv => whnf) <;> (first
      | (with_reducible refine and_side ?_ ?_)
      ))
      )
    all_goals (conv => whnf)
    all_goals (try dsimp only)
    have e : (σ2 ++ [mblk [] 0]).length = σ2.length + 1 := by simp
    have gg : Gr σ (newB (σ2 ++ [mblk [] 0]) 5 [[.rsl i1 gn1 0 s.length none, .rsl i2 gn2 0 s.length none, .rsl σ2.length 0 0 0 none, .int .i64 0, .bool false]] false) none := ((hg1.trans hg2).addN _).addN _
    have hb : (newB (σ2 ++ [mblk [] 0]) 5 [[.rsl i1 gn1 0 s.length none, .rsl i2 gn2 0 s.length none, .rsl σ2.length 0 0 0 none, .int .i64 0, .bool false]] false)[σ2.length + 1]? = some { sz := 5, els := [[.rsl i1 gn1 0 s.length none, .rsl i2 gn2 0 s.length none, .rsl σ2.length 0 0 0 none, .int .i64 0, .bool false]], gen := 0, wr := true, pure := false } := by
      rw [← e]; exact get_new
    have hq := hy ⟨σ2.length + 1, i1, gn1, sp1, i2, gn2, sp2, σ2.length⟩ _ gg ⟨hb, get_old (get_old b1), get_old (get_old b2), get_old get_new, by dsimp only; have := hg2.1; omega⟩  (by
      have h1 := hg1.1
      have h2 := hg2.1
      rintro id (q | q | q | q)
      all_goals (rw [q]; first | omega | (simp only; omega)))
    rw [e]
    exact hq
  · have hn := hn hG
    unfold newG at hG
    repeat' (first
      | ((with_reducible refine Side.intro ?_) <;> (first
      | omega
      ))
      | ((conv => whnf) <;> (first
      | (with_reducible refine and_same ?_)
      | (with_reducible refine and_side ?_ ?_)
      | ((with_reducible apply Br.yes) ; (focus omega))
      | (with_reducible refine Br.mk (fun _ => ?_) (fun _ => ?_))
      | ((with_reducible apply BytR.lenW) ; (focus assumption))
      ))
      )
    all_goals (conv => whnf)
    all_goals (try dsimp only)
    all_goals exact hn _ (Gr.refl _ _)
end Go.Proofs.Ytppccaacbpkgiaa

namespace Go.Proofs.Ytppccaacbpkgiaa
open Go Go.Proofs.Ytppccaacbpkgiaa.V
set_option maxRecDepth 20000
attribute [local irreducible] CallS AOK AOKn ALoop Side Ref.ok
theorem Looks.slice {σ : AH} {id gen off len : Nat} {cap : Option Nat} {s : List UInt8} {sp : List (List AV)} (hb : σ[id]? = some { sz := 1, els := bs s ++ sp, gen := gen, wr := true, pure := true }) (hle : off + len ≤ s.length) : Looks σ (.rsl id gen off len cap) (.sl 1 (bs ((s.drop off).take len)) false) := by
  refine Looks.same ?_
  have e : ((bs s ++ sp).drop off).take len = bs ((s.drop off).take len) := by
    rw [List.drop_append_of_le_length (by rw [bs_length]; omega), List.take_append_of_le_length (by rw [List.length_drop, bs_length]; omega), bs_drop, bs_take]
  have hle' : off + len ≤ (bs s ++ sp).length := by rw [List.length_append, bs_length]; omega
  have e2 : derefV σ (.rsl id gen off len cap) = derefC σ (.rsl id gen off len cap) := rfl
  rw [e2]
  simp only [derefC, hb, e, untagLL_bs]
  rw [if_pos ⟨trivial, trivial, hle'⟩]
def ovC (at' n : Int) : Nat := if n = 0 then 0 else ((at' + n - 1) / 64 - at' / 64 + 1).toNat
theorem over_ok {at' n : Int} (ha : 0 ≤ at' ∧ at' ≤ 1048576 ∧ 0 ≤ n ∧ n ≤ 1048576) {g : Nat} {caps : List AV} (I : Nat → AH → Prop) (σ : AH) (h0 : I 0 σ) (hI : ∀ k τ, k < ovC at' n → I k τ → CallS Try.prog g ([.int .i64 (at' / 64 + k)] ++ caps) τ fun _ τ' => I (k + 1) τ') (Q : AV → AH → Prop)
    (hQ : ∀ τ, I (ovC at' n) τ → Q (.tup []) τ) : CallS Try.prog F.pmem_over [.int .i64 at', .int .i64 n, .fn g caps] σ Q := by
  obtain ⟨a1, a2, a3, a4⟩ := ha
  refine call_of_body mixed fc_pmem_over_ok (by simp [fc_pmem_over]) ?_
  by_cases hn : n = 0
  · have e : ovC at' n = 0 := if_pos hn
    rw [e] at hQ
    repeat' (first
      | ((conv => whnf) <;> (first
      | (with_reducible refine and_same ?_)
      | ((with_reducible apply Br.yes) ; (focus omega))
      ))
      )
    all_goals (conv => whnf)
    all_goals (try dsimp only)
    exact hQ _ h0
  · have e : ovC at' n = ((at' + n - 1) / 64 - at' / 64 + 1).toNat := if_neg hn
    repeat' (first
      | ((with_reducible refine Side.intro ?_) <;> (first
      | omega
      ))
      | ((conv => whnf) <;> (first
      | (with_reducible refine and_same ?_)
      | (with_reducible refine and_side ?_ ?_)
      | ((with_reducible apply Br.yes) ; (focus omega))
      | ((with_reducible apply Br.no) ; (focus omega))
      ))
      )
    all_goals (conv => whnf)
    all_goals (try dsimp only)
    refine loop_at (α := Nat × AH) (fun a => [(6, .int .i64 (at' / 64 + a.1))]) (fun a => a.2) (fun a => a.1 ≤ ovC at' n ∧ I a.1 a.2) (fun a => ovC at' n - a.1) (0, σ) ⟨Nat.zero_le _, h0⟩ (by simp; rfl) rfl ?_
    rintro ⟨k, τ⟩ ⟨hk, hJ⟩
    dsimp only at hk hJ ⊢
    by_cases hlt : k < ovC at' n
    · repeat' (first
        | ((with_reducible refine Side.intro ?_) <;> (first
        | omega
        ))
        | ((conv => whnf) <;> (first
        | (with_reducible refine and_same ?_)
        | (with_reducible refine and_side ?_ ?_)
        | ((with_reducible apply Br.yes) ; (focus omega))
        ))
        )
      all_goals (conv => whnf)
      all_goals (try dsimp only)
      refine (hI k τ hlt hJ).mono fun x τ' hJ' => ?_
      repeat' (first
        | ((conv => whnf) <;> (first
        | (with_reducible refine and_same ?_)
        | ((with_reducible apply Br.yes) ; (focus omega))
        ))
        )
      all_goals (conv => whnf)
      all_goals (try dsimp only)
      exact ⟨(k + 1, τ'), by simp [Fr.upd, Fr.pick, Int.add_assoc], rfl, ⟨by dsimp only; omega, hJ'⟩, by dsimp only; omega⟩
    · have ek : k = ovC at' n := by omega
      repeat' (first
        | ((with_reducible refine Side.intro ?_) <;> (first
        | omega
        ))
        | ((conv => whnf) <;> (first
        | (with_reducible refine and_same ?_)
        | (with_reducible refine and_side ?_ ?_)
        | ((with_reducible apply Br.yes) ; (focus omega))
        | ((with_reducible apply Br.no) ; (focus omega))
        ))
        )
      all_goals (conv => whnf)
      all_goals (try dsimp only)
      rw [ek] at hJ
      exact hQ _ hJ
/-! ### Closures over a device; a line that lasts -/
theorem cpy {L S : List UInt8} {spl sps : List (List AV)} {o o' n m : Nat} (h1 : o + min n m ≤ L.length) (h2 : o' + n ≤ S.length) :
    (bs L ++ spl).take o ++ (((bs S ++ sps).drop o').take n).take (min (((bs S ++ sps).drop o').take n).length m) ++ (bs L ++ spl).drop (o + min (((bs S ++ sps).drop o').take n).length m) = bs (L.take o ++ (S.drop o').take (min n m) ++ L.drop (o + min n m)) ++ spl := by
  have e1 : ((bs S ++ sps).drop o').take n = bs ((S.drop o').take n) := by
    rw [List.drop_append_of_le_length (by rw [bs_length]; omega), List.take_append_of_le_length (by rw [List.length_drop, bs_length]; omega), bs_drop, bs_take]
  have e2 : ((S.drop o').take n).length = n := by simp; omega
  rw [e1, bs_length, e2, List.take_append_of_le_length (by rw [bs_length]; omega), List.drop_append_of_le_length (by rw [bs_length]; omega)]
  simp only [bs_take, bs_drop, ← bs_append, List.append_assoc, List.take_take]
  rw [show min (min n m) n = min n m by omega]
def lastL (L S : List UInt8) (k : Nat) : List UInt8 := L.take (64 * k) ++ (S.drop (64 * k)).take 64 ++ L.drop (64 * k + 64)
theorem St1_ok {σ : AH} {a : DA} {d : Dv} {bx : Nat} (h : DevH σ a d) (hb : σ[bx]? = some { sz := 1, els := [[.ptr a.i 0 0 0]], gen := 0, wr := true, pure := false }) (n : Int) (Q : AV → AH → Prop) (hQ : Q (.tup []) (σ.set a.im (mblk (mputE d.es n (.bool false) d.clock) (mputC d.es n d.clock)))) : CallS Try.prog F.pmem_Device_Store_1 [.int .i64 n, .ptr bx 0 0 0] σ Q := by
  obtain ⟨box, lasts, seen, map, ne⟩ := h
  refine call_of_body mixed fc_pmem_Device_Store_1_ok (by simp [fc_pmem_Device_Store_1]) ?_
  repeat' (first
    | ((conv => whnf) <;> (first
    | ((with_reducible apply blkAt_step) ; (focus (first
    | ((repeat (first
    | assumption
    )); done)
    )) ; (focus (first | rfl | assumption | omega)) ; (focus (first | rfl | assumption)) ; (try dsimp only))
    | ((with_reducible apply mapW_step) ; (focus (first
    | ((repeat (first
    | assumption
    )); done)
    )) ; (try dsimp only))
    ))
    )
  all_goals (conv => whnf)
  all_goals (try dsimp only)
  exact hQ
theorem Fl1_ok {σ : AH} {a : DA} {d : Dv} {bx : Nat} (h : DevH σ a d) (hb : σ[bx]? = some { sz := 1, els := [[.ptr a.i 0 0 0]], gen := 0, wr := true, pure := false }) (n : Int) (Q : AV → AH → Prop)
    (h1 : mget d.es n = none → Q (.tup []) σ) (h2 : ∀ v, mget d.es n = some v → Q (.tup []) (σ.set a.im (mblk (mputE d.es n (.bool true) d.clock) (mputC d.es n d.clock)))) : CallS Try.prog F.pmem_Device_Flush_1 [.int .i64 n, .ptr bx 0 0 0] σ Q := by
  obtain ⟨box, lasts, seen, map, ne⟩ := h
  refine call_of_body mixed fc_pmem_Device_Flush_1_ok (by simp [fc_pmem_Device_Flush_1]) ?_
  cases hm : mget d.es n with
  | none =>
    repeat' (first
      | ((conv => whnf) <;> (first
      | ((with_reducible apply blkAt_step) ; (focus (first
      | ((repeat (first
      | assumption
      )); done)
      )) ; (focus (first | rfl | assumption | omega)) ; (focus (first | rfl | assumption)) ; (try dsimp only))
      | ((with_reducible apply mapW_step) ; (focus (first
      | ((repeat (first
      | assumption
      )); done)
      )) ; (try dsimp only))
      | ((with_reducible apply lookW_none) ; (focus assumption))
      ))
      )
    all_goals (conv => whnf)
    all_goals (try dsimp only)
    exact h1 hm
  | some v =>
    repeat' (first
      | ((conv => whnf) <;> (first
      | ((with_reducible apply blkAt_step) ; (focus (first
      | ((repeat (first
      | assumption
      )); done)
      )) ; (focus (first | rfl | assumption | omega)) ; (focus (first | rfl | assumption)) ; (try dsimp only))
      | ((with_reducible apply mapW_step) ; (focus (first
      | ((repeat (first
      | assumption
      )); done)
      )) ; (try dsimp only))
      | ((with_reducible apply lookW_some) ; (focus assumption))
      ))
      )
    all_goals (conv => whnf)
    all_goals (try dsimp only)
    exact h2 v hm
theorem last_ok {σ : AH} {a : DA} {d : Dv} (h : DevH σ a d) (hl : d.L.length ≤ 1048576) (he : d.S.length = d.L.length) (k : Nat) (hk : 64 * k + 64 ≤ d.L.length) (Q : AV → AH → Prop) (hQ : ∀ σ', DevH σ' a { d with L := lastL d.L d.S k } → GrP σ σ' a.has → Q (.tup []) σ') : CallS Try.prog F.pmem_Device_last [.ptr a.i 0 0 0, .int .i64 k] σ Q := by
  have h0 := h
  obtain ⟨box, lasts, seen, map, ne⟩ := h0
  have hbl := bs_length d.S
  have hbs := bs_length d.L
  refine call_of_body mixed fc_pmem_Device_last_ok (by simp [fc_pmem_Device_last]) ?_
  repeat' (first
    | ((with_reducible refine Side.intro ?_) <;> (first
    | omega
    | (simp only [bs_length, List.length_append, List.length_cons, List.length_nil, List.length_take, List.length_drop, List.length_set, List.length_replicate]; omega)
    ))
    | ((conv => whnf) <;> (first
    | (with_reducible refine and_same ?_)
    | (with_reducible refine and_side ?_ ?_)
    | ((with_reducible apply Br.yes) ; (focus omega))
    | ((with_reducible apply blkAt_step) ; (focus (first
    | ((repeat (first
    | assumption
    )); done)
    )) ; (focus (first | rfl | assumption | omega)) ; (focus (first | rfl | assumption)) ; (try dsimp only))
    | (with_reducible refine SliceW.of ?_)
    | (with_reducible refine CopyW.of ?_)
    | (with_reducible refine rowsR_rsl ?_)
    ))
    )
  all_goals (conv => whnf)
  all_goals (try dsimp only)
  have := h.setL (lastL d.L d.S k) (by simp [lastL]; omega)
  rw [cpy (by omega) (by omega)]
  refine hQ _ ?_ ((GrP.refl _ _).setT (.inr (.inl rfl)) _)
  have e : List.take (0 + ((k : Int) * 64).toNat) d.L ++ List.take (min ((d.S.length : Int).toNat - ((k : Int) * 64).toNat) (((k : Int) * 64 + 64).toNat - ((k : Int) * 64).toNat)) (List.drop (0 + ((k : Int) * 64).toNat) d.S) ++ List.drop (0 + ((k : Int) * 64).toNat + min ((d.S.length : Int).toNat - ((k : Int) * 64).toNat) (((k : Int) * 64 + 64).toNat - ((k : Int) * 64).toNat)) d.L = lastL d.L d.S k := by
    unfold lastL
    rw [show (0 + ((k : Int) * 64).toNat) = 64 * k by omega, show min ((d.S.length : Int).toNat - ((k : Int) * 64).toNat) (((k : Int) * 64 + 64).toNat - ((k : Int) * 64).toNat) = 64 by omega]
  rw [e]
  exact this
end Go.Proofs.Ytppccaacbpkgiaa

namespace Go.Proofs.Ytppccaacbpkgiaa
open Go Go.Proofs.Ytppccaacbpkgiaa.V
set_option maxRecDepth 20000
attribute [local irreducible] CallS AOK AOKn ALoop Side Ref.ok
/-- Lines marked, one after the other: from a on, n of them. -/
def stE : Nat → Int → List ME × Nat → List ME × Nat
  | 0, _, p => p
  | n + 1, a, p => (mputE (stE n a p).1 (a + n) (.bool false) (stE n a p).2, mputC (stE n a p).1 (a + n) (stE n a p).2)
def flE : Nat → Int → List ME × Nat → List ME × Nat
  | 0, _, p => p
  | n + 1, a, p => match mget (flE n a p).1 (a + n) with
    | none => flE n a p
    | some _ => (mputE (flE n a p).1 (a + n) (.bool true) (flE n a p).2, mputC (flE n a p).1 (a + n) (flE n a p).2)
def Dv.setM (d : Dv) (p : List ME × Nat) : Dv := { d with es := p.1, clock := p.2 }
def storeL (S : List UInt8) (o : Nat) (b : List UInt8) : List UInt8 := S.take o ++ b ++ S.drop (o + b.length)
def storeD (d : Dv) (at' : Int) (b : List UInt8) : Int × Dv :=
  match beginD d at' b.length with
  | (e, d1) => if e ≠ 0 then (e, d1) else (0, ({ d1 with S := storeL d1.S at'.toNat b } : Dv).setM (stE (ovC at' b.length) (at' / 64) (d1.es, d1.clock)))
def flushD (d : Dv) (at' n : Int) : Int × Dv :=
  match beginD d at' n with
  | (e, d1) => if e ≠ 0 then (e, d1) else (0, d1.setM (flE (ovC at' n) (at' / 64) (d1.es, d1.clock)))
theorem askD_ok {d : Dv} {at' n : Int} (h : askD d at' n = 0) : d.down = false ∧ 0 ≤ at' ∧ at' ≤ d.S.length ∧ 0 ≤ n ∧ n ≤ d.S.length - at' := by
  unfold askD at h
  split at h
  · cases h
  · rename_i hd
    split at h
    · cases h
    · exact ⟨by simpa using hd, by omega, by omega, by omega, by omega⟩
theorem beginD_ok {d : Dv} {at' n : Int} (h : (beginD d at' n).1 = 0) : askD d at' n = 0 := by
  unfold beginD at h
  split at h
  · rename_i hk; exact absurd h hk
  · rename_i hk; omega
theorem beginD_same (d : Dv) (at' n : Int) : (beginD d at' n).2.L = d.L ∧ (beginD d at' n).2.S = d.S ∧ (beginD d at' n).2.es = d.es ∧ (beginD d at' n).2.clock = d.clock := by
  unfold beginD
  repeat' split
  all_goals exact ⟨rfl, rfl, rfl, rfl⟩
theorem BytR.keepP {σ σ' : AH} {x : AV} {s : List UInt8} {X : Nat → Prop} (h : BytR σ x s) (hg : GrP σ σ' X) (hx : ∀ id, X id → x.bid ≠ some id) : BytR σ' x s := by
  rcases h with ⟨fr, rfl⟩ | ⟨rfl, h⟩ | ⟨id, gen, sp, rfl, h⟩
  · exact .sl fr rfl
  · exact .own (.inl ⟨rfl, h⟩)
  · exact .own (.inr ⟨id, gen, sp, rfl, hg.2 _ _ h fun q => hx id q rfl⟩)
theorem storeL_length {S : List UInt8} {o : Nat} {b : List UInt8} (h : o + b.length ≤ S.length) : (storeL S o b).length = S.length := by
  simp [storeL]; omega
theorem cpy2 {L S : List UInt8} {spl : List (List AV)} {o m : Nat} (h1 : o + min S.length m ≤ L.length) :
    (bs L ++ spl).take o ++ (bs S).take (min (bs S).length m) ++ (bs L ++ spl).drop (o + min (bs S).length m) = bs (L.take o ++ S.take (min S.length m) ++ L.drop (o + min S.length m)) ++ spl := by
  rw [bs_length, List.take_append_of_le_length (by rw [bs_length]; omega), List.drop_append_of_le_length (by rw [bs_length]; omega)]
  simp only [bs_take, bs_drop, ← bs_append, List.append_assoc]
theorem Store_ok {σ : AH} {a : DA} {d : Dv} (h : DevH σ a d) (hl : d.S.length ≤ 262144) (ha : d.armed ≤ 9223372036854775807 ∧ 0 ≤ d.armed) (at' : Int) {x : AV} {b : List UInt8} (hx : BytR σ x b) (hbx : ∀ id, a.has id → x.bid ≠ some id) (hbl : b.length ≤ 1048576) (Q : AV → AH → Prop)
    (hQ : ∀ σ', DevH σ' a (storeD d at' b).2 → GrP σ σ' a.has → Q (.int .i64 (storeD d at' b).1) σ') : CallS Try.prog F.pmem_Device_Store [.ptr a.i 0 0 0, .int .i64 at', x] σ Q := by
  have hg0 : Gr σ (newB σ 1 [[.ptr a.i 0 0 0]] false) none := by (repeat (first
        | exact Gr.refl _ _
        | refine Gr.addN ?_ _
        ))
  have hx0 := hx.keepN hg0
  have hb0 := bs_length b
  have hbS := bs_length d.S
  refine call_of_body mixed fc_pmem_Device_Store_ok (by simp [fc_pmem_Device_Store]) ?_
  repeat' (first
    | ((with_reducible refine Side.intro ?_) <;> (first
    | exact rfl
    ))
    | ((conv => whnf) <;> (first
    | (with_reducible refine and_side ?_ ?_)
    | ((with_reducible apply blkAt_step) ; (focus (first
    | ((repeat (first
    | exact get_new
    )); done)
    )) ; (focus (first | rfl | assumption | omega)) ; (focus (first | rfl | assumption)) ; (try dsimp only))
    | ((with_reducible apply BytR.lenW) ; (focus assumption))
    ))
    )
  all_goals (conv => whnf)
  all_goals (try dsimp only)
  refine begins_ok (h.keepN hg0) (by omega) ha at' b.length _ ?_
  intro σ1 h1 hg1
  have hx1 := hx0.keepP hg1 hbx
  have hbox : σ1[σ.length]? = some { sz := 1, els := [[.ptr a.i 0 0 0]], gen := 0, wr := true, pure := false } := hg1.2 _ _ get_new fun q => by have := h.lt _ q; omega
  have hgg : GrP σ σ1 a.has := (GrP.of hg0 _).trans hg1
  obtain ⟨s1, s2, s3, s4⟩ := beginD_same d at' b.length
  have hk : (beginD d at' b.length).1 = 0 → askD d at' b.length = 0 := beginD_ok
  unfold storeD at hQ
  generalize beginD d at' b.length = p at *
  obtain ⟨e, d1⟩ := p
  dsimp only at h1 hk s1 s2 s3 s4 hQ ⊢
  obtain ⟨box, lasts, seen, map, ne⟩ := id h1
  by_cases he : e = 0
  · subst he
    obtain ⟨k1, k2, k3, k4, k5⟩ := askD_ok (hk rfl)
    rw [if_neg (by simp)] at hQ
    rw [s2] at seen box
    repeat' (first
      | ((with_reducible refine Side.intro ?_) <;> (first
      | omega
      | (simp only [bs_length, List.length_append, List.length_cons, List.length_nil, List.length_take, List.length_drop, List.length_set, List.length_replicate]; omega)
      ))
      | ((conv => whnf) <;> (first
      | (with_reducible refine and_same ?_)
      | (with_reducible refine and_side ?_ ?_)
      | ((with_reducible apply Br.no) ; (focus omega))
      | ((with_reducible apply blkAt_step) ; (focus (first
      | ((repeat (first
      | assumption
      )); done)
      )) ; (focus (first | rfl | assumption | omega)) ; (focus (first | rfl | assumption)) ; (try dsimp only))
      | ((with_reducible apply BytR.rowsW) ; (focus assumption))
      | (with_reducible refine SliceW.of ?_)
      | (with_reducible refine CopyW.of ?_)
      ))
      )
    all_goals (conv => whnf)
    all_goals (try dsimp only)
    rw [cpy2 (by omega)]
    have e : List.take (0 + at'.toNat) d.S ++ List.take (min b.length ((d.S.length : Int).toNat - at'.toNat)) b ++ List.drop (0 + at'.toNat + min b.length ((d.S.length : Int).toNat - at'.toNat)) d.S = storeL d1.S at'.toNat b := by
      unfold storeL
      rw [s2, Nat.zero_add, show min b.length ((d.S.length : Int).toNat - at'.toNat) = b.length by omega, List.take_length]
    rw [e]
    have h2 := h1.setS (storeL d1.S at'.toNat b) (storeL_length (by rw [s2]; omega))
    have hg2 : GrP σ1 (σ1.set a.is { sz := 1, els := bs (storeL d1.S at'.toNat b) ++ a.sps, gen := a.gs, wr := true, pure := true }) a.has := .set (.inr (.inr (.inl rfl))) _
    have hx2 := hx1.keepP hg2 hbx
    have hbox2 := hg2.2 _ _ hbox fun q => by have := h.lt _ q; omega
    have hgg2 := hgg.trans hg2
    generalize σ1.set a.is { sz := 1, els := bs (storeL d1.S at'.toNat b) ++ a.sps, gen := a.gs, wr := true, pure := true } = σ2 at *
    repeat' (first
      | ((conv => whnf) <;> (first
      | ((with_reducible apply BytR.lenW) ; (focus assumption))
      ))
      )
    all_goals (conv => whnf)
    all_goals (try dsimp only)
    refine over_ok ⟨by omega, by omega, by omega, by omega⟩ (fun k τ => DevH τ a (({ d1 with S := storeL d1.S at'.toNat b } : Dv).setM (stE k (at' / 64) (d1.es, d1.clock))) ∧ τ[σ.length]? = some { sz := 1, els := [[.ptr a.i 0 0 0]], gen := 0, wr := true, pure := false } ∧ GrP σ τ a.has) σ2 ⟨h2, hbox2, hgg2⟩ ?_ _ ?_
    · rintro k τ _ ⟨j1, j2, j3⟩
      exact St1_ok j1 j2 _ _ ⟨j1.setM _ _, (GrP.set (.inr (.inr (.inr rfl))) _ : GrP τ _ a.has).2 _ _ j2 fun q => by have := h.lt _ q; omega, j3.setT (.inr (.inr (.inr rfl))) _⟩
    · rintro τ ⟨j1, j2, j3⟩
      skip
      all_goals (conv => whnf)
      all_goals (try dsimp only)
      exact hQ _ j1 j3
  · rw [if_pos he] at hQ
    repeat' (first
      | ((conv => whnf) <;> (first
      | (with_reducible refine and_same ?_)
      | ((with_reducible apply Br.yes) ; (focus omega))
      ))
      )
    all_goals (conv => whnf)
    all_goals (try dsimp only)
    exact hQ _ h1 hgg
theorem Flush_ok {σ : AH} {a : DA} {d : Dv} (h : DevH σ a d) (hl : d.S.length ≤ 262144) (ha : d.armed ≤ 9223372036854775807 ∧ 0 ≤ d.armed) (at' n : Int) (Q : AV → AH → Prop)
    (hQ : ∀ σ', DevH σ' a (flushD d at' n).2 → GrP σ σ' a.has → Q (.int .i64 (flushD d at' n).1) σ') : CallS Try.prog F.pmem_Device_Flush [.ptr a.i 0 0 0, .int .i64 at', .int .i64 n] σ Q := by
  have hg0 : Gr σ (newB σ 1 [[.ptr a.i 0 0 0]] false) none := by (repeat (first
        | exact Gr.refl _ _
        | refine Gr.addN ?_ _
        ))
  refine call_of_body mixed fc_pmem_Device_Flush_ok (by simp [fc_pmem_Device_Flush]) ?_
  repeat' (first
    | ((with_reducible refine Side.intro ?_) <;> (first
    | exact rfl
    ))
    | ((conv => whnf) <;> (first
    | (with_reducible refine and_side ?_ ?_)
    | ((with_reducible apply blkAt_step) ; (focus (first
    | ((repeat (first
    | exact get_new
    )); done)
    )) ; (focus (first | rfl | assumption | omega)) ; (focus (first | rfl | assumption)) ; (try dsimp only))
    ))
    )
  all_goals (conv => whnf)
  all_goals (try dsimp only)
  refine begins_ok (h.keepN hg0) (by omega) ha at' n _ ?_
  intro σ1 h1 hg1
  have hbox : σ1[σ.length]? = some { sz := 1, els := [[.ptr a.i 0 0 0]], gen := 0, wr := true, pure := false } := hg1.2 _ _ get_new fun q => by have := h.lt _ q; omega
  have hgg : GrP σ σ1 a.has := (GrP.of hg0 _).trans hg1
  obtain ⟨s1, s2, s3, s4⟩ := beginD_same d at' n
  have hk : (beginD d at' n).1 = 0 → askD d at' n = 0 := beginD_ok
  unfold flushD at hQ
  generalize beginD d at' n = p at *
  obtain ⟨e, d1⟩ := p
  dsimp only at h1 hk s1 s2 s3 s4 hQ ⊢
  by_cases he : e = 0
  · subst he
    obtain ⟨k1, k2, k3, k4, k5⟩ := askD_ok (hk rfl)
    rw [if_neg (by simp)] at hQ
    repeat' (first
      | ((conv => whnf) <;> (first
      | (with_reducible refine and_same ?_)
      | ((with_reducible apply Br.no) ; (focus omega))
      ))
      )
    all_goals (conv => whnf)
    all_goals (try dsimp only)
    refine over_ok ⟨by omega, by omega, by omega, by omega⟩ (fun k τ => DevH τ a (d1.setM (flE k (at' / 64) (d1.es, d1.clock))) ∧ τ[σ.length]? = some { sz := 1, els := [[.ptr a.i 0 0 0]], gen := 0, wr := true, pure := false } ∧ GrP σ τ a.has) σ1 ⟨h1, hbox, hgg⟩ ?_ _ ?_
    · rintro k τ _ ⟨j1, j2, j3⟩
      refine Fl1_ok j1 j2 _ _ (fun hm => ?_) (fun v hm => ?_)
      · have hm' : mget (flE k (at' / 64) (d1.es, d1.clock)).1 (at' / 64 + k) = none := hm
        refine ⟨?_, j2, j3⟩
        simp only [flE, hm']
        exact j1
      · have hm' : mget (flE k (at' / 64) (d1.es, d1.clock)).1 (at' / 64 + k) = some v := hm
        refine ⟨?_, (GrP.set (.inr (.inr (.inr rfl))) _ : GrP τ _ a.has).2 _ _ j2 fun q => by have := h.lt _ q; omega, j3.setT (.inr (.inr (.inr rfl))) _⟩
        simp only [flE, hm']
        exact j1.setM _ _
    · rintro τ ⟨j1, j2, j3⟩
      skip
      all_goals (conv => whnf)
      all_goals (try dsimp only)
      exact hQ _ j1 j3
  · rw [if_pos he] at hQ
    repeat' (first
      | ((conv => whnf) <;> (first
      | (with_reducible refine and_same ?_)
      | ((with_reducible apply Br.yes) ; (focus omega))
      ))
      )
    all_goals (conv => whnf)
    all_goals (try dsimp only)
    exact hQ _ h1 hgg
end Go.Proofs.Ytppccaacbpkgiaa

namespace Go.Proofs.Ytppccaacbpkgiaa
open Go Go.Proofs.Ytppccaacbpkgiaa.V
set_option maxRecDepth 20000
attribute [local irreducible] CallS AOK AOKn ALoop Side Ref.ok
/-! ### The dirty lines -/
structure MapOk (es : List ME) (clock : Nat) : Prop where
  keys : (es.map ME.key).Nodup
  borns : (es.map ME.born).Nodup
  lt : ∀ e, e ∈ es → e.born < clock
theorem find_born : ∀ {es : List ME}, (es.map ME.born).Nodup → ∀ {e : ME}, e ∈ es → es.find? (fun x => x.born == e.born) = some e
  | x :: r, hn, e, he => by
    simp only [List.map_cons, List.nodup_cons] at hn
    rcases List.mem_cons.1 he with rfl | he
    · simp
    · have : x.born ≠ e.born := fun q => hn.1 (by rw [q]; exact List.mem_map_of_mem he)
      rw [List.find?_cons_of_neg (by simpa using this)]
      exact find_born hn.2 he
theorem srt_eq {l m : List Int} (h : l.Perm m) : srt l = srt m :=
  List.Perm.eq_of_pairwise (fun a b _ _ h1 h2 => by omega) (srt_sorted l) (srt_sorted m) (((srt_perm l).trans h).trans (srt_perm m).symm)
theorem Dirty_ok {σ : AH} {a : DA} {d : Dv} (h : DevH σ a d) (hm : MapOk d.es d.clock) (hlen : d.es.length ≤ 4096) (Q : AV → AH → Prop)
    (hQ : ∀ y σ', Gr σ σ' none → Own σ' 1 y (is (srt (d.es.map ME.key))) → New σ y → Q y σ') : CallS Try.prog F.pmem_Device_Dirty [.ptr a.i 0 0 0] σ Q := by
  obtain ⟨box, lasts, seen, map, ne⟩ := id h
  have him : a.im < σ.length := h.lt _ (.inr (.inr (.inr rfl)))
  refine call_of_body mixed fc_pmem_Device_Dirty_ok (by simp [fc_pmem_Device_Dirty]) ?_
  repeat' (first
    | ((conv => whnf) <;> (first
    | ((with_reducible apply blkAt_step) ; (focus (first
    | ((repeat (first
    | assumption
    )); done)
    )) ; (focus (first | rfl | assumption | omega)) ; (focus (first | rfl | assumption)) ; (try dsimp only))
    | ((with_reducible apply mapW_step) ; (focus (first
    | ((repeat (first
    | assumption
    )); done)
    )) ; (try dsimp only))
    ))
    )
  all_goals (conv => whnf)
  all_goals (try dsimp only)
  refine loop_at (α := List ME × List ME × AV × AH) (fun q => [(3, q.2.2.1)]) (fun q => q.2.2.2) (fun q => (q.1 ++ q.2.1).Perm d.es ∧ Own q.2.2.2 1 q.2.2.1 (is (q.1.map ME.key)) ∧ (∀ id, q.2.2.1.bid = some id → σ.length < id) ∧ q.2.2.2[σ.length]? = some (iblk a.im 0 d.clock (q.1.map ME.born) d.clock) ∧ Gr σ q.2.2.2 none) (fun q => q.2.1.length) ([], d.es, .nils, σ ++ [iblk a.im 0 d.clock [] d.clock]) ⟨.refl _, Own.nil _ _, (fun id e => by cases e), get_new, Gr.append _ _⟩ rfl rfl ?_
  rintro ⟨V, R, y, τ⟩ ⟨hp, ho, hy, hit, hg⟩
  dsimp only at hp ho hy hit hg ⊢
  have hmap := hg.2 _ _ map (by simp)
  have hVR : V.length + R.length = d.es.length := by rw [← hp.length_eq, List.length_append]
  have hnd : ((V ++ R).map ME.born).Nodup := (hp.map _).nodup_iff.2 hm.borns
  skip
  all_goals (conv => whnf)
  all_goals (try dsimp only)
  refine nextW_step hit hmap ?_ ?_ ?_
  · cases hes : d.es with
    | nil => exact .inr (.inl rfl)
    | cons e r => exact .inr (.inr ⟨e, by simp, hm.lt e (by rw [hes]; simp)⟩)
  · intro hall
    have hR : R = [] := by
      cases R with
      | nil => rfl
      | cons e r =>
        exfalso
        have he : e ∈ d.es := hp.mem_iff.1 (by simp)
        have := hall e he (hm.lt e he)
        rw [List.map_append, List.nodup_append] at hnd
        exact hnd.2.2 _ this _ (by simp) rfl
    subst hR
    rw [List.append_nil] at hp
    skip
    all_goals (conv => whnf)
    all_goals (try dsimp only)
    show CallS Try.prog (Try.lays189_ren.f 189) [y] τ _
    refine sort_call Try.lays189 (bodied_of fc_slices_Sort_ok) ho (by simp; omega) fun σ' hg' ho' => ?_
    have es : srt (V.map ME.key) = srt (d.es.map ME.key) := srt_eq (hp.map _)
    rw [es] at ho'
    have hgr : Gr σ σ' none := ⟨Nat.le_trans hg.1 hg'.1, fun id b hb _ => hg'.2 _ _ (hg.2 _ _ hb (by simp)) fun q => by
      have := hy id q
      have := (List.getElem?_eq_some_iff.1 hb).1
      omega⟩
    skip
    all_goals (conv => whnf)
    all_goals (try dsimp only)
    exact hQ y σ' hgr ho' fun id q => Nat.le_of_lt (hy id q)
  · intro e he hns
    have heR : e ∈ R := by
      rcases List.mem_append.1 (hp.mem_iff.2 he) with q | q
      · exact absurd (List.mem_map_of_mem q) hns
      · exact q
    obtain ⟨s, t, rfl⟩ := List.append_of_mem heR
    skip
    all_goals (conv => whnf)
    all_goals (try dsimp only)
    refine entryW_step (s := e.born) (e := e) (get_set hit) (get_set_ne (by omega) hmap) (by simp) (find_born hm.borns he) ?_
    repeat' (first
      | ((with_reducible refine Side.intro ?_) <;> (first
      | omega
      | exact Nat.le_of_ble_eq_true rfl
      | exact rfl
      ))
      | ((conv => whnf) <;> (first
      | (with_reducible refine and_same ?_)
      | (with_reducible refine and_side ?_ ?_)
      | ((with_reducible apply blkAt_step) ; (focus (first
      | ((repeat (first
      | exact get_new
      )); done)
      )) ; (focus (first | rfl | assumption | omega)) ; (focus (first | rfl | assumption)) ; (try dsimp only))
      | (with_reducible refine AppC.frz ?_)
      | (with_reducible refine rowsR_rsl ?_)
      ))
      )
    all_goals (conv => whnf)
    all_goals (try dsimp only)
    refine appendR_own (rows := is (V.map ME.key)) ?_ ?_ ?_
    · refine Own.keep (o := some σ.length) ?_ ho ?_
      · exact (Gr.set _ _ _).trans ((Gr.append _ _).anyO _)
      · exact .inr fun q => by have := hy _ q.symm; omega
    · simp only [is_length, List.length_map, List.length_take]
      simp only [List.length_append, List.length_cons] at hVR
      omega
    · intro y' τ' ho' hg' hb'
      skip
      all_goals (conv => whnf)
      all_goals (try dsimp only)
      have hset : Gr σ (τ.set σ.length (iblk a.im 0 d.clock (V.map ME.born ++ [e.born]) d.clock)) none := by
        refine Gr.setNew hg (Nat.le_refl _) _
      have hlen' : σ.length + 1 ≤ τ.length := (List.getElem?_eq_some_iff.1 hit).1
      have hy' : ∀ id, y'.bid = some id → σ.length < id := by
        intro id q
        rcases hb' with hb' | hb'
        · exact hy id (by rw [← hb']; exact q)
        · rw [hb'] at q
          cases q
          simp only [newB_length, List.length_set]
          omega
      have hst : ∀ id b, id < τ.length → y.bid ≠ some id → (τ.set σ.length (iblk a.im 0 d.clock (V.map ME.born ++ [e.born]) d.clock))[id]? = some b → τ'[id]? = some b := fun id b _ hn hb => hg'.2 _ _ (get_old hb) hn
      refine ⟨(V ++ [e], s ++ t, y', τ'), rfl, rfl, ⟨?_, ?_, hy', ?_, ?_⟩, by simp⟩
      · have := List.perm_middle (a := e) (l₁ := s) (l₂ := t)
        refine List.Perm.trans ?_ hp
        simp only [List.append_assoc, List.singleton_append]
        exact this.symm.append_left V
      · have e1 : is ((V ++ [e]).map ME.key) = is (V.map ME.key) ++ [[.int .i64 e.key]] := by simp [is]
        dsimp only
        rw [e1]
        exact ho'
      · dsimp only
        rw [List.map_append]
        exact hst _ _ (by omega) (fun q => by have := hy _ q; omega) (get_set hit)
      · refine ⟨Nat.le_trans hg.1 (Nat.le_trans (by simp only [newB_length, List.length_set]; omega) hg'.1), fun id b hb _ => ?_⟩
        have hlt := (List.getElem?_eq_some_iff.1 hb).1
        exact hst id b (by omega) (fun q => by have := hy _ q; omega) (hset.2 _ _ hb (by simp))
end Go.Proofs.Ytppccaacbpkgiaa

namespace Go.Proofs.Ytppccaacbpkgiaa
open Go Go.Proofs.Ytppccaacbpkgiaa.V
/-! ### Maps, plain -/
theorem mput_nil (n : Int) (v : ML) (c : Nat) : mputE [] n v c = [⟨n, v, c⟩] ∧ mputC [] n c = c + 1 := ⟨rfl, rfl⟩
theorem mput_cons (x : ME) (r : List ME) (n : Int) (v : ML) (c : Nat) : mputE (x :: r) n v c = (if x.key = n then { x with val := v } :: r else x :: mputE r n v c) ∧ mputC (x :: r) n c = (if x.key = n then c else mputC r n c) := by
  unfold mputE mputC
  rw [List.findIdx?_cons]
  by_cases h : x.key = n
  · simp [h]
  · cases hf : r.findIdx? (fun e => e.key == n) <;> simp [h, hf]
theorem mdel_nil (n : Int) : mdel [] n = [] := rfl
theorem mdel_cons (x : ME) (r : List ME) (n : Int) : mdel (x :: r) n = if x.key = n then r else x :: mdel r n := by
  unfold mdel
  rw [List.findIdx?_cons]
  by_cases h : x.key = n
  · simp [h]
  · cases hf : r.findIdx? (fun e => e.key == n) <;> simp [h, hf]
theorem mget_cons (x : ME) (r : List ME) (k : Int) : mget (x :: r) k = if x.key = k then some x.val else mget r k := by
  unfold mget
  by_cases h : x.key = k
  · simp [h]
  · simp [h, List.find?_cons_of_neg]
theorem mget_mput (n : Int) (v : ML) (c : Nat) (k : Int) : ∀ es : List ME, mget (mputE es n v c) k = if k = n then some v else mget es k
  | [] => by
    rw [(mput_nil n v c).1, mget_cons]
    by_cases h : k = n
    · simp [h]
    · rw [if_neg (Ne.symm h), if_neg h]
  | x :: r => by
    have ih := mget_mput n v c k r
    rw [(mput_cons x r n v c).1]
    split
    · rename_i h
      rw [mget_cons, mget_cons]
      dsimp only
      by_cases hk : k = n
      · simp [h, hk]
      · rw [if_neg (by omega), if_neg hk, if_neg (by omega)]
    · rename_i h
      rw [mget_cons, mget_cons, ih]
      by_cases hk : k = n
      · simp [hk, h]
      · simp [hk]
theorem mget_mem {k : Int} {v : ML} : ∀ {es : List ME}, mget es k = some v → ∃ e, e ∈ es ∧ e.key = k ∧ e.val = v
  | x :: r, h => by
    rw [mget_cons] at h
    split at h
    · cases h; exact ⟨x, by simp, ‹_›, rfl⟩
    · obtain ⟨e, h1, h2, h3⟩ := mget_mem h
      exact ⟨e, by simp [h1], h2, h3⟩
theorem mget_none {k : Int} : ∀ {es : List ME}, mget es k = none ↔ k ∉ es.map ME.key
  | [] => by simp [mget]
  | x :: r => by
    rw [mget_cons, List.map_cons, List.mem_cons]
    have ih := mget_none (k := k) (es := r)
    by_cases h : x.key = k
    · simp [h]
    · rw [if_neg h, ih]
      have : ¬ k = x.key := fun e => h e.symm
      simp [this]
theorem mget_mdel (n k : Int) : ∀ {es : List ME}, (es.map ME.key).Nodup → mget (mdel es n) k = if k = n then none else mget es k
  | [], _ => by simp [mdel_nil, mget]
  | x :: r, hn => by
    simp only [List.map_cons, List.nodup_cons] at hn
    have ih := mget_mdel n k hn.2
    rw [mdel_cons, mget_cons]
    by_cases h : x.key = n
    · rw [if_pos h]
      by_cases hk : k = n
      · rw [if_pos hk, hk, mget_none, ← h]; exact hn.1
      · rw [if_neg hk, if_neg (by omega)]
    · rw [if_neg h, mget_cons, ih]
      by_cases hk : k = n
      · simp [hk, h]
      · simp [hk]
theorem mdel_sub (n : Int) : ∀ es : List ME, (mdel es n).Sublist es
  | [] => List.Sublist.refl _
  | x :: r => by
    rw [mdel_cons]
    split
    · exact List.sublist_cons_self _ _
    · exact (mdel_sub n r).cons_cons _
theorem mput_mem {n : Int} {v : ML} {c : Nat} {e : ME} : ∀ {es : List ME}, e ∈ mputE es n v c → (e ∈ es ∨ (e.key = n ∧ e.val = v ∧ ((∃ e', e' ∈ es ∧ e'.born = e.born ∧ e'.key = n) ∨ e.born = c ∧ n ∉ es.map ME.key)))
  | [], h => by
    rw [(mput_nil n v c).1] at h
    simp only [List.mem_singleton] at h
    subst h
    exact .inr ⟨rfl, rfl, .inr ⟨rfl, by simp⟩⟩
  | x :: r, h => by
    rw [(mput_cons x r n v c).1] at h
    split at h
    · rename_i hx
      rcases List.mem_cons.1 h with rfl | h
      · exact .inr ⟨hx, rfl, .inl ⟨x, by simp, rfl, hx⟩⟩
      · exact .inl (by simp [h])
    · rename_i hx
      rcases List.mem_cons.1 h with rfl | h
      · exact .inl (by simp)
      · rcases mput_mem h with h | ⟨h1, h2, ⟨e', h3, h4, h5⟩ | ⟨h3, h4⟩⟩
        · exact .inl (by simp [h])
        · exact .inr ⟨h1, h2, .inl ⟨e', by simp [h3], h4, h5⟩⟩
        · exact .inr ⟨h1, h2, .inr ⟨h3, by simp only [List.map_cons, List.mem_cons, not_or]; exact ⟨fun q => hx q.symm, h4⟩⟩⟩
theorem mput_keys (n : Int) (v : ML) (c : Nat) : ∀ es : List ME, (mputE es n v c).map ME.key = es.map ME.key ++ (if n ∈ es.map ME.key then [] else [n]) ∧ (mputE es n v c).map ME.born = es.map ME.born ++ (if n ∈ es.map ME.key then [] else [c]) ∧ mputC es n c = if n ∈ es.map ME.key then c else c + 1
  | [] => by simp [(mput_nil n v c).1, (mput_nil n v c).2]
  | x :: r => by
    obtain ⟨h1, h2, h3⟩ := mput_keys n v c r
    rw [(mput_cons x r n v c).1, (mput_cons x r n v c).2]
    by_cases h : x.key = n
    · simp [h]
    · have : ¬ n = x.key := fun e => h e.symm
      simp [h, h1, h2, h3, this]
theorem MapOk.mput {es : List ME} {clock : Nat} (h : MapOk es clock) (n : Int) (v : ML) : MapOk (mputE es n v clock) (mputC es n clock) := by
  obtain ⟨h1, h2, h3⟩ := mput_keys n v clock es
  refine ⟨?_, ?_, ?_⟩
  · rw [h1]
    split
    · rw [List.append_nil]; exact h.keys
    · rename_i hn
      rw [List.nodup_append]
      refine ⟨h.keys, by simp, ?_⟩
      intro a ha b hb
      simp only [List.mem_singleton] at hb
      subst hb
      exact fun e => hn (e ▸ ha)
  · rw [h2]
    split
    · rw [List.append_nil]; exact h.borns
    · rename_i hn
      rw [List.nodup_append]
      refine ⟨h.borns, by simp, ?_⟩
      intro a ha b hb
      simp only [List.mem_singleton] at hb
      subst hb
      obtain ⟨e, he, rfl⟩ := List.mem_map.1 ha
      exact Nat.ne_of_lt (h.lt e he)
  · intro e he
    have hb : e.born ∈ (mputE es n v clock).map ME.born := List.mem_map_of_mem he
    rw [h2] at hb
    rw [h3]
    rcases List.mem_append.1 hb with q | q
    · obtain ⟨e', he', q⟩ := List.mem_map.1 q
      have := h.lt e' he'
      split <;> omega
    · split at q
      · simp at q
      · rename_i hn
        simp only [List.mem_singleton] at q
        rw [if_neg hn]; omega
theorem MapOk.mdel {es : List ME} {clock : Nat} (h : MapOk es clock) (n : Int) : MapOk (mdel es n) clock := by
  have hs := mdel_sub n es
  exact ⟨(hs.map _).nodup h.keys, (hs.map _).nodup h.borns, fun e he => h.lt e (hs.subset he)⟩
theorem MapOk.nil (c : Nat) : MapOk [] c := ⟨by simp, by simp, by simp⟩
/-! ### A device that is right -/
structure DvOk (d : Dv) : Prop where
  map : MapOk d.es d.clock
  vals : ∀ e, e ∈ d.es → ∃ b, e.val = .bool b
  rng : ∀ e, e ∈ d.es → 0 ≤ e.key ∧ 64 * e.key + 64 ≤ d.L.length
  len : d.S.length = d.L.length
  le : d.L.length ≤ 262144
  al : d.L.length % 64 = 0
  arm : d.armed ≤ 9223372036854775807 ∧ 0 ≤ d.armed
theorem incr_len : ∀ {l : List Int} {a b : Int}, l.Pairwise (· < ·) → (∀ x, x ∈ l → a ≤ x ∧ x < b) → a ≤ b → (l.length : Int) ≤ b - a
  | [], a, b, _, _, hab => by simp; omega
  | x :: r, a, b, hp, hx, hab => by
    have h1 := hx x (by simp)
    rw [List.pairwise_cons] at hp
    have := incr_len (a := x + 1) hp.2 (fun y hy => ⟨by have := hp.1 y hy; omega, (hx y (by simp [hy])).2⟩) (by omega)
    simp only [List.length_cons]
    omega
theorem srt_lt {l : List Int} (h : l.Nodup) : (srt l).Pairwise (· < ·) := by
  have h1 := srt_sorted l
  have h2 : (srt l).Nodup := (srt_perm l).nodup_iff.2 h
  exact (h1.and h2).imp fun ⟨a, b⟩ => by omega
theorem DvOk.few {d : Dv} (h : DvOk d) : d.es.length ≤ 4096 := by
  have h1 := incr_len (a := 0) (b := 4096) (srt_lt h.map.keys) (fun x hx => by
    obtain ⟨e, he, rfl⟩ := List.mem_map.1 ((srt_perm _).mem_iff.1 hx)
    have := h.rng e he
    have := h.le
    omega) (by omega)
  rw [srt_length, List.length_map] at h1
  omega
end Go.Proofs.Ytppccaacbpkgiaa

namespace Go.Proofs.Ytppccaacbpkgiaa
open Go Go.Proofs.Ytppccaacbpkgiaa.V
set_option maxRecDepth 20000
attribute [local irreducible] CallS AOK AOKn ALoop Side Ref.ok
def flushed (es : List ME) (k : Int) : Bool := match mget es k with | some (.bool b) => b | _ => false
def fenceS (d : Dv) (k : Int) : Dv := if flushed d.es k = true then { d with L := lastL d.L d.S k.toNat, es := mdel d.es k } else d
def fenceD (d : Dv) : Int × Dv :=
  match beginD d 0 0 with
  | (e, d1) => if e ≠ 0 then (e, d1) else (0, (srt (d1.es.map ME.key)).foldl fenceS d1)
theorem lastL_length {L S : List UInt8} {k : Nat} (h : S.length = L.length) (hk : 64 * k + 64 ≤ L.length) : (lastL L S k).length = L.length := by
  simp [lastL]; omega
/-- A step keeps what it leaves. -/
structure DvLt (d0 d : Dv) : Prop where
  ok : DvOk d
  L : d.L.length = d0.L.length
  S : d.S = d0.S
  clock : d.clock = d0.clock
  armed : d.armed = d0.armed
  down : d.down = d0.down
theorem DvLt.refl {d : Dv} (h : DvOk d) : DvLt d d := ⟨h, rfl, rfl, rfl, rfl, rfl⟩
theorem DvLt.trans {d0 d1 d2 : Dv} (h : DvLt d0 d1) (k : DvLt d1 d2) : DvLt d0 d2 := ⟨k.ok, k.L.trans h.L, k.S.trans h.S, k.clock.trans h.clock, k.armed.trans h.armed, k.down.trans h.down⟩
theorem DvOk.fenceS {d : Dv} (h : DvOk d) {k : Int} (hk : 0 ≤ k ∧ 64 * k + 64 ≤ d.L.length) : DvLt d (fenceS d k) := by
  unfold Go.Proofs.Ytppccaacbpkgiaa.fenceS
  split
  · have hl : (lastL d.L d.S k.toNat).length = d.L.length := lastL_length h.len (by omega)
    have hs := mdel_sub k d.es
    exact ⟨⟨h.map.mdel k, fun e he => h.vals e (hs.subset he), fun e he => by dsimp only; rw [hl]; exact h.rng e (hs.subset he), by dsimp only; rw [hl]; exact h.len, by dsimp only; rw [hl]; exact h.le, by dsimp only; rw [hl]; exact h.al, h.arm⟩, hl, rfl, rfl, rfl, rfl⟩
  · exact .refl h
theorem DvOk.fenceL : ∀ {l : List Int} {d : Dv}, DvOk d → (∀ k, k ∈ l → 0 ≤ k ∧ 64 * k + 64 ≤ d.L.length) → DvLt d (l.foldl Go.Proofs.Ytppccaacbpkgiaa.fenceS d)
  | [], d, h, _ => .refl h
  | k :: r, d, h, hk => by
    have h1 := h.fenceS (hk k (by simp))
    exact h1.trans (DvOk.fenceL h1.ok fun k' hk' => by rw [h1.L]; exact hk k' (by simp [hk']))
theorem DvOk.keysIn {d : Dv} (h : DvOk d) {k : Int} (hk : k ∈ srt (d.es.map ME.key)) : 0 ≤ k ∧ 64 * k + 64 ≤ d.L.length := by
  obtain ⟨e, he, rfl⟩ := List.mem_map.1 ((srt_perm _).mem_iff.1 hk)
  exact h.rng e he
theorem DvOk.begin {d : Dv} (h : DvOk d) (at' n : Int) : DvOk (beginD d at' n).2 := by
  have ha := h.arm
  unfold beginD
  repeat' split
  all_goals first | exact h | exact ⟨h.map, h.vals, h.rng, h.len, h.le, h.al, by dsimp only; omega⟩
theorem Own.keepP {σ σ' : AH} {sz : Nat} {x : AV} {rows : List (List AV)} {X : Nat → Prop} (h : Own σ sz x rows) (hg : GrP σ σ' X) (hx : ∀ id, X id → x.bid ≠ some id) : Own σ' sz x rows := by
  rcases h with ⟨rfl, h⟩ | ⟨id, gen, sp, rfl, h⟩
  · exact .inl ⟨rfl, h⟩
  · exact .inr ⟨id, gen, sp, rfl, hg.2 _ _ h fun q => hx id q rfl⟩
theorem Fence_ok {σ : AH} {a : DA} {d : Dv} (h : DevH σ a d) (hd : DvOk d) (Q : AV → AH → Prop)
    (hQ : ∀ σ', DevH σ' a (fenceD d).2 → GrP σ σ' a.has → Q (.int .i64 (fenceD d).1) σ') : CallS Try.prog F.pmem_Device_Fence [.ptr a.i 0 0 0] σ Q := by
  have hle := hd.le
  have hlen := hd.len
  refine call_of_body mixed fc_pmem_Device_Fence_ok (by simp [fc_pmem_Device_Fence]) ?_
  skip
  all_goals (conv => whnf)
  all_goals (try dsimp only)
  refine begins_ok h (by omega) hd.arm 0 0 _ ?_
  intro σ1 h1 hg1
  have hd1 := hd.begin 0 0
  unfold fenceD at hQ
  obtain ⟨s1, s2, s3, s4⟩ := beginD_same d 0 0
  generalize beginD d 0 0 = p at *
  obtain ⟨e, d1⟩ := p
  dsimp only at h1 hd1 hQ s1 s2 s3 s4 ⊢
  by_cases he : e = 0
  · subst he
    rw [if_neg (by simp)] at hQ
    repeat' (first
      | ((conv => whnf) <;> (first
      | (with_reducible refine and_same ?_)
      | ((with_reducible apply Br.no) ; (focus omega))
      ))
      )
    all_goals (conv => whnf)
    all_goals (try dsimp only)
    refine Dirty_ok h1 hd1.map hd1.few _ fun y σ2 hg2 ho hy => ?_
    have h2 := h1.keepN hg2
    have hkeys : ∀ k, k ∈ srt (d1.es.map ME.key) → 0 ≤ k ∧ 64 * k + 64 ≤ d1.L.length := fun k hk => hd1.keysIn hk
    have hl : (srt (d1.es.map ME.key)).length ≤ 4096 := by rw [srt_length, List.length_map]; exact hd1.few
    have hil := is_length (srt (d1.es.map ME.key))
    have hgg : GrP σ σ2 a.has := hg1.trans (.of hg2 _)
    have hyn : ∀ id, a.has id → y.bid ≠ some id := fun id q r => by
      have := h1.lt id q
      have := hy id r
      omega
    generalize srt (d1.es.map ME.key) = l at *
    repeat' (first
      | ((conv => whnf) <;> (first
      | ((with_reducible apply lenR_own) ; (focus assumption))
      ))
      )
    all_goals (conv => whnf)
    all_goals (try dsimp only)
    refine loop_at (α := Nat × AH) (fun q => [(14, .int .i64 q.1)]) (fun q => q.2) (fun q => q.1 ≤ l.length ∧ DevH q.2 a ((l.take q.1).foldl fenceS d1) ∧ Own q.2 1 y (is l) ∧ GrP σ q.2 a.has) (fun q => l.length - q.1) (0, σ2) ⟨Nat.zero_le _, h2, ho, hgg⟩ rfl rfl ?_
    rintro ⟨i, τ⟩ ⟨hi, hD, hO, hG⟩
    dsimp only at hi hD hO hG ⊢
    by_cases hlt : i < l.length
    · obtain ⟨k, hk, hk'⟩ := getN hlt
      have hdi := (DvOk.fenceL (l := l.take i) hd1 fun k' hk' => hkeys k' (List.mem_of_mem_take hk'))
      have et : l.take (i + 1) = l.take i ++ [k] := by rw [List.take_add_one, hk']; rfl
      have ef : (l.take (i + 1)).foldl fenceS d1 = fenceS ((l.take i).foldl fenceS d1) k := by rw [et, List.foldl_append]; rfl
      have hkr := hkeys k (List.mem_of_getElem? hk')
      generalize (l.take i).foldl fenceS d1 = di at *
      obtain ⟨box, lasts, seen, map, ne⟩ := id hD
      obtain ⟨kn, rfl⟩ := Int.eq_ofNat_of_zero_le hkr.1
      have hno : flushed di.es kn = false → fenceS di kn = di := fun q => if_neg (by rw [q]; simp)
      cases hm : mget di.es kn with
      | none =>
        rw [hno (by rw [flushed, hm])] at ef
        repeat' (first
          | ((with_reducible refine Side.intro ?_) <;> (first
          | omega
          ))
          | ((conv => whnf) <;> (first
          | (with_reducible refine and_same ?_)
          | ((with_reducible apply Br.yes) ; (focus omega))
          | ((with_reducible apply blkAt_step) ; (focus (first
          | ((repeat (first
          | assumption
          )); done)
          )) ; (focus (first | rfl | assumption | omega)) ; (focus (first | rfl | assumption)) ; (try dsimp only))
          | ((with_reducible apply nthR_is1) ; (focus assumption))
          | ((with_reducible apply ia_own) ; (focus assumption))
          | ((with_reducible apply mapW_step) ; (focus (first
          | ((repeat (first
          | assumption
          )); done)
          )) ; (try dsimp only))
          | ((with_reducible apply lookW_none) ; (focus assumption))
          | (with_reducible refine nthR_z ?_)
          | ((with_reducible apply nthR_left) ; (focus (first | omega | (simp only [List.length_append, List.length_cons, List.length_nil, List.length_take, List.length_drop, bs_length]; omega))))
          | (with_reducible intro _)
          ))
          )
        all_goals (conv => whnf)
        all_goals (try dsimp only)
        exact ⟨(i + 1, τ), rfl, rfl, ⟨by dsimp only; omega, by dsimp only; rw [ef]; exact hD, hO, hG⟩, by dsimp only; omega⟩
      | some v =>
        obtain ⟨e0, he0, _, hv⟩ := mget_mem hm
        obtain ⟨b, hb⟩ := hdi.ok.vals e0 he0
        rw [hb] at hv
        subst hv
        cases b with
        | false =>
          rw [hno (by rw [flushed, hm])] at ef
          repeat' (first
            | ((with_reducible refine Side.intro ?_) <;> (first
            | omega
            ))
            | ((conv => whnf) <;> (first
            | (with_reducible refine and_same ?_)
            | ((with_reducible apply Br.yes) ; (focus omega))
            | ((with_reducible apply blkAt_step) ; (focus (first
            | ((repeat (first
            | assumption
            )); done)
            )) ; (focus (first | rfl | assumption | omega)) ; (focus (first | rfl | assumption)) ; (try dsimp only))
            | ((with_reducible apply nthR_is1) ; (focus assumption))
            | ((with_reducible apply ia_own) ; (focus assumption))
            | ((with_reducible apply mapW_step) ; (focus (first
            | ((repeat (first
            | assumption
            )); done)
            )) ; (try dsimp only))
            | ((with_reducible apply lookW_some) ; (focus assumption))
            | (with_reducible refine nthR_z ?_)
            | ((with_reducible apply nthR_left) ; (focus (first | omega | (simp only [List.length_append, List.length_cons, List.length_nil, List.length_take, List.length_drop, bs_length]; omega))))
            | (with_reducible intro _)
            ))
            )
          all_goals (conv => whnf)
          all_goals (try dsimp only)
          exact ⟨(i + 1, τ), rfl, rfl, ⟨by dsimp only; omega, by dsimp only; rw [ef]; exact hD, hO, hG⟩, by dsimp only; omega⟩
        | true =>
          have ef' : fenceS di kn = { di with L := lastL di.L di.S kn, es := mdel di.es kn } := if_pos (by rw [flushed, hm])
          rw [ef'] at ef
          have hdL := hdi.L
          have hle1 := hdi.ok.le
          repeat' (first
            | ((with_reducible refine Side.intro ?_) <;> (first
            | omega
            ))
            | ((conv => whnf) <;> (first
            | (with_reducible refine and_same ?_)
            | ((with_reducible apply Br.yes) ; (focus omega))
            | ((with_reducible apply blkAt_step) ; (focus (first
            | ((repeat (first
            | assumption
            )); done)
            )) ; (focus (first | rfl | assumption | omega)) ; (focus (first | rfl | assumption)) ; (try dsimp only))
            | ((with_reducible apply nthR_is1) ; (focus assumption))
            | ((with_reducible apply ia_own) ; (focus assumption))
            | ((with_reducible apply mapW_step) ; (focus (first
            | ((repeat (first
            | assumption
            )); done)
            )) ; (try dsimp only))
            | ((with_reducible apply lookW_some) ; (focus assumption))
            | (with_reducible refine nthR_z ?_)
            | ((with_reducible apply nthR_left) ; (focus (first | omega | (simp only [List.length_append, List.length_cons, List.length_nil, List.length_take, List.length_drop, bs_length]; omega))))
            | (with_reducible intro _)
            ))
            )
          all_goals (conv => whnf)
          all_goals (try dsimp only)
          refine last_ok hD (by omega) hdi.ok.len kn (by omega) _ fun τ1 hD1 hG1 => ?_
          obtain ⟨box1, lasts1, seen1, map1, _⟩ := id hD1
          dsimp only at map1
          have hO1 := Own.keepP hO hG1 hyn
          repeat' (first
            | ((conv => whnf) <;> (first
            | (with_reducible refine and_same ?_)
            | ((with_reducible apply Br.yes) ; (focus omega))
            | ((with_reducible apply blkAt_step) ; (focus (first
            | ((repeat (first
            | assumption
            )); done)
            )) ; (focus (first | rfl | assumption | omega)) ; (focus (first | rfl | assumption)) ; (try dsimp only))
            | ((with_reducible apply mapW_step) ; (focus (first
            | ((repeat (first
            | assumption
            )); done)
            )) ; (try dsimp only))
            ))
            )
          all_goals (conv => whnf)
          all_goals (try dsimp only)
          refine ⟨(i + 1, _), rfl, rfl, ⟨by dsimp only; omega, by dsimp only; rw [ef]; exact hD1.setM _ _, ?_, ?_⟩, by dsimp only; omega⟩
          · exact Own.keepP hO1 (GrP.set (.inr (.inr (.inr rfl))) _) hyn
          · exact (hG.trans hG1).setT (.inr (.inr (.inr rfl))) _
    · have ei : i = l.length := by omega
      subst ei
      rw [List.take_length] at hD
      repeat' (first
        | ((conv => whnf) <;> (first
        | (with_reducible refine and_same ?_)
        | ((with_reducible apply Br.no) ; (focus omega))
        ))
        )
      all_goals (conv => whnf)
      all_goals (try dsimp only)
      exact hQ _ hD hG
  · rw [if_pos he] at hQ
    repeat' (first
      | ((conv => whnf) <;> (first
      | (with_reducible refine and_same ?_)
      | ((with_reducible apply Br.yes) ; (focus omega))
      ))
      )
    all_goals (conv => whnf)
    all_goals (try dsimp only)
    exact hQ _ h1 hg1
end Go.Proofs.Ytppccaacbpkgiaa

namespace Go.Proofs.Ytppccaacbpkgiaa
open Go Go.Proofs.Ytppccaacbpkgiaa.V
set_option maxRecDepth 20000
attribute [local irreducible] CallS AOK AOKn ALoop Side Ref.ok
def bls (l : List Bool) : List (List AV) := l.map fun b => [.bool b]
theorem bls_length (l : List Bool) : (bls l).length = l.length := by simp [bls]
theorem nthR_bls1 {l : List Bool} {n : Nat} {K : List AV → Prop} {b : Bool} (h : l[n]? = some b) (hk : K [.bool b]) : nthR (bls l) n K := nthR_intro (x := [.bool b]) (by simp [bls, h]) hk
/-- Bools, by value or in a block of one's own. -/
inductive BoolR (σ : AH) (x : AV) (l : List Bool) : Prop
  | sl (fr : Bool) (h : x = .sl 1 (bls l) fr)
  | own (h : Own σ 1 x (bls l))
theorem BoolR.keepP {σ σ' : AH} {x : AV} {l : List Bool} {X : Nat → Prop} (h : BoolR σ x l) (hg : GrP σ σ' X) (hx : ∀ id, X id → x.bid ≠ some id) : BoolR σ' x l := by
  rcases h with ⟨fr, rfl⟩ | h
  · exact .sl fr rfl
  · exact .own (Own.keepP h hg hx)
def keptAt (keep : List Bool) (i : Nat) : Bool := keep[i]?.getD false
def crashS (keep : List Bool) (d : Dv) (p : Int × Nat) : Dv := if keptAt keep p.2 = true then { d with L := lastL d.L d.S p.1.toNat } else d
def crashL (keep : List Bool) (d : Dv) : Dv := ((srt (d.es.map ME.key)).zipIdx).foldl (crashS keep) d
def crashD (keep : List Bool) (d : Dv) : Dv := { crashL keep d with S := (crashL keep d).L, es := [], armed := 0, down := false }
/-- What a crash's steps keep. -/
structure DvC (d0 d : Dv) : Prop where
  ok : DvOk d
  es : d.es = d0.es
  L : d.L.length = d0.L.length
  S : d.S = d0.S
  clock : d.clock = d0.clock
theorem DvC.refl {d : Dv} (h : DvOk d) : DvC d d := ⟨h, rfl, rfl, rfl, rfl⟩
theorem DvC.trans {d0 d1 d2 : Dv} (h : DvC d0 d1) (k : DvC d1 d2) : DvC d0 d2 := ⟨k.ok, k.es.trans h.es, k.L.trans h.L, k.S.trans h.S, k.clock.trans h.clock⟩
theorem DvOk.lastC {d : Dv} (h : DvOk d) {k : Int} (hk : 0 ≤ k ∧ 64 * k + 64 ≤ d.L.length) : DvC d { d with L := lastL d.L d.S k.toNat } := by
  have hl : (lastL d.L d.S k.toNat).length = d.L.length := lastL_length h.len (by omega)
  exact ⟨⟨h.map, h.vals, fun e he => by dsimp only; rw [hl]; exact h.rng e he, by dsimp only; rw [hl]; exact h.len, by dsimp only; rw [hl]; exact h.le, by dsimp only; rw [hl]; exact h.al, h.arm⟩, rfl, hl, rfl, rfl⟩
theorem DvOk.crashC {keep : List Bool} : ∀ {l : List (Int × Nat)} {d : Dv}, DvOk d → (∀ p, p ∈ l → 0 ≤ p.1 ∧ 64 * p.1 + 64 ≤ d.L.length) → DvC d (l.foldl (crashS keep) d)
  | [], d, h, _ => .refl h
  | p :: r, d, h, hk => by
    have h1 : DvC d (crashS keep d p) := by
      unfold crashS
      split
      · exact h.lastC (hk p (by simp))
      · exact .refl h
    exact h1.trans (DvOk.crashC h1.ok fun p' hp' => by rw [h1.L]; exact hk p' (by simp [hp']))
theorem Crash_ok {σ : AH} {a : DA} {d : Dv} (h : DevH σ a d) (hd : DvOk d) {x : AV} {keep : List Bool} (hx : BoolR σ x keep) (hkl : keep.length ≤ 1048576) (hbx : ∀ id, a.has id → x.bid ≠ some id) (Q : AV → AH → Prop)
    (hQ : ∀ σ', DevH σ' a (crashD keep d) → GrP σ σ' a.has → Q (.tup []) σ') : CallS Try.prog F.pmem_Device_Crash [.ptr a.i 0 0 0, x] σ Q := by
  have hle := hd.le
  have hlen := hd.len
  refine call_of_body mixed fc_pmem_Device_Crash_ok (by simp [fc_pmem_Device_Crash]) ?_
  skip
  all_goals (conv => whnf)
  all_goals (try dsimp only)
  refine Dirty_ok h hd.map hd.few _ fun y σ2 hg2 ho hy => ?_
  have h2 := h.keepN hg2
  have hkeys : ∀ k, k ∈ srt (d.es.map ME.key) → 0 ≤ k ∧ 64 * k + 64 ≤ d.L.length := fun k hk => hd.keysIn hk
  have hl : (srt (d.es.map ME.key)).length ≤ 4096 := by rw [srt_length, List.length_map]; exact hd.few
  have hil := is_length (srt (d.es.map ME.key))
  have hbl := bls_length keep
  have hgg : GrP σ σ2 a.has := .of hg2 _
  have hyn : ∀ id, a.has id → y.bid ≠ some id := fun id q r => by
    have := h.lt id q
    have := hy id r
    omega
  have hx2 := hx.keepP hgg hbx
  have hcr : crashL keep d = ((srt (d.es.map ME.key)).zipIdx).foldl (crashS keep) d := rfl
  generalize srt (d.es.map ME.key) = l at *
  repeat' (first
    | ((conv => whnf) <;> (first
    | ((with_reducible apply lenR_own) ; (focus assumption))
    ))
    )
  all_goals (conv => whnf)
  all_goals (try dsimp only)
  refine loop_at (α := Nat × AH) (fun q => [(9, .int .i64 q.1)]) (fun q => q.2) (fun q => q.1 ≤ l.length ∧ DevH q.2 a ((l.zipIdx.take q.1).foldl (crashS keep) d) ∧ Own q.2 1 y (is l) ∧ GrP σ q.2 a.has ∧ BoolR q.2 x keep) (fun q => l.length - q.1) (0, σ2) ⟨Nat.zero_le _, h2, ho, hgg, hx2⟩ rfl rfl ?_
  rintro ⟨i, τ⟩ ⟨hi, hD, hO, hG, hX⟩
  dsimp only at hi hD hO hG hX ⊢
  by_cases hlt : i < l.length
  · obtain ⟨k, hk, hk'⟩ := getN hlt
    have hz : l.zipIdx[i]? = some (k, i) := by simp [List.getElem?_zipIdx, hk']
    have hdi := (DvOk.crashC (keep := keep) (l := l.zipIdx.take i) hd fun p hp => by
      obtain ⟨j, hj⟩ := List.getElem?_of_mem (List.mem_of_mem_take hp)
      rw [List.getElem?_zipIdx] at hj
      obtain ⟨k', hk1, hk2⟩ := Option.map_eq_some_iff.1 hj
      rw [← hk2]
      exact hkeys k' (List.mem_of_getElem? hk1))
    have et : l.zipIdx.take (i + 1) = l.zipIdx.take i ++ [(k, i)] := by rw [List.take_add_one, hz]; rfl
    have ef : (l.zipIdx.take (i + 1)).foldl (crashS keep) d = crashS keep ((l.zipIdx.take i).foldl (crashS keep) d) (k, i) := by rw [et, List.foldl_append]; rfl
    have hkr := hkeys k (List.mem_of_getElem? hk')
    generalize (l.zipIdx.take i).foldl (crashS keep) d = di at *
    obtain ⟨kn, rfl⟩ := Int.eq_ofNat_of_zero_le hkr.1
    have hdL := hdi.L
    have hle1 := hdi.ok.le
    have hno : keptAt keep i = false → crashS keep di (kn, i) = di := fun q => if_neg (by dsimp only; rw [q]; simp)
    by_cases hik : i < keep.length
    · obtain ⟨b, hb, hb'⟩ := getN hik
      have hka : keptAt keep i = b := by simp [keptAt, hb']
      cases b with
      | false =>
        rw [hno hka] at ef
        rcases id hX with ⟨fr, rfl⟩ | hXo
        · repeat' (first
            | ((with_reducible refine Side.intro ?_) <;> (first
            | omega
            ))
            | ((conv => whnf) <;> (first
            | (with_reducible refine and_same ?_)
            | ((with_reducible apply Br.yes) ; (focus omega))
            | ((with_reducible apply blkAt_step) ; (focus (first
            | ((repeat (first
            | assumption
            )); done)
            )) ; (focus (first | rfl | assumption | omega)) ; (focus (first | rfl | assumption)) ; (try dsimp only))
            | ((with_reducible apply nthR_bls1) ; (focus assumption))
            | ((with_reducible apply nthR_is1) ; (focus assumption))
            | ((with_reducible apply ia_own) ; (focus assumption))
            | (with_reducible refine ia_sl ?_ ?_)
            | (with_reducible refine nthR_z ?_)
            | ((with_reducible apply nthR_left) ; (focus (first | omega | (simp only [List.length_append, List.length_cons, List.length_nil, List.length_take, List.length_drop, bs_length]; omega))))
            | (with_reducible refine lenR_sl ?_)
            | (with_reducible intro _)
            ))
            )
          all_goals (conv => whnf)
          all_goals (try dsimp only)
          exact ⟨(i + 1, τ), rfl, rfl, ⟨by dsimp only; omega, by dsimp only; rw [ef]; exact hD, hO, hG, hX⟩, by dsimp only; omega⟩
        · repeat' (first
            | ((with_reducible refine Side.intro ?_) <;> (first
            | omega
            ))
            | ((conv => whnf) <;> (first
            | (with_reducible refine and_same ?_)
            | ((with_reducible apply Br.yes) ; (focus omega))
            | ((with_reducible apply blkAt_step) ; (focus (first
            | ((repeat (first
            | assumption
            )); done)
            )) ; (focus (first | rfl | assumption | omega)) ; (focus (first | rfl | assumption)) ; (try dsimp only))
            | ((with_reducible apply nthR_bls1) ; (focus assumption))
            | ((with_reducible apply nthR_is1) ; (focus assumption))
            | ((with_reducible apply lenR_own) ; (focus assumption))
            | ((with_reducible apply ia_own) ; (focus assumption))
            | (with_reducible refine nthR_z ?_)
            | ((with_reducible apply nthR_left) ; (focus (first | omega | (simp only [List.length_append, List.length_cons, List.length_nil, List.length_take, List.length_drop, bs_length]; omega))))
            | (with_reducible intro _)
            ))
            )
          all_goals (conv => whnf)
          all_goals (try dsimp only)
          exact ⟨(i + 1, τ), rfl, rfl, ⟨by dsimp only; omega, by dsimp only; rw [ef]; exact hD, hO, hG, hX⟩, by dsimp only; omega⟩
      | true =>
        have ef' : crashS keep di (kn, i) = { di with L := lastL di.L di.S kn } := if_pos (by dsimp only; rw [hka])
        rw [ef'] at ef
        have fin : ∀ τ1, DevH τ1 a { di with L := lastL di.L di.S kn } → GrP τ τ1 a.has → ((l.zipIdx.take (i + 1)).foldl (crashS keep) d = { di with L := lastL di.L di.S kn }) → (i + 1 ≤ l.length ∧ DevH τ1 a ((l.zipIdx.take (i + 1)).foldl (crashS keep) d) ∧ Own τ1 1 y (is l) ∧ GrP σ τ1 a.has ∧ BoolR τ1 x keep) := fun τ1 q1 q2 q3 => ⟨hlt, by rw [q3]; exact q1, Own.keepP hO q2 hyn, hG.trans q2, hX.keepP q2 hbx⟩
        rcases id hX with ⟨fr, rfl⟩ | hXo
        · repeat' (first
            | ((with_reducible refine Side.intro ?_) <;> (first
            | omega
            ))
            | ((conv => whnf) <;> (first
            | (with_reducible refine and_same ?_)
            | ((with_reducible apply Br.yes) ; (focus omega))
            | ((with_reducible apply blkAt_step) ; (focus (first
            | ((repeat (first
            | assumption
            )); done)
            )) ; (focus (first | rfl | assumption | omega)) ; (focus (first | rfl | assumption)) ; (try dsimp only))
            | ((with_reducible apply nthR_bls1) ; (focus assumption))
            | ((with_reducible apply nthR_is1) ; (focus assumption))
            | ((with_reducible apply ia_own) ; (focus assumption))
            | (with_reducible refine ia_sl ?_ ?_)
            | (with_reducible refine nthR_z ?_)
            | ((with_reducible apply nthR_left) ; (focus (first | omega | (simp only [List.length_append, List.length_cons, List.length_nil, List.length_take, List.length_drop, bs_length]; omega))))
            | (with_reducible refine lenR_sl ?_)
            | (with_reducible intro _)
            ))
            )
          all_goals (conv => whnf)
          all_goals (try dsimp only)
          refine last_ok hD (by omega) hdi.ok.len kn (by omega) _ fun τ1 hD1 hG1 => ?_
          repeat' (first
            | ((conv => whnf) <;> (first
            | (with_reducible refine and_same ?_)
            | ((with_reducible apply Br.yes) ; (focus omega))
            ))
            )
          all_goals (conv => whnf)
          all_goals (try dsimp only)
          exact ⟨(i + 1, τ1), rfl, rfl, fin τ1 hD1 hG1 ef, by dsimp only; omega⟩
        · repeat' (first
            | ((with_reducible refine Side.intro ?_) <;> (first
            | omega
            ))
            | ((conv => whnf) <;> (first
            | (with_reducible refine and_same ?_)
            | ((with_reducible apply Br.yes) ; (focus omega))
            | ((with_reducible apply blkAt_step) ; (focus (first
            | ((repeat (first
            | assumption
            )); done)
            )) ; (focus (first | rfl | assumption | omega)) ; (focus (first | rfl | assumption)) ; (try dsimp only))
            | ((with_reducible apply nthR_bls1) ; (focus assumption))
            | ((with_reducible apply nthR_is1) ; (focus assumption))
            | ((with_reducible apply lenR_own) ; (focus assumption))
            | ((with_reducible apply ia_own) ; (focus assumption))
            | (with_reducible refine nthR_z ?_)
            | ((with_reducible apply nthR_left) ; (focus (first | omega | (simp only [List.length_append, List.length_cons, List.length_nil, List.length_take, List.length_drop, bs_length]; omega))))
            | (with_reducible intro _)
            ))
            )
          all_goals (conv => whnf)
          all_goals (try dsimp only)
          refine last_ok hD (by omega) hdi.ok.len kn (by omega) _ fun τ1 hD1 hG1 => ?_
          repeat' (first
            | ((conv => whnf) <;> (first
            | (with_reducible refine and_same ?_)
            | ((with_reducible apply Br.yes) ; (focus omega))
            ))
            )
          all_goals (conv => whnf)
          all_goals (try dsimp only)
          exact ⟨(i + 1, τ1), rfl, rfl, fin τ1 hD1 hG1 ef, by dsimp only; omega⟩
    · have hka : keptAt keep i = false := by simp [keptAt, List.getElem?_eq_none (Nat.le_of_not_lt hik)]
      rw [hno hka] at ef
      rcases id hX with ⟨fr, rfl⟩ | hXo
      · repeat' (first
          | ((with_reducible refine Side.intro ?_) <;> (first
          | omega
          ))
          | ((conv => whnf) <;> (first
          | (with_reducible refine and_same ?_)
          | ((with_reducible apply Br.yes) ; (focus omega))
          | ((with_reducible apply Br.no) ; (focus omega))
          | ((with_reducible apply blkAt_step) ; (focus (first
          | ((repeat (first
          | assumption
          )); done)
          )) ; (focus (first | rfl | assumption | omega)) ; (focus (first | rfl | assumption)) ; (try dsimp only))
          | ((with_reducible apply nthR_is1) ; (focus assumption))
          | ((with_reducible apply ia_own) ; (focus assumption))
          | (with_reducible refine nthR_z ?_)
          | ((with_reducible apply nthR_left) ; (focus (first | omega | (simp only [List.length_append, List.length_cons, List.length_nil, List.length_take, List.length_drop, bs_length]; omega))))
          | (with_reducible refine lenR_sl ?_)
          | (with_reducible intro _)
          ))
          )
        all_goals (conv => whnf)
        all_goals (try dsimp only)
        exact ⟨(i + 1, τ), rfl, rfl, ⟨by dsimp only; omega, by dsimp only; rw [ef]; exact hD, hO, hG, hX⟩, by dsimp only; omega⟩
      · repeat' (first
          | ((with_reducible refine Side.intro ?_) <;> (first
          | omega
          ))
          | ((conv => whnf) <;> (first
          | (with_reducible refine and_same ?_)
          | ((with_reducible apply Br.yes) ; (focus omega))
          | ((with_reducible apply Br.no) ; (focus omega))
          | ((with_reducible apply blkAt_step) ; (focus (first
          | ((repeat (first
          | assumption
          )); done)
          )) ; (focus (first | rfl | assumption | omega)) ; (focus (first | rfl | assumption)) ; (try dsimp only))
          | ((with_reducible apply nthR_is1) ; (focus assumption))
          | ((with_reducible apply lenR_own) ; (focus assumption))
          | ((with_reducible apply ia_own) ; (focus assumption))
          | (with_reducible refine nthR_z ?_)
          | ((with_reducible apply nthR_left) ; (focus (first | omega | (simp only [List.length_append, List.length_cons, List.length_nil, List.length_take, List.length_drop, bs_length]; omega))))
          | (with_reducible intro _)
          ))
          )
        all_goals (conv => whnf)
        all_goals (try dsimp only)
        exact ⟨(i + 1, τ), rfl, rfl, ⟨by dsimp only; omega, by dsimp only; rw [ef]; exact hD, hO, hG, hX⟩, by dsimp only; omega⟩
  · have ei : i = l.length := by omega
    subst ei
    rw [List.take_of_length_le (by simp), ← hcr] at hD
    have hdc : DvC d (crashL keep d) := by
      rw [hcr]
      refine DvOk.crashC hd fun p hp => ?_
      obtain ⟨j, hj⟩ := List.getElem?_of_mem hp
      rw [List.getElem?_zipIdx] at hj
      obtain ⟨k', hk1, hk2⟩ := Option.map_eq_some_iff.1 hj
      rw [← hk2]
      exact hkeys k' (List.mem_of_getElem? hk1)
    unfold crashD at hQ
    generalize crashL keep d = dc at *
    obtain ⟨box, lasts, seen, map, ne⟩ := id hD
    repeat' (first
      | ((with_reducible refine Side.intro ?_) <;> (first
      | exact Nat.le_of_ble_eq_true rfl
      | (simp only [bs_length, List.length_append, List.length_cons, List.length_nil, List.length_take, List.length_drop, List.length_set, List.length_replicate]; omega)
      | exact rfl
      ))
      | ((conv => whnf) <;> (first
      | (with_reducible refine and_same ?_)
      | (with_reducible refine and_side ?_ ?_)
      | ((with_reducible apply Br.no) ; (focus omega))
      | ((with_reducible apply blkAt_step) ; (focus (first
      | ((repeat (first
      | assumption
      | with_reducible apply get_set
      | (apply get_set_ne; (focus (first | omega | (simp only [newB_length, List.length_set, List.length_append, List.length_singleton, List.length_nil]; omega))))
      )); done)
      )) ; (focus (first | rfl | assumption | omega)) ; (focus (first | rfl | assumption)) ; (try dsimp only))
      | ((with_reducible apply mapW_step) ; (focus (first
      | ((repeat (first
      | assumption
      | (apply get_set_ne; (focus (first | omega | (simp only [newB_length, List.length_set, List.length_append, List.length_singleton, List.length_nil]; omega))))
      )); done)
      )) ; (try dsimp only))
      | (with_reducible refine CopyW.of ?_)
      | (with_reducible refine rowsR_rsl ?_)
      ))
      )
    all_goals (conv => whnf)
    all_goals (try dsimp only)
    have hSL := hdc.ok.len
    rw [cpy (by omega) (by omega)]
    have e : List.take 0 dc.S ++ List.take (min dc.L.length dc.S.length) (List.drop 0 dc.L) ++ List.drop (0 + min dc.L.length dc.S.length) dc.S = dc.L := by
      rw [show min dc.L.length dc.S.length = dc.L.length by omega, show List.drop (0 + dc.L.length) dc.S = [] from List.drop_of_length_le (by omega)]
      simp
    rw [e, hSL]
    have h1 := hD.setS dc.L hSL.symm
    have h2 := h1.setM [] dc.clock
    have h3 := (h2.setBox dc.armed false).setBox 0 false
    exact hQ _ h3 (((((GrP.setT hG (.inr (.inr (.inl rfl))) _)).setT (.inr (.inr (.inr rfl))) _).setT (.inl rfl) _).setT (.inl rfl) _)
end Go.Proofs.Ytppccaacbpkgiaa

namespace Go.Proofs.Ytppccaacbpkgiaa
open Go Go.Proofs.Ytppccaacbpkgiaa.V
/-! ### What the steps make, byte by byte; what stays right -/
theorem last_at {L S : List UInt8} {j : Nat} (h : S.length = L.length) (hj : 64 * j + 64 ≤ L.length) (p : Nat) : (lastL L S j)[p]? = if p / 64 = j then S[p]? else L[p]? := by
  unfold lastL
  by_cases h1 : p < 64 * j
  · rw [if_neg (by omega), List.append_assoc, List.getElem?_append_left (by simp; omega), List.getElem?_take_of_lt h1]
  · by_cases h2 : p < 64 * j + 64
    · rw [if_pos (by omega), List.getElem?_append_left (by simp; omega), List.getElem?_append_right (by simp; omega), List.length_take, Nat.min_eq_left (by omega), List.getElem?_take_of_lt (by omega), List.getElem?_drop]
      congr 1; omega
    · rw [if_neg (by omega), List.getElem?_append_right (by simp; omega), List.length_append, List.length_take, List.length_take, List.length_drop, List.getElem?_drop]
      congr 1; omega
theorem store_at {S : List UInt8} {o : Nat} {b : List UInt8} (h : o + b.length ≤ S.length) (p : Nat) : (storeL S o b)[p]? = if o ≤ p ∧ p < o + b.length then b[p - o]? else S[p]? := by
  unfold storeL
  by_cases h1 : p < o
  · rw [if_neg (by omega), List.append_assoc, List.getElem?_append_left (by simp; omega), List.getElem?_take_of_lt h1]
  · by_cases h2 : p < o + b.length
    · rw [if_pos ⟨by omega, h2⟩, List.getElem?_append_left (by simp; omega), List.getElem?_append_right (by simp; omega), List.length_take, Nat.min_eq_left (by omega)]
    · rw [if_neg (by omega), List.getElem?_append_right (by simp; omega), List.length_append, List.length_take, List.getElem?_drop]
      congr 1; omega
theorem mget_stE (k : Int) : ∀ (n : Nat) (a : Int) (p : List ME × Nat), mget (stE n a p).1 k = if a ≤ k ∧ k < a + n then some (.bool false) else mget p.1 k
  | 0, a, p => by simp only [stE]; rw [if_neg (by omega)]
  | n + 1, a, p => by
    simp only [stE]
    rw [mget_mput, mget_stE k n a p]
    by_cases h : k = a + n
    · rw [if_pos h, if_pos (by omega)]
    · rw [if_neg h]
      by_cases h2 : a ≤ k ∧ k < a + n
      · rw [if_pos h2, if_pos (by omega)]
      · rw [if_neg h2, if_neg (by omega)]
theorem mget_flE (k : Int) : ∀ (n : Nat) (a : Int) (p : List ME × Nat), mget (flE n a p).1 k = if (a ≤ k ∧ k < a + n) ∧ (mget p.1 k).isSome = true then some (.bool true) else mget p.1 k
  | 0, a, p => by simp only [flE]; rw [if_neg (by omega)]
  | n + 1, a, p => by
    have ih := mget_flE k n a p
    have ih2 := mget_flE (a + n) n a p
    rw [if_neg (by omega)] at ih2
    simp only [flE]
    cases hm : mget (flE n a p).1 (a + n) with
    | none =>
      dsimp only
      rw [ih]
      by_cases h : k = a + n
      · subst h
        rw [← ih2, hm]
        simp
      · by_cases h2 : (a ≤ k ∧ k < a + n) ∧ (mget p.1 k).isSome = true
        · rw [if_pos h2, if_pos ⟨by omega, h2.2⟩]
        · rw [if_neg h2, if_neg (fun q => h2 ⟨by omega, q.2⟩)]
    | some v =>
      dsimp only
      rw [mget_mput, ih]
      by_cases h : k = a + n
      · subst h
        rw [if_pos rfl, ← ih2, hm, if_pos ⟨by omega, rfl⟩]
      · rw [if_neg h]
        by_cases h2 : (a ≤ k ∧ k < a + n) ∧ (mget p.1 k).isSome = true
        · rw [if_pos h2, if_pos ⟨by omega, h2.2⟩]
        · rw [if_neg h2, if_neg (fun q => h2 ⟨by omega, q.2⟩)]
/-- What marks keep: N: lines that there are. -/
structure MR (N : Nat) (p : List ME × Nat) : Prop where
  map : MapOk p.1 p.2
  vals : ∀ e, e ∈ p.1 → ∃ b, e.val = .bool b
  rng : ∀ e, e ∈ p.1 → 0 ≤ e.key ∧ 64 * e.key + 64 ≤ N
theorem MR.put {N : Nat} {p : List ME × Nat} (h : MR N p) {k : Int} (b : Bool) (hk : 0 ≤ k ∧ 64 * k + 64 ≤ N) : MR N (mputE p.1 k (.bool b) p.2, mputC p.1 k p.2) := by
  refine ⟨h.map.mput k _, fun e he => ?_, fun e he => ?_⟩
  · rcases mput_mem he with he | ⟨_, h2, _⟩
    · exact h.vals e he
    · exact ⟨b, h2⟩
  · rcases mput_mem he with he | ⟨h1, _, _⟩
    · exact h.rng e he
    · rw [h1]; exact hk
theorem MR.stE {N : Nat} {p : List ME × Nat} (h : MR N p) {a : Int} : ∀ {n : Nat}, (∀ j : Nat, j < n → 0 ≤ a + j ∧ 64 * (a + j) + 64 ≤ N) → MR N (stE n a p)
  | 0, _ => h
  | n + 1, hr => (MR.stE h fun j hj => hr j (by omega)).put false (hr n (by omega))
theorem MR.flE {N : Nat} {p : List ME × Nat} (h : MR N p) {a : Int} : ∀ {n : Nat}, (∀ j : Nat, j < n → 0 ≤ a + j ∧ 64 * (a + j) + 64 ≤ N) → MR N (flE n a p)
  | 0, _ => h
  | n + 1, hr => by
    have h1 := MR.flE h fun j (hj : j < n) => hr j (by omega)
    unfold Go.Proofs.Ytppccaacbpkgiaa.flE
    split
    · exact h1
    · exact h1.put true (hr n (by omega))
theorem ov_rng {at' n : Int} {N : Nat} (h1 : 0 ≤ at') (h2 : 0 ≤ n) (h3 : at' + n ≤ N) (hN : N % 64 = 0) (j : Nat) (hj : j < ovC at' n) : 0 ≤ at' / 64 + j ∧ 64 * (at' / 64 + j) + 64 ≤ N := by
  unfold ovC at hj
  split at hj
  · omega
  · omega
theorem ov_mem {at' n : Int} (h1 : 0 ≤ at') (h2 : 0 ≤ n) (k : Int) : (at' / 64 ≤ k ∧ k < at' / 64 + ovC at' n) ↔ n ≠ 0 ∧ at' / 64 ≤ k ∧ k ≤ (at' + n - 1) / 64 := by
  unfold ovC
  split
  · omega
  · omega
/-- Lines that are not dirty lie as they are seen. -/
structure DvR (d : Dv) : Prop where
  ok : DvOk d
  cl : ∀ p, mget d.es ((p / 64 : Nat) : Int) = none → d.L[p]? = d.S[p]?
theorem DvOk.mr {d : Dv} (h : DvOk d) : MR d.L.length (d.es, d.clock) := ⟨h.map, h.vals, h.rng⟩
theorem DvR.new {s : List UInt8} (h : newG s.length) : DvR ⟨s, s, [], 0, 0, false⟩ := by
  obtain ⟨h1, h2, h3⟩ := h
  exact ⟨⟨.nil 0, by simp, by simp, rfl, by dsimp only; omega, h2, by dsimp only; omega⟩, fun _ _ => rfl⟩
theorem DvR.begin {d : Dv} (h : DvR d) (at' n : Int) : DvR (beginD d at' n).2 := by
  obtain ⟨s1, s2, s3, s4⟩ := beginD_same d at' n
  exact ⟨h.ok.begin at' n, fun p hp => by rw [s1, s2]; rw [s3] at hp; exact h.cl p hp⟩
theorem DvR.store {d : Dv} (h : DvR d) (at' : Int) (b : List UInt8) : DvR (storeD d at' b).2 := by
  have hk : (beginD d at' b.length).1 = 0 → askD d at' b.length = 0 := beginD_ok
  have hd := h.begin at' b.length
  obtain ⟨s1, s2, s3, s4⟩ := beginD_same d at' b.length
  unfold storeD
  generalize beginD d at' b.length = q at *
  obtain ⟨e, d1⟩ := q
  dsimp only at hd hk s1 s2 s3 s4 ⊢
  by_cases he : e = 0
  · obtain ⟨k1, k2, k3, k4, k5⟩ := askD_ok (hk he)
    rw [if_neg (by simp [he])]
    have hle := hd.ok.le
    have hlen := hd.ok.len
    rw [← s2] at k3 k5
    have hfit : at'.toNat + b.length ≤ d1.S.length := by omega
    have hm := hd.ok.mr.stE (a := at' / 64) (n := ovC at' b.length) fun j hj => ov_rng k2 k4 (by omega) hd.ok.al j hj
    refine ⟨⟨hm.map, hm.vals, hm.rng, ?_, hd.ok.le, hd.ok.al, hd.ok.arm⟩, fun p hp => ?_⟩
    · simp only [Dv.setM]; rw [storeL_length hfit]; exact hlen
    · simp only [Dv.setM] at hp ⊢
      rw [mget_stE] at hp
      split at hp
      · cases hp
      · rename_i hno
        rw [ov_mem k2 k4] at hno
        rw [store_at hfit, if_neg (by omega)]
        exact hd.cl p hp
  · rw [if_pos he]; exact hd
theorem DvR.flush {d : Dv} (h : DvR d) (at' n : Int) : DvR (flushD d at' n).2 := by
  have hk : (beginD d at' n).1 = 0 → askD d at' n = 0 := beginD_ok
  have hd := h.begin at' n
  obtain ⟨s1, s2, s3, s4⟩ := beginD_same d at' n
  unfold flushD
  generalize beginD d at' n = q at *
  obtain ⟨e, d1⟩ := q
  dsimp only at hd hk s1 s2 s3 s4 ⊢
  by_cases he : e = 0
  · obtain ⟨k1, k2, k3, k4, k5⟩ := askD_ok (hk he)
    rw [if_neg (by simp [he])]
    have hlen := hd.ok.len
    rw [← s2] at k3 k5
    have hm := hd.ok.mr.flE (a := at' / 64) (n := ovC at' n) fun j hj => ov_rng k2 k4 (by omega) hd.ok.al j hj
    refine ⟨⟨hm.map, hm.vals, hm.rng, hlen, hd.ok.le, hd.ok.al, hd.ok.arm⟩, fun p hp => ?_⟩
    simp only [Dv.setM] at hp ⊢
    rw [mget_flE] at hp
    split at hp
    · cases hp
    · exact hd.cl p hp
  · rw [if_pos he]; exact hd
theorem fence_step {d : Dv} (h : DvOk d) {k : Int} (hk : 0 ≤ k ∧ 64 * k + 64 ≤ d.L.length) : (∀ j, mget (fenceS d k).es j = if j = k ∧ flushed d.es k = true then none else mget d.es j) ∧ ∀ p : Nat, (fenceS d k).L[p]? = if ((p / 64 : Nat) : Int) = k ∧ flushed d.es k = true then d.S[p]? else d.L[p]? := by
  unfold fenceS
  by_cases hf : flushed d.es k = true
  · rw [if_pos hf]
    refine ⟨fun j => ?_, fun p => ?_⟩
    · dsimp only
      rw [mget_mdel _ _ h.map.keys]
      by_cases hj : j = k
      · rw [if_pos hj, if_pos ⟨hj, hf⟩]
      · rw [if_neg hj, if_neg (fun q => hj q.1)]
    · dsimp only
      rw [last_at h.len (by omega)]
      by_cases hp : ((p / 64 : Nat) : Int) = k
      · rw [if_pos (by omega), if_pos ⟨hp, hf⟩]
      · rw [if_neg (by omega), if_neg (fun q => hp q.1)]
  · rw [if_neg hf]
    refine ⟨fun j => ?_, fun p => ?_⟩
    · rw [if_neg (fun q => hf q.2)]
    · rw [if_neg (fun q => hf q.2)]
theorem flushed_of {es es' : List ME} {k : Int} (h : mget es k = mget es' k) : flushed es k = flushed es' k := by simp only [flushed, h]
theorem fence_fold : ∀ {l : List Int} {d : Dv}, DvOk d → l.Nodup → (∀ k, k ∈ l → 0 ≤ k ∧ 64 * k + 64 ≤ d.L.length) → (∀ j, mget (l.foldl fenceS d).es j = if j ∈ l ∧ flushed d.es j = true then none else mget d.es j) ∧ ∀ p : Nat, (l.foldl fenceS d).L[p]? = if ((p / 64 : Nat) : Int) ∈ l ∧ flushed d.es ((p / 64 : Nat) : Int) = true then d.S[p]? else d.L[p]?
  | [], d, _, _, _ => by simp
  | k :: r, d, h, hn, hk => by
    obtain ⟨hn1, hn2⟩ := List.nodup_cons.1 hn
    have h1 := h.fenceS (hk k (by simp))
    obtain ⟨a1, a2⟩ := fence_step h (hk k (by simp))
    obtain ⟨b1, b2⟩ := fence_fold h1.ok hn2 fun j hj => by rw [h1.L]; exact hk j (by simp [hj])
    have hfl : ∀ j, j ∈ r → flushed (fenceS d k).es j = flushed d.es j := fun j hj => flushed_of (by rw [a1, if_neg]; rintro ⟨rfl, _⟩; exact hn1 hj)
    refine ⟨fun j => ?_, fun p => ?_⟩
    · simp only [List.foldl_cons]
      rw [b1, a1]
      by_cases hj : j ∈ r
      · have hne : ¬ (j = k ∧ flushed d.es k = true) := fun q => hn1 (q.1 ▸ hj)
        rw [hfl j hj, if_neg hne]
        simp [hj]
      · rw [if_neg (fun q => hj q.1)]
        by_cases hjk : j = k
        · subst hjk; simp [hj]
        · simp [hj, hjk]
    · simp only [List.foldl_cons]
      rw [b2, a2, h1.S]
      generalize ((p / 64 : Nat) : Int) = j
      by_cases hj : j ∈ r
      · have hne : ¬ (j = k ∧ flushed d.es k = true) := fun q => hn1 (q.1 ▸ hj)
        rw [hfl j hj, if_neg hne]
        simp [hj]
      · rw [if_neg (fun q => hj q.1)]
        by_cases hjk : j = k
        · subst hjk; simp [hj]
        · simp [hj, hjk]
theorem flushed_mem {es : List ME} {k : Int} (h : flushed es k = true) : k ∈ srt (es.map ME.key) := by
  rw [(srt_perm _).mem_iff]
  refine Decidable.byContradiction fun hn => ?_
  rw [← mget_none] at hn
  simp [flushed, hn] at h
theorem fence_all {d : Dv} (h : DvOk d) : (∀ j, mget ((srt (d.es.map ME.key)).foldl fenceS d).es j = if flushed d.es j = true then none else mget d.es j) ∧ (∀ p : Nat, ((srt (d.es.map ME.key)).foldl fenceS d).L[p]? = if flushed d.es ((p / 64 : Nat) : Int) = true then d.S[p]? else d.L[p]?) ∧ DvLt d ((srt (d.es.map ME.key)).foldl fenceS d) := by
  obtain ⟨h1, h2⟩ := fence_fold h ((srt_perm _).nodup_iff.2 h.map.keys) fun k hk => h.keysIn hk
  refine ⟨fun j => ?_, fun p => ?_, DvOk.fenceL h fun k hk => h.keysIn hk⟩
  · rw [h1]
    by_cases hf : flushed d.es j = true
    · rw [if_pos ⟨flushed_mem hf, hf⟩, if_pos hf]
    · rw [if_neg (fun q => hf q.2), if_neg hf]
  · rw [h2]
    by_cases hf : flushed d.es ((p / 64 : Nat) : Int) = true
    · rw [if_pos ⟨flushed_mem hf, hf⟩, if_pos hf]
    · rw [if_neg (fun q => hf q.2), if_neg hf]
theorem DvR.fence {d : Dv} (h : DvR d) : DvR (fenceD d).2 := by
  have hd := h.begin 0 0
  unfold fenceD
  generalize beginD d 0 0 = q at *
  obtain ⟨e, d1⟩ := q
  dsimp only at hd ⊢
  by_cases he : e = 0
  · rw [if_neg (by simp [he])]
    obtain ⟨h1, h2, h3⟩ := fence_all hd.ok
    refine ⟨h3.ok, fun p hp => ?_⟩
    dsimp only at hp ⊢
    rw [h1] at hp
    rw [h2, h3.S]
    split
    · rfl
    · rename_i hf
      rw [if_neg hf] at hp
      exact hd.cl p hp
  · rw [if_pos he]; exact hd
theorem DvR.arm {d : Dv} (h : DvR d) {n : Int} (hn : n ≤ 9223372036854775807) : DvR { d with armed := max n 0 } :=
  ⟨⟨h.ok.map, h.ok.vals, h.ok.rng, h.ok.len, h.ok.le, h.ok.al, by dsimp only; omega⟩, h.cl⟩
open Classical in
/-- Which lines a crash keeps. -/
theorem crash_fold {keep : List Bool} : ∀ {l : List (Int × Nat)} {d : Dv}, DvOk d → (l.map (·.1)).Nodup → (∀ q, q ∈ l → 0 ≤ q.1 ∧ 64 * q.1 + 64 ≤ d.L.length) → ∀ p : Nat, (l.foldl (crashS keep) d).L[p]? = if ∃ i, (((p / 64 : Nat) : Int), i) ∈ l ∧ keptAt keep i = true then d.S[p]? else d.L[p]?
  | [], d, _, _, _, p => by simp
  | (k, i) :: r, d, h, hn, hk, p => by
    simp only [List.map_cons, List.nodup_cons] at hn
    obtain ⟨hn1, hn2⟩ := hn
    have hki := hk (k, i) (by simp)
    have h1 : DvC d (crashS keep d (k, i)) := by
      unfold crashS
      split
      · exact h.lastC hki
      · exact .refl h
    have ih := crash_fold (keep := keep) h1.ok hn2 (fun q hq => by rw [h1.L]; exact hk q (by simp [hq])) p
    simp only [List.foldl_cons]
    rw [ih, h1.S]
    have e1 : (crashS keep d (k, i)).L[p]? = if ((p / 64 : Nat) : Int) = k ∧ keptAt keep i = true then d.S[p]? else d.L[p]? := by
      unfold crashS
      by_cases hf : keptAt keep i = true
      · rw [if_pos hf]
        dsimp only at hki ⊢
        rw [last_at h.len (by omega)]
        by_cases hp : ((p / 64 : Nat) : Int) = k
        · rw [if_pos (by omega), if_pos ⟨hp, hf⟩]
        · rw [if_neg (by omega), if_neg (fun q => hp q.1)]
      · rw [if_neg hf, if_neg (fun q => hf q.2)]
    rw [e1]
    generalize ((p / 64 : Nat) : Int) = j at *
    by_cases hx : ∃ i, (j, i) ∈ r ∧ keptAt keep i = true
    · rw [if_pos hx, if_pos]
      obtain ⟨i', h1, h2⟩ := hx
      exact ⟨i', by simp [h1], h2⟩
    · rw [if_neg hx]
      by_cases hj : j = k ∧ keptAt keep i = true
      · rw [if_pos hj, if_pos ⟨i, by simp [hj.1], hj.2⟩]
      · rw [if_neg hj, if_neg]
        rintro ⟨i', h1, h2⟩
        rcases List.mem_cons.1 h1 with q | q
        · cases q; exact hj ⟨rfl, h2⟩
        · exact hx ⟨i', q, h2⟩
/-- The line is the i-th of the dirty ones, and keep's i-th is true. -/
def keptL (d : Dv) (keep : List Bool) (j : Int) : Prop := ∃ i : Nat, (srt (d.es.map ME.key))[i]? = some j ∧ keep[i]? = some true
theorem crash_all {d : Dv} (h : DvOk d) (keep : List Bool) : DvC d (crashL keep d) ∧ ∀ p : Nat, (keptL d keep ((p / 64 : Nat) : Int) → (crashL keep d).L[p]? = d.S[p]?) ∧ (¬ keptL d keep ((p / 64 : Nat) : Int) → (crashL keep d).L[p]? = d.L[p]?) := by
  have hin : ∀ q, q ∈ (srt (d.es.map ME.key)).zipIdx → 0 ≤ q.1 ∧ 64 * q.1 + 64 ≤ d.L.length := fun q hq => by
    obtain ⟨j, hj⟩ := List.getElem?_of_mem hq
    rw [List.getElem?_zipIdx] at hj
    obtain ⟨k', hk1, hk2⟩ := Option.map_eq_some_iff.1 hj
    rw [← hk2]
    exact h.keysIn (List.mem_of_getElem? hk1)
  refine ⟨DvOk.crashC h hin, fun p => ?_⟩
  have hc := crash_fold (keep := keep) h (l := (srt (d.es.map ME.key)).zipIdx) (by
    have : (srt (d.es.map ME.key)).zipIdx.map (·.1) = srt (d.es.map ME.key) := by simp
    rw [this]; exact (srt_perm _).nodup_iff.2 h.map.keys) hin p
  have he : keptL d keep ((p / 64 : Nat) : Int) ↔ ∃ i, (((p / 64 : Nat) : Int), i) ∈ (srt (d.es.map ME.key)).zipIdx ∧ keptAt keep i = true := by
    unfold keptL keptAt
    constructor
    · rintro ⟨i, h1, h2⟩
      refine ⟨i, List.mem_of_getElem? (i := i) ?_, by rw [h2]; rfl⟩
      simp [List.getElem?_zipIdx, h1]
    · rintro ⟨i, h1, h2⟩
      obtain ⟨j, hj⟩ := List.getElem?_of_mem h1
      rw [List.getElem?_zipIdx] at hj
      obtain ⟨k', hk1, hk2⟩ := Option.map_eq_some_iff.1 hj
      simp only [Nat.zero_add, Prod.mk.injEq] at hk2
      obtain ⟨rfl, rfl⟩ := hk2
      refine ⟨j, hk1, ?_⟩
      cases hkj : keep[j]? with
      | none => rw [hkj] at h2; cases h2
      | some b => rw [hkj] at h2; simp at h2; rw [h2]
  unfold crashL
  rw [hc]
  refine ⟨fun q => if_pos (he.1 q), fun q => if_neg fun r => q (he.2 r)⟩
theorem DvR.crash {d : Dv} (h : DvR d) (keep : List Bool) : DvR (crashD keep d) := by
  obtain ⟨h1, h2⟩ := crash_all h.ok keep
  exact ⟨⟨.nil _, by simp [crashD], by simp [crashD], rfl, h1.ok.le, h1.ok.al, by simp [crashD]⟩, fun p _ => rfl⟩
/-! ### How many bytes there are -/
theorem store_len (d : Dv) (at' : Int) (b : List UInt8) : (storeD d at' b).2.L = d.L := by
  obtain ⟨s1, s2, s3, s4⟩ := beginD_same d at' b.length
  unfold storeD
  generalize beginD d at' b.length = q at *
  obtain ⟨e, d1⟩ := q
  by_cases h : e = 0
  · dsimp only; rw [if_neg (by simp [h])]; exact s1
  · dsimp only; rw [if_pos h]; exact s1
theorem flush_len (d : Dv) (at' n : Int) : (flushD d at' n).2.L = d.L := by
  obtain ⟨s1, s2, s3, s4⟩ := beginD_same d at' n
  unfold flushD
  generalize beginD d at' n = q at *
  obtain ⟨e, d1⟩ := q
  by_cases h : e = 0
  · dsimp only; rw [if_neg (by simp [h])]; exact s1
  · dsimp only; rw [if_pos h]; exact s1
theorem fence_len {d : Dv} (h : DvR d) : (fenceD d).2.L.length = d.L.length := by
  have hd := h.begin 0 0
  obtain ⟨s1, s2, s3, s4⟩ := beginD_same d 0 0
  unfold fenceD
  generalize beginD d 0 0 = q at *
  obtain ⟨e, d1⟩ := q
  dsimp only at hd s1
  by_cases h : e = 0
  · dsimp only; rw [if_neg (by simp [h])]
    have := (fence_all hd.ok).2.2.L
    dsimp only
    rw [this, s1]
  · dsimp only; rw [if_pos h]; dsimp only; rw [s1]
theorem crash_len {d : Dv} (h : DvR d) (keep : List Bool) : (crashD keep d).L.length = d.L.length := (crash_all h.ok keep).1.L
end Go.Proofs.Ytppccaacbpkgiaa

namespace Go.Proofs.Ytppccaacbpkgiaa
open Go Go.Proofs.Ytppccaacbpkgiaa.V
set_option maxRecDepth 20000
attribute [local irreducible] CallS AOK AOKn ALoop Side Ref.ok
/-! ### Steps on a device: the first error ends them -/
def sbox (a : DA) (e : Int) : Blk := { sz := 2, els := [[.ptr a.i 0 0 0, .int .i64 e]], gen := 0, wr := true, pure := false }
structure StpH (σ : AH) (q : Nat) (a : DA) (p : Int × Dv) : Prop where
  box : σ[q]? = some { sz := 2, els := [[.ptr a.i 0 0 0, .int .i64 p.1]], gen := 0, wr := true, pure := false }
  dev : DevH σ a p.2
  ok : DvR p.2
  ap : ¬ a.has q
def SX (q : Nat) (a : DA) (id : Nat) : Prop := a.has id ∨ id = q
theorem StpH.keepN {σ σ' : AH} {q : Nat} {a : DA} {p : Int × Dv} (h : StpH σ q a p) (hg : Gr σ σ' none) : StpH σ' q a p := ⟨hg.2 _ _ h.box (by simp), h.dev.keepN hg, h.ok, h.ap⟩
theorem StpH.keep {σ σ' : AH} {q : Nat} {a : DA} {p : Int × Dv} (h : StpH σ q a p) {X : Nat → Prop} (hg : GrP σ σ' X) (hx : ∀ id, SX q a id → ¬ X id) : StpH σ' q a p := ⟨hg.2 _ _ h.box (hx _ (.inr rfl)), h.dev.keep hg fun id w => hx id (.inl w), h.ok, h.ap⟩
theorem StpH.lt {σ : AH} {q : Nat} {a : DA} {p : Int × Dv} (h : StpH σ q a p) (id : Nat) (hx : SX q a id) : id < σ.length := by
  rcases hx with hx | rfl
  · exact h.dev.lt id hx
  · exact (List.getElem?_eq_some_iff.1 h.box).1
theorem GrP.mono {σ σ' : AH} {X Y : Nat → Prop} (h : GrP σ σ' X) (hxy : ∀ id, X id → Y id) : GrP σ σ' Y := ⟨h.1, fun id b hb hn => h.2 id b hb fun q => hn (hxy id q)⟩
def runD (f : Dv → Int × Dv) (p : Int × Dv) : Int × Dv := if p.1 = 0 then f p.2 else p
def putD (line : Int) (b : List UInt8) (p : Int × Dv) : Int × Dv := runD (fun d => flushD d (line * 64) b.length) (runD (fun d => storeD d (line * 64) b) p)
def fenD (p : Int × Dv) : Int × Dv := runD fenceD p
theorem get_newE {σ : AH} {i sz : Nat} {els : List (List AV)} {p : Bool} (h : i = σ.length) : (newB σ sz els p)[i]? = some { sz := sz, els := els, gen := 0, wr := true, pure := p } := by
  subst h; exact get_new
structure StepR (σ σ' : AH) (a : DA) (r : Int × Dv) (x : AV) : Prop where
  val : x = .int .i64 r.1
  dev : DevH σ' a r.2
  ok : DvR r.2
  gr : GrP σ σ' a.has
theorem do_fn {σ : AH} {q : Nat} {a : DA} {p : Int × Dv} (h : StpH σ q a p) {g : Nat} {caps : List AV} (f : Dv → Int × Dv) (Q : AV → AH → Prop)
    (h1 : p.1 = 0 → CallS Try.prog g caps σ fun x σ' => StepR σ σ' a (f p.2) x)
    (hQ : ∀ σ', StpH σ' q a (runD f p) → GrP σ σ' (SX q a) → Q (.tup []) σ') : CallS Try.prog F.wal_steps_do [.ptr q 0 0 0, .fn g caps] σ Q := by
  obtain ⟨e, d⟩ := p
  obtain ⟨box, dev, ok, ap⟩ := id h
  dsimp only at box dev ok h1
  refine call_of_body mixed fc_wal_steps_do_ok (by simp [fc_wal_steps_do]) ?_
  by_cases he : e = 0
  · subst he
    repeat' (first
      | ((conv => whnf) <;> (first
      | (with_reducible refine and_same ?_)
      | (with_reducible refine Br.yes rfl ?_)
      | ((with_reducible apply blkAt_step) ; (focus (first
      | ((repeat (first
      | assumption
      )); done)
      )) ; (focus (first | rfl | assumption | omega)) ; (focus (first | rfl | assumption)) ; (try dsimp only))
      ))
      )
    all_goals (conv => whnf)
    all_goals (try dsimp only)
    refine (h1 rfl).mono ?_
    rintro x σ1 ⟨rfl, hD, hR, hg⟩
    have box1 := hg.2 _ _ box ap
    repeat' (first
      | ((with_reducible refine Side.intro ?_) <;> (first
      | exact Nat.le_of_ble_eq_true rfl
      | exact rfl
      ))
      | ((conv => whnf) <;> (first
      | (with_reducible refine and_same ?_)
      | (with_reducible refine and_side ?_ ?_)
      | ((with_reducible apply blkAt_step) ; (focus (first
      | ((repeat (first
      | assumption
      )); done)
      )) ; (focus (first | rfl | assumption | omega)) ; (focus (first | rfl | assumption)) ; (try dsimp only))
      ))
      )
    all_goals (conv => whnf)
    all_goals (try dsimp only)
    refine hQ _ ⟨?_, ?_, ?_, ap⟩ ?_
    · exact get_set box1
    · exact hD.keep (X := fun id => id = q) (GrP.set (X := fun id => id = q) rfl _) fun id w e => ap (e ▸ w)
    · exact hR
    · exact (hg.mono fun id w => .inl w).setT (.inr rfl) _
  · have er : runD f (e, d) = (e, d) := if_neg he
    rw [er] at hQ
    repeat' (first
      | ((conv => whnf) <;> (first
      | (with_reducible refine and_same ?_)
      | ((with_reducible apply Br.no) ; (focus omega))
      | ((with_reducible apply blkAt_step) ; (focus (first
      | ((repeat (first
      | assumption
      )); done)
      )) ; (focus (first | rfl | assumption | omega)) ; (focus (first | rfl | assumption)) ; (try dsimp only))
      ))
      )
    all_goals (conv => whnf)
    all_goals (try dsimp only)
    exact hQ _ h (.refl _ _)
theorem do_fnb {σ : AH} {q : Nat} {a : DA} {p : Int × Dv} (h : StpH σ q a p) {g : Nat} {pre : List AV} (f : Dv → Int × Dv) (Q : AV → AH → Prop)
    (h1 : p.1 = 0 → CallS Try.prog g pre σ fun x σ' => StepR σ σ' a (f p.2) x)
    (hQ : ∀ σ', StpH σ' q a (runD f p) → GrP σ σ' (SX q a) → Q (.tup []) σ') : CallS Try.prog F.wal_steps_do [.ptr q 0 0 0, .fnb g pre []] σ Q := by
  obtain ⟨e, d⟩ := p
  obtain ⟨box, dev, ok, ap⟩ := id h
  dsimp only at box dev ok h1
  refine call_of_body mixed fc_wal_steps_do_ok (by simp [fc_wal_steps_do]) ?_
  by_cases he : e = 0
  · subst he
    repeat' (first
      | ((conv => whnf) <;> (first
      | (with_reducible refine and_same ?_)
      | (with_reducible refine Br.yes rfl ?_)
      | ((with_reducible apply blkAt_step) ; (focus (first
      | ((repeat (first
      | assumption
      )); done)
      )) ; (focus (first | rfl | assumption | omega)) ; (focus (first | rfl | assumption)) ; (try dsimp only))
      ))
      )
    all_goals (conv => whnf)
    all_goals (try dsimp only)
    rw [List.append_nil, List.append_nil]
    refine (h1 rfl).mono ?_
    rintro x σ1 ⟨rfl, hD, hR, hg⟩
    have box1 := hg.2 _ _ box ap
    repeat' (first
      | ((with_reducible refine Side.intro ?_) <;> (first
      | exact Nat.le_of_ble_eq_true rfl
      | exact rfl
      ))
      | ((conv => whnf) <;> (first
      | (with_reducible refine and_same ?_)
      | (with_reducible refine and_side ?_ ?_)
      | ((with_reducible apply blkAt_step) ; (focus (first
      | ((repeat (first
      | assumption
      )); done)
      )) ; (focus (first | rfl | assumption | omega)) ; (focus (first | rfl | assumption)) ; (try dsimp only))
      ))
      )
    all_goals (conv => whnf)
    all_goals (try dsimp only)
    refine hQ _ ⟨?_, ?_, ?_, ap⟩ ?_
    · exact get_set box1
    · exact hD.keep (X := fun id => id = q) (GrP.set (X := fun id => id = q) rfl _) fun id w e => ap (e ▸ w)
    · exact hR
    · exact (hg.mono fun id w => .inl w).setT (.inr rfl) _
  · have er : runD f (e, d) = (e, d) := if_neg he
    rw [er] at hQ
    repeat' (first
      | ((conv => whnf) <;> (first
      | (with_reducible refine and_same ?_)
      | ((with_reducible apply Br.no) ; (focus omega))
      | ((with_reducible apply blkAt_step) ; (focus (first
      | ((repeat (first
      | assumption
      )); done)
      )) ; (focus (first | rfl | assumption | omega)) ; (focus (first | rfl | assumption)) ; (try dsimp only))
      ))
      )
    all_goals (conv => whnf)
    all_goals (try dsimp only)
    exact hQ _ h (.refl _ _)
theorem put1_val {σ : AH} {q : Nat} {a : DA} {p : Int × Dv} (h : StpH σ q a p) {n3 n5 n6 : Nat} {at' : Int} {x : AV} {b : List UInt8} {pu : Bool} (h3 : σ[n3]? = some { sz := 1, els := [[.ptr q 0 0 0]], gen := 0, wr := true, pure := false }) (h5 : σ[n5]? = some { sz := 1, els := [[x]], gen := 0, wr := true, pure := pu }) (h6 : σ[n6]? = some { sz := 1, els := [[.int .i64 at']], gen := 0, wr := true, pure := true })
    (hx : BytR σ x b) (hbx : ∀ id, a.has id → x.bid ≠ some id) (hbl : b.length ≤ 1048576) : CallS Try.prog F.wal_steps_put_1 [.ptr n3 0 0 0, .ptr n6 0 0 0, .ptr n5 0 0 0] σ fun x σ' => StepR σ σ' a (storeD p.2 at' b) x := by
  obtain ⟨box, dev, ok, ap⟩ := id h
  have hle := ok.ok.le
  have hln := ok.ok.len
  refine call_of_body mixed fc_wal_steps_put_1_ok (by simp [fc_wal_steps_put_1]) ?_
  repeat' (first
    | ((conv => whnf) <;> (first
    | ((with_reducible apply blkAt_step) ; (focus (first
    | ((repeat (first
    | assumption
    )); done)
    )) ; (focus (first | rfl | assumption | omega)) ; (focus (first | rfl | assumption)) ; (try dsimp only))
    ))
    )
  all_goals (conv => whnf)
  all_goals (try dsimp only)
  refine Store_ok dev (by omega) ok.ok.arm at' hx hbx hbl _ fun σ1 hD hg => ?_
  skip
  all_goals (conv => whnf)
  all_goals (try dsimp only)
  exact ⟨rfl, hD, ok.store at' b, hg⟩
theorem put2_val {σ : AH} {q : Nat} {a : DA} {p : Int × Dv} (h : StpH σ q a p) {n3 n5 n6 : Nat} {at' : Int} {x : AV} {b : List UInt8} {pu : Bool} (h3 : σ[n3]? = some { sz := 1, els := [[.ptr q 0 0 0]], gen := 0, wr := true, pure := false }) (h5 : σ[n5]? = some { sz := 1, els := [[x]], gen := 0, wr := true, pure := pu }) (h6 : σ[n6]? = some { sz := 1, els := [[.int .i64 at']], gen := 0, wr := true, pure := true })
    (hx : BytR σ x b) (hbl : b.length ≤ 1048576) : CallS Try.prog F.wal_steps_put_2 [.ptr n3 0 0 0, .ptr n6 0 0 0, .ptr n5 0 0 0] σ fun x σ' => StepR σ σ' a (flushD p.2 at' b.length) x := by
  obtain ⟨box, dev, ok, ap⟩ := id h
  have hle := ok.ok.le
  have hln := ok.ok.len
  refine call_of_body mixed fc_wal_steps_put_2_ok (by simp [fc_wal_steps_put_2]) ?_
  repeat' (first
    | ((conv => whnf) <;> (first
    | ((with_reducible apply blkAt_step) ; (focus (first
    | ((repeat (first
    | assumption
    )); done)
    )) ; (focus (first | rfl | assumption | omega)) ; (focus (first | rfl | assumption)) ; (try dsimp only))
    | ((with_reducible apply BytR.lenW) ; (focus assumption))
    ))
    )
  all_goals (conv => whnf)
  all_goals (try dsimp only)
  refine Flush_ok dev (by omega) ok.ok.arm at' b.length _ fun σ1 hD hg => ?_
  skip
  all_goals (conv => whnf)
  all_goals (try dsimp only)
  exact ⟨rfl, hD, ok.flush at' b.length, hg⟩
theorem put_ok {σ : AH} {q : Nat} {a : DA} {p : Int × Dv} (h : StpH σ q a p) (line : Int) (hl : -4611686018 ≤ line ∧ line ≤ 4611686018) {x : AV} {b : List UInt8} (hx : BytR σ x b) (hbx : ∀ id, SX q a id → x.bid ≠ some id) (hbl : b.length ≤ 1048576) (Q : AV → AH → Prop)
    (hQ : ∀ σ', StpH σ' q a (putD line b p) → GrP σ σ' (SX q a) → Q (.tup []) σ') : CallS Try.prog F.wal_steps_put [.ptr q 0 0 0, .int .i64 line, x] σ Q := by
  have hxc : x.cells = [x] ∧ x.okCells = true ∧ x.cells.length = 1 := by
    rcases hx with ⟨fr, rfl⟩ | hx
    · exact ⟨rfl, rfl, rfl⟩
    · exact hx.one
  obtain ⟨c1, c2, c3⟩ := hxc
  refine call_of_body mixed fc_wal_steps_put_ok (by simp [fc_wal_steps_put]) ?_
  repeat' (first
    | ((with_reducible refine Side.intro ?_) <;> (first
    | omega
    | exact Nat.le_of_ble_eq_true rfl
    | exact rfl
    ))
    | ((conv => whnf) <;> (first
    | (with_reducible refine and_same ?_)
    | (with_reducible refine and_side ?_ ?_)
    | ((with_reducible apply Br.yes) ; (focus omega))
    | ((with_reducible apply blkAt_step) ; (focus (first
    | ((repeat (first
    | exact get_new
    | apply get_old
    | (apply get_set_ne; (focus (first | omega | (simp only [newB_length, List.length_set, List.length_append, List.length_singleton, List.length_nil]; omega))))
    )); done)
    )) ; (focus (first | rfl | assumption | omega)) ; (focus (first | rfl | assumption)) ; (try dsimp only))
    ))
    )
  all_goals (conv => whnf)
  all_goals (try dsimp only)
  simp only [newB_length]
  refine do_fn (h.keepN (by (repeat (first
        | exact Gr.refl _ _
        | refine Gr.setNew ?_ (by first | exact Nat.le_refl _ | (simp only [newB_length, List.length_set, List.length_append, List.length_singleton]; omega) | omega) _
        | refine Gr.addN ?_ _
        )))) (fun d => storeD d (line * 64) b) _ (fun _ => put1_val (h.keepN (by (repeat (first
        | exact Gr.refl _ _
        | refine Gr.setNew ?_ (by first | exact Nat.le_refl _ | (simp only [newB_length, List.length_set, List.length_append, List.length_singleton]; omega) | omega) _
        | refine Gr.addN ?_ _
        )))) (get_set_ne (by omega) (get_old (get_old (get_newE rfl)))) (by rw [c1]; exact get_set_ne (by omega) (get_old (get_newE (by simp only [newB_length])))) (get_set (get_newE (by simp only [newB_length]))) (hx.keepN (by (repeat (first
        | exact Gr.refl _ _
        | refine Gr.setNew ?_ (by first | exact Nat.le_refl _ | (simp only [newB_length, List.length_set, List.length_append, List.length_singleton]; omega) | omega) _
        | refine Gr.addN ?_ _
        )))) (fun id w => hbx id (.inl w)) hbl) fun σ1 h1 hg1 => ?_
  have n3 : ¬ SX q a σ.length := fun w => by have := h.lt _ w; omega
  have n5 : ¬ SX q a (σ.length + 1) := fun w => by have := h.lt _ w; omega
  have n6 : ¬ SX q a (σ.length + 1 + 1) := fun w => by have := h.lt _ w; omega
  have v3 := hg1.2 σ.length _ (get_set_ne (by omega) (get_old (get_old (get_newE rfl)))) n3
  have v5 := hg1.2 (σ.length + 1) _ (get_set_ne (by omega) (get_old (get_newE (by simp only [newB_length])))) n5
  have v6 := hg1.2 (σ.length + 1 + 1) _ (get_set (get_newE (by simp only [newB_length]))) n6
  rw [c1] at v5
  have hx1 : BytR σ1 x b := (hx.keepN (by (repeat (first
        | exact Gr.refl _ _
        | refine Gr.setNew ?_ (by first | exact Nat.le_refl _ | (simp only [newB_length, List.length_set, List.length_append, List.length_singleton]; omega) | omega) _
        | refine Gr.addN ?_ _
        )))).keepP hg1 fun id w => hbx id w
  have gg : GrP σ σ1 (SX q a) := (GrP.of (by (repeat (first
        | exact Gr.refl _ _
        | refine Gr.setNew ?_ (by first | exact Nat.le_refl _ | (simp only [newB_length, List.length_set, List.length_append, List.length_singleton]; omega) | omega) _
        | refine Gr.addN ?_ _
        ))) _).trans hg1
  clear hg1
  repeat' (first
    | ((conv => whnf) <;> (first
    | ((with_reducible apply blkAt_step) ; (focus (first
    | ((repeat (first
    | assumption
    )); done)
    )) ; (focus (first | rfl | assumption | omega)) ; (focus (first | rfl | assumption)) ; (try dsimp only))
    ))
    )
  all_goals (conv => whnf)
  all_goals (try dsimp only)
  refine do_fn h1 (fun d => flushD d (line * 64) b.length) _ (fun _ => put2_val h1 v3 v5 v6 hx1 hbl) fun σ2 h2 hg2 => ?_
  skip
  all_goals (conv => whnf)
  all_goals (try dsimp only)
  exact hQ _ h2 (gg.trans hg2)
theorem fence_ok {σ : AH} {q : Nat} {a : DA} {p : Int × Dv} (h : StpH σ q a p) (Q : AV → AH → Prop)
    (hQ : ∀ σ', StpH σ' q a (fenD p) → GrP σ σ' (SX q a) → Q (.tup []) σ') : CallS Try.prog F.wal_steps_fence [.ptr q 0 0 0] σ Q := by
  obtain ⟨box, dev, ok, ap⟩ := id h
  refine call_of_body mixed fc_wal_steps_fence_ok (by simp [fc_wal_steps_fence]) ?_
  repeat' (first
    | ((conv => whnf) <;> (first
    | ((with_reducible apply blkAt_step) ; (focus (first
    | ((repeat (first
    | assumption
    )); done)
    )) ; (focus (first | rfl | assumption | omega)) ; (focus (first | rfl | assumption)) ; (try dsimp only))
    ))
    )
  all_goals (conv => whnf)
  all_goals (try dsimp only)
  refine do_fnb h fenceD _ (fun _ => Fence_ok dev ok.ok _ fun σ1 hD hg => ⟨rfl, hD, ok.fence, hg⟩) fun σ1 h1 hg1 => ?_
  skip
  all_goals (conv => whnf)
  all_goals (try dsimp only)
  exact hQ _ h1 hg1
end Go.Proofs.Ytppccaacbpkgiaa

namespace Go.Proofs.Ytppccaacbpkgiaa
open Go Go.Proofs.Ytppccaacbpkgiaa.V
set_option maxRecDepth 20000
attribute [local irreducible] CallS AOK AOKn ALoop Side Ref.ok
theorem NestR.keepP {σ σ' : AH} {sz : Nat} {a : AV} {rows : List (List AV)} {X : Nat → Prop} (h : NestR σ sz a rows) (hg : GrP σ σ' X) (hx : ∀ id, X id → a.bid ≠ some id) : NestR σ' sz a rows := by
  rcases h with h | ⟨id, gen, p, rfl, hb, hn⟩
  · exact .inl h
  · exact .inr ⟨id, gen, p, rfl, hg.2 _ _ hb fun q => hx id q rfl, hn⟩
theorem Sep.keepP {σ σ' : AH} {xs : List AV} {D : List (List UInt8)} {X : Nat → Prop} (h : Sep σ xs D) (hg : GrP σ σ' X) (hx : ∀ y, y ∈ xs → ∀ id, X id → y.bid ≠ some id) : Sep σ' xs D :=
  ⟨h.len, fun j x d h1 h2 => Own.keepP (h.own j x d h1 h2) hg (hx x (List.mem_of_getElem? h1)), h.dis⟩
/-- Changes, by value or in blocks of one's own. -/
inductive ChgR (σ : AH) (X : Nat → Prop) (x : AV) (L : List (Int × List UInt8)) : Prop
  | sl (f fr : Bool) (h : x = .sl 2 (chg f L) fr)
  | nest (xs : List AV) (h : NestR σ 2 x (crow (L.map (·.1)) xs)) (hs : Sep σ xs (L.map (·.2))) (h1 : ∀ id, X id → x.bid ≠ some id) (h2 : ∀ y, y ∈ xs → ∀ id, X id → y.bid ≠ some id)
theorem ChgR.keepP {σ σ' : AH} {X : Nat → Prop} {x : AV} {L : List (Int × List UInt8)} (h : ChgR σ X x L) (hg : GrP σ σ' X) : ChgR σ' X x L := by
  rcases h with ⟨f, fr, h⟩ | ⟨xs, h, hs, h1, h2⟩
  · exact .sl f fr h
  · exact .nest xs (NestR.keepP h hg h1) (Sep.keepP hs hg h2) h1 h2
theorem ChgR.lenW {σ : AH} {X : Nat → Prop} {x : AV} {L : List (Int × List UInt8)} {K : Nat → Prop} (h : ChgR σ X x L) (hk : K L.length) : LenW σ x K := by
  rcases h with ⟨f, fr, rfl⟩ | ⟨xs, hN, hS, _, _⟩
  · exact lenR_sl (by rw [chg_length]; exact hk)
  · refine NestR.lenW hN ?_
    rw [crow_length (by rw [hS.len, List.length_map, List.length_map]), List.length_map]
    exact hk
theorem ChgR.looks {σ : AH} {X : Nat → Prop} {x : AV} {L : List (Int × List UInt8)} (h : ChgR σ X x L) : Looks σ x (.sl 2 (chg false L) false) := by
  rcases h with ⟨f, fr, rfl⟩ | ⟨xs, hN, hS, _, _⟩
  · exact .same (by simp [derefV, derefC, AV.flat, untag, untagLL_chg])
  · exact NestR.looksC hN hS
theorem ChgR.keepN {σ σ' : AH} {X : Nat → Prop} {x : AV} {L : List (Int × List UInt8)} (h : ChgR σ X x L) (hg : Gr σ σ' none) : ChgR σ' X x L := h.keepP (GrP.of hg _)
theorem ChgR.addq {σ σ' : AH} {a : DA} {q : Nat} {x : AV} {L : List (Int × List UInt8)} (h : ChgR σ a.has x L) (hg : Gr σ σ' none) (hq : σ.length ≤ q) : ChgR σ' (SX q a) x L := by
  rcases h with ⟨f, fr, h⟩ | ⟨xs, h, hs, h1, h2⟩
  · exact .sl f fr h
  · refine .nest xs (NestR.keepN hg h) (Sep.keepN hg hs) (fun id w e => ?_) (fun y hy id w e => ?_)
    · rcases w with w | w
      · exact h1 id w e
      · have := h.lt e; omega
    · rcases w with w | w
      · exact h2 y hy id w e
      · have := hs.lt hy e; omega
def zer64 : List UInt8 := List.replicate 64 0
def putsD (L : List (Int × List UInt8)) (p : Int × Dv) : Int × Dv := L.foldl (fun p c => putD c.1 c.2 p) p
def finD (g : LogV) (L : List (Int × List UInt8)) (p : Int × Dv) : Int × Dv := fenD (putD g.Mark zer64 (fenD (putsD L p)))
theorem putsD_succ {L : List (Int × List UInt8)} {k : Nat} {c : Int × List UInt8} (h : L[k]? = some c) (p : Int × Dv) : putsD (L.take (k + 1)) p = putD c.1 c.2 (putsD (L.take k) p) := by
  unfold putsD
  rw [List.take_add_one, h]
  simp
theorem finish_ok {σ : AH} {q : Nat} {a : DA} {p : Int × Dv} (h : StpH σ q a p) (g : LogV) (hg : -4611686018 ≤ g.Mark ∧ g.Mark ≤ 4611686018) {x : AV} {L : List (Int × List UInt8)} (hx : ChgR σ (SX q a) x L) (hL : L.length ≤ 1048576 ∧ ∀ c, c ∈ L → (-4611686018 ≤ c.1 ∧ c.1 ≤ 4611686018) ∧ c.2.length ≤ 1048576) (Q : AV → AH → Prop)
    (hQ : ∀ σ', StpH σ' q a (finD g L p) → GrP σ σ' (SX q a) → Q (.int .i64 (finD g L p).1) σ') : CallS Try.prog F.wal_steps_finish [.ptr q 0 0 0, .agg (logR g), x] σ Q := by
  obtain ⟨hL1, hL2⟩ := hL
  have hLg := looks_log
  have hg0 : Gr σ (newB σ 3 [(AV.agg (logR g)).cells] (allFlat (AV.agg (logR g)).cells)) none := by (repeat (first
        | exact Gr.refl _ _
        | refine Gr.addN ?_ _
        ))
  have hb0 : (newB σ 3 [(AV.agg (logR g)).cells] (allFlat (AV.agg (logR g)).cells))[σ.length]? = some { sz := 3, els := [logR g], gen := 0, wr := true, pure := true } := get_new
  have nq : ¬ SX q a σ.length := fun w => by have := h.lt _ w; omega
  have hx0 := hx.keepP (GrP.of hg0 _)
  refine call_of_body mixed fc_wal_steps_finish_ok (by simp [fc_wal_steps_finish]) ?_
  repeat' (first
    | ((with_reducible refine Side.intro ?_) <;> (first
    | exact rfl
    ))
    | ((conv => whnf) <;> (first
    | (with_reducible refine and_side ?_ ?_)
    | ((with_reducible apply ChgR.lenW) ; (focus assumption))
    ))
    )
  all_goals (conv => whnf)
  all_goals (try dsimp only)
  refine loop_at (α := Nat × AH) (fun k => [(11, .int .i64 k.1)]) (fun k => k.2) (fun k => k.1 ≤ L.length ∧ StpH k.2 q a (putsD (L.take k.1) p) ∧ ChgR k.2 (SX q a) x L ∧ GrP σ k.2 (SX q a) ∧ k.2[σ.length]? = some { sz := 3, els := [logR g], gen := 0, wr := true, pure := true }) (fun k => L.length - k.1) (0, _) ⟨Nat.zero_le _, h.keepN hg0, hx0, GrP.of hg0 _, hb0⟩ rfl rfl ?_
  rintro ⟨k, τ⟩ ⟨hk, hS, hX, hG, hb⟩
  dsimp only at hk hS hX hG hb ⊢
  by_cases hlt : k < L.length
  · obtain ⟨c, hc, hck⟩ := getN hlt
    obtain ⟨hc1, hc2⟩ := hL2 c (List.mem_of_getElem? hck)
    have htl := (List.getElem?_eq_some_iff.1 hb).1
    rcases id hX with ⟨f, fr, rfl⟩ | ⟨xs, hN, hSp, hd1, hd2⟩
    · have hcl := chg_length f L
      repeat' (first
        | ((with_reducible refine Side.intro ?_) <;> (first
        | omega
        | exact Nat.le_of_ble_eq_true rfl
        | exact rfl
        ))
        | ((conv => whnf) <;> (first
        | (with_reducible refine and_same ?_)
        | (with_reducible refine and_side ?_ ?_)
        | ((with_reducible apply Br.yes) ; (focus omega))
        | ((with_reducible apply blkAt_step) ; (focus (first
        | ((repeat (first
        | exact get_new
        | exact get_set get_new
        )); done)
        )) ; (focus (first | rfl | assumption | omega)) ; (focus (first | rfl | assumption)) ; (try dsimp only))
        | ((with_reducible apply nthR_chg1) ; (focus assumption))
        | (with_reducible refine ia_sl ?_ ?_)
        ))
        )
      all_goals (conv => whnf)
      all_goals (try dsimp only)
      refine put_ok (hS.keepN (by (repeat (first
            | exact Gr.refl _ _
            | refine Gr.setNew ?_ (by first | exact Nat.le_refl _ | (simp only [newB_length, List.length_set, List.length_append, List.length_singleton]; omega) | omega) _
            | refine Gr.addN ?_ _
            )))) c.1 hc1 (.sl f rfl) (fun _ _ e => by cases e) hc2 _ fun τ1 hS1 hg1 => ?_
      repeat' (first
        | ((conv => whnf) <;> (first
        | (with_reducible refine and_same ?_)
        | ((with_reducible apply Br.yes) ; (focus omega))
        ))
        )
      all_goals (conv => whnf)
      all_goals (try dsimp only)
      refine ⟨(k + 1, τ1), rfl, rfl, ⟨hlt, by dsimp only; rw [putsD_succ hck]; exact hS1, (hX.keepP (GrP.of (by (repeat (first
            | exact Gr.refl _ _
            | refine Gr.setNew ?_ (by first | exact Nat.le_refl _ | (simp only [newB_length, List.length_set, List.length_append, List.length_singleton]; omega) | omega) _
            | refine Gr.addN ?_ _
            ))) _)).keepP hg1, (hG.trans (GrP.of (by (repeat (first
            | exact Gr.refl _ _
            | refine Gr.setNew ?_ (by first | exact Nat.le_refl _ | (simp only [newB_length, List.length_set, List.length_append, List.length_singleton]; omega) | omega) _
            | refine Gr.addN ?_ _
            ))) _)).trans hg1, hg1.2 _ _ ((show Gr τ _ none by (repeat (first
            | exact Gr.refl _ _
            | refine Gr.setNew ?_ (by first | exact Nat.le_refl _ | (simp only [newB_length, List.length_set, List.length_append, List.length_singleton]; omega) | omega) _
            | refine Gr.addN ?_ _
            ))).2 _ _ hb (by simp)) nq⟩, by dsimp only; omega⟩
    · have hxl : xs.length = L.length := by rw [hSp.len, List.length_map]
      have hcl : (crow (L.map (·.1)) xs).length = L.length := by rw [crow_length (by rw [hxl, List.length_map]), List.length_map]
      obtain ⟨y, hy⟩ : ∃ y, xs[k]? = some y := ⟨_, List.getElem?_eq_getElem (by omega)⟩
      have hrow : (crow (L.map (·.1)) xs)[k]? = some [.int .i64 c.1, y] := crow_get (by simp [hck]) hy
      have hyo : Own τ 1 y (bs c.2) := hSp.own k y c.2 hy (by simp [hck])
      repeat' (first
        | ((with_reducible refine Side.intro ?_) <;> (first
        | omega
        ))
        | ((conv => whnf) <;> (first
        | (with_reducible refine and_same ?_)
        | ((with_reducible apply Br.yes) ; (focus omega))
        | ((with_reducible apply blkAt_step) ; (focus (first
        | ((repeat (first
        | assumption
        )); done)
        )) ; (focus (first | rfl | assumption | omega)) ; (focus (first | rfl | assumption)) ; (try dsimp only))
        | ((with_reducible apply NestR.ia) ; (focus assumption))
        | (with_reducible refine nthR_z ?_)
        | (with_reducible intro _)
        ))
        )
      all_goals (conv => whnf)
      all_goals (try dsimp only)
      refine nthR_intro (x := [.int .i64 c.1, y]) (by simpa using hrow) ?_
      repeat' (first
        | ((with_reducible refine Side.intro ?_) <;> (first
        | exact Nat.le_of_ble_eq_true rfl
        | exact rfl
        ))
        | ((conv => whnf) <;> (first
        | (with_reducible refine and_same ?_)
        | (with_reducible refine and_side ?_ ?_)
        | ((with_reducible apply blkAt_step) ; (focus (first
        | ((repeat (first
        | exact get_new
        | exact get_set get_new
        )); done)
        )) ; (focus (first | rfl | assumption | omega)) ; (focus (first | rfl | assumption)) ; (try dsimp only))
        ))
        )
      all_goals (conv => whnf)
      all_goals (try dsimp only)
      refine put_ok (hS.keepN (by (repeat (first
            | exact Gr.refl _ _
            | refine Gr.setNew ?_ (by first | exact Nat.le_refl _ | (simp only [newB_length, List.length_set, List.length_append, List.length_singleton]; omega) | omega) _
            | refine Gr.addN ?_ _
            )))) c.1 hc1 (.own (hyo.keepN (by (repeat (first
            | exact Gr.refl _ _
            | refine Gr.setNew ?_ (by first | exact Nat.le_refl _ | (simp only [newB_length, List.length_set, List.length_append, List.length_singleton]; omega) | omega) _
            | refine Gr.addN ?_ _
            ))))) (hd2 y (List.mem_of_getElem? hy)) hc2 _ fun τ1 hS1 hg1 => ?_
      repeat' (first
        | ((conv => whnf) <;> (first
        | (with_reducible refine and_same ?_)
        | ((with_reducible apply Br.yes) ; (focus omega))
        ))
        )
      all_goals (conv => whnf)
      all_goals (try dsimp only)
      refine ⟨(k + 1, τ1), rfl, rfl, ⟨hlt, by dsimp only; rw [putsD_succ hck]; exact hS1, (hX.keepP (GrP.of (by (repeat (first
            | exact Gr.refl _ _
            | refine Gr.setNew ?_ (by first | exact Nat.le_refl _ | (simp only [newB_length, List.length_set, List.length_append, List.length_singleton]; omega) | omega) _
            | refine Gr.addN ?_ _
            ))) _)).keepP hg1, (hG.trans (GrP.of (by (repeat (first
            | exact Gr.refl _ _
            | refine Gr.setNew ?_ (by first | exact Nat.le_refl _ | (simp only [newB_length, List.length_set, List.length_append, List.length_singleton]; omega) | omega) _
            | refine Gr.addN ?_ _
            ))) _)).trans hg1, hg1.2 _ _ ((show Gr τ _ none by (repeat (first
            | exact Gr.refl _ _
            | refine Gr.setNew ?_ (by first | exact Nat.le_refl _ | (simp only [newB_length, List.length_set, List.length_append, List.length_singleton]; omega) | omega) _
            | refine Gr.addN ?_ _
            ))).2 _ _ hb (by simp)) nq⟩, by dsimp only; omega⟩
  · have ek : k = L.length := by omega
    subst ek
    rw [List.take_length] at hS
    repeat' (first
      | ((conv => whnf) <;> (first
      | (with_reducible refine and_same ?_)
      | ((with_reducible apply Br.no) ; (focus omega))
      ))
      )
    all_goals (conv => whnf)
    all_goals (try dsimp only)
    refine fence_ok hS _ fun τ1 hS1 hg1 => ?_
    have hb1 := hg1.2 _ _ hb nq
    repeat' (first
      | ((conv => whnf) <;> (first
      | ((with_reducible apply blkAt_step) ; (focus (first
      | ((repeat (first
      | assumption
      )); done)
      )) ; (focus (first | rfl | assumption | omega)) ; (focus (first | rfl | assumption)) ; (try dsimp only))
      ))
      )
    all_goals (conv => whnf)
    all_goals (try dsimp only)
    refine call_sl (line_ok [] (by simp) rfl) (.cons (Looks.ownis (s := []) (Own.nil _ _)) .nil) fun τ2 w hg2 how hw => ?_
    have hS2 := hS1.keepN hg2
    have hb2 := hg2.2 _ _ hb1 (by simp)
    have ez : lineB [] = zer64 := lineB_nil
    rw [ez] at how
    repeat' (first
      | ((with_reducible apply Gr.side) ; with_reducible assumption)
      | ((conv => whnf) <;> (first
      | (with_reducible refine and_side ?_ ?_)
      ))
      )
    all_goals (conv => whnf)
    all_goals (try dsimp only)
    refine put_ok hS2 g.Mark hg (.own how) (fun id w' e => by have := hS1.lt id w'; have := hw id e; omega) (by decide) _ fun τ3 hS3 hg3 => ?_
    skip
    all_goals (conv => whnf)
    all_goals (try dsimp only)
    refine fence_ok hS3 _ fun τ4 hS4 hg4 => ?_
    have box4 := hS4.box
    repeat' (first
      | ((conv => whnf) <;> (first
      | ((with_reducible apply blkAt_step) ; (focus (first
      | ((repeat (first
      | assumption
      )); done)
      )) ; (focus (first | rfl | assumption | omega)) ; (focus (first | rfl | assumption)) ; (try dsimp only))
      ))
      )
    all_goals (conv => whnf)
    all_goals (try dsimp only)
    exact hQ _ hS4 (((hG.trans hg1).trans (GrP.of hg2 _)).trans (hg3.trans hg4))
end Go.Proofs.Ytppccaacbpkgiaa

namespace Go.Proofs.Ytppccaacbpkgiaa
open Go Go.Proofs.Ytppccaacbpkgiaa.V
set_option maxRecDepth 20000
attribute [local irreducible] CallS AOK AOKn ALoop Side Ref.ok
def linesD (d : Dv) : Int := ((d.S.length / 64 : Nat) : Int)
def comD (g : LogV) (L : List (Int × List UInt8)) (d : Dv) : Int × Dv := finD g L (fenD (putD g.Mark (markB L.length (recsB L)) (fenD (putD g.First (recsB L) (0, d)))))
def commitD (g : LogV) (L : List (Int × List UInt8)) (d : Dv) : Int × Dv :=
  if ¬ rightG g (linesD d) ∨ rightB (linesD d) L = false then (1, d) else if wrE g L ≠ 0 ∨ L = [] then (wrE g L, d) else comD g L d
def recovD (g : LogV) (d : Dv) : Int × Int × Dv :=
  if d.down = true then (0, 5, d) else if rdE g d.S ≠ 0 ∨ rdR g d.S = [] then (0, rdE g d.S, d) else
    if (finD g (rdR g d.S) (0, d)).1 ≠ 0 then (0, finD g (rdR g d.S) (0, d)) else (((rdR g d.S).length : Int), 0, (finD g (rdR g d.S) (0, d)).2)
theorem Commit_ok {σ : AH} {a : DA} {d : Dv} (h : DevH σ a d) (hd : DvR d) (g : LogV) {x0 : AV} (L : List (Int × List UInt8)) (hx0 : ChgR σ a.has x0 L) (hL : L.length ≤ 1048576) (hI : ∀ p, p ∈ L → inI2 p.1) (Q : AV → AH → Prop)
    (hQ : ∀ σ', DevH σ' a (commitD g L d).2 → DvR (commitD g L d).2 → GrP σ σ' a.has → Q (.int .i64 (commitD g L d).1) σ') : CallS Try.prog F.wal_Commit [.ptr a.i 0 0 0, .agg (logR g), x0] σ Q := by
  have hLg := looks_log
  have hlk : ∀ τ, Gr σ τ none → Looks τ x0 (.sl 2 (chg false L) false) := fun τ q => (hx0.keepN q).looks
  have hle := hd.ok.le
  have hln := hd.ok.len
  have hg0 : Gr σ (newB σ 3 [(AV.agg (logR g)).cells] (allFlat (AV.agg (logR g)).cells)) none := by (repeat (first
        | exact Gr.refl _ _
        | refine Gr.addN ?_ _
        ))
  have hb0 : (newB σ 3 [(AV.agg (logR g)).cells] (allFlat (AV.agg (logR g)).cells))[σ.length]? = some { sz := 3, els := [logR g], gen := 0, wr := true, pure := true } := get_new
  have nq : ¬ a.has σ.length := fun w => by have := h.lt _ w; omega
  have eN : (d.S.length : Int) / 64 = linesD d := by unfold linesD; omega
  have hNr : linesD d ≤ 4096 ∧ 0 ≤ linesD d := by unfold linesD; omega
  have hR := wRight_ok g (linesD d) (by omega)
  have hRL := lines_Right_ok (linesD d) L (by omega)
  have bad : (¬ rightG g (linesD d) ∨ rightB (linesD d) L = false) → ∀ σ', DevH σ' a d → GrP σ σ' a.has → Q (.int .i64 1) σ' := fun q σ' q1 q2 => by
    have e : commitD g L d = (1, d) := if_pos q
    rw [e] at hQ
    exact hQ σ' q1 hd q2
  refine call_of_body mixed fc_wal_Commit_ok (by simp [fc_wal_Commit]) ?_
  repeat' (first
    | ((with_reducible refine Side.intro ?_) <;> (first
    | exact Nat.le_of_ble_eq_true rfl
    | exact rfl
    ))
    | ((conv => whnf) <;> (first
    | (with_reducible refine and_side ?_ ?_)
    | ((with_reducible apply blkAt_step) ; (focus (first
    | ((repeat (first
    | assumption
    )); done)
    )) ; (focus (first | rfl | assumption | omega)) ; (focus (first | rfl | assumption)) ; (try dsimp only))
    ))
    )
  all_goals (conv => whnf)
  all_goals (try dsimp only)
  refine Lines_ok (h.keepN hg0) (by omega) _ ?_
  rw [eN]
  repeat' (first
    | ((with_reducible apply Gr.side) ; (repeat (first | exact Gr.refl _ _ | assumption | with_reducible refine Gr.trans ?_ (Gr.boxN _ _ _ _ _) | refine Gr.setNew ?_ (by first | exact Nat.le_refl _ | (simp only [newB_length, List.length_set, List.length_append, List.length_singleton]; omega) | omega) _ | refine Gr.addN ?_ _ | refine Gr.newN ?_ _ _ _ | exact Gr.trans (by assumption) (by assumption) | refine Gr.trans ?_ (by assumption) | refine Gr.trans (by assumption) ?_)) ; (first | done | fail))
    | ((conv => whnf) <;> (first
    | (with_reducible refine and_side ?_ ?_)
    ))
    )
  all_goals (conv => whnf)
  all_goals (try dsimp only)
  by_cases h1 : rightG g (linesD d)
  · rw [decide_eq_true h1] at hR
    refine call_one hR (.cons (hLg _ g) (.cons (Looks.int _ _ _) .nil)) rfl fun σ1 hg1 => ?_
    have b1 := hg1.2 _ _ hb0 (by simp)
    have hD1 := (h.keepN hg0).keepN hg1
    skip
    all_goals (conv => whnf)
    all_goals (try dsimp only)
    refine Lines_ok hD1 (by omega) _ ?_
    rw [eN]
    skip
    all_goals (conv => whnf)
    all_goals (try dsimp only)
    by_cases h2 : rightB (linesD d) L = true
    · rw [h2] at hRL
      refine call_one hRL (.cons (Looks.int _ _ _) (.cons (hlk _ (hg0.trans hg1)) .nil)) rfl fun σ2 hg2 => ?_
      have b2 := hg2.2 _ _ b1 (by simp)
      have hD2 := hD1.keepN hg2
      have hnb : ¬ (¬ rightG g (linesD d) ∨ rightB (linesD d) L = false) := by
        rintro (q | q)
        · exact q h1
        · rw [h2] at q; cases q
      repeat' (first
        | ((with_reducible refine Side.intro ?_) <;> (first
        | exact Nat.le_of_ble_eq_true rfl
        ))
        | ((conv => whnf) <;> (first
        | (with_reducible refine and_side ?_ ?_)
        | ((with_reducible apply blkAt_step) ; (focus (first
        | ((repeat (first
        | assumption
        )); done)
        )) ; (focus (first | rfl | assumption | omega)) ; (focus (first | rfl | assumption)) ; (try dsimp only))
        ))
        )
      all_goals (conv => whnf)
      all_goals (try dsimp only)
      refine call_ss1 (wWrite_ok g L hL hI) (.cons (hLg _ g) (.cons (hlk _ ((hg0.trans hg1).trans hg2)) .nil)) rfl fun σ3 x y hg3 hx hy hnx hny hxy => ?_
      have b3 := hg3.2 _ _ b2 (by simp)
      have hD3 := hD2.keepN hg3
      have g03 : Gr σ σ3 none := ((hg0.trans hg1).trans hg2).trans hg3
      have hx03 := hx0.keepN g03
      by_cases h3 : wrE g L = 0
      · by_cases h4 : L = []
        · have h4' : (L.length : Int) = 0 := by rw [h4]; rfl
          have e : commitD g L d = (0, d) := by unfold commitD; rw [if_neg hnb, if_pos (.inr h4), h3]
          rw [e] at hQ
          rw [h3]
          repeat' (first
            | ((conv => whnf) <;> (first
            | (with_reducible refine and_same ?_)
            | ((with_reducible apply Br.yes) ; (focus omega))
            | ((with_reducible apply Br.no) ; (focus omega))
            | ((with_reducible apply ChgR.lenW) ; (focus assumption))
            ))
            )
          all_goals (conv => whnf)
          all_goals (try dsimp only)
          exact hQ _ hD3 hd (.of g03 _)
        · have h4' : (L.length : Int) ≠ 0 := fun q => h4 (List.length_eq_zero_iff.1 (by omega))
          have e : commitD g L d = comD g L d := by unfold commitD; rw [if_neg hnb, if_neg (by rintro (q | q); exact q h3; exact h4 q)]
          rw [e] at hQ
          have er : wrR g L = recsB L := if_pos h3
          have em : wrM g L = markB L.length (recsB L) := if_pos h3
          rw [er] at hx
          rw [em] at hy
          rw [h3]
          have hrl := recsB_lenR h2
          have hml : (markB L.length (recsB L)).length = 64 := by
            unfold markB
            split
            · simp
            · exact lineB_length (by simp)
          have hgr := h1
          unfold rightG at hgr
          have hcM : ∀ c, c ∈ L → (-4611686018 ≤ c.1 ∧ c.1 ≤ 4611686018) ∧ c.2.length ≤ 1048576 := fun c hc => by
            have := right_line h2 hc
            omega
          have hll : (L.length : Int) ≤ g.Room := (wrE_ok h3).2.2.2
          have hg4 : Gr σ3 (newB σ3 2 [(AV.agg (lay [AV.nilp, AV.int IntKind.i64 0] 0 (AV.ptr a.i 0 0 0).cells)).cells] (allFlat (AV.agg (lay [AV.nilp, AV.int IntKind.i64 0] 0 (AV.ptr a.i 0 0 0).cells)).cells)) none := by (repeat (first
                | exact Gr.refl _ _
                | refine Gr.addN ?_ _
                ))
          have hS4 : StpH (newB σ3 2 [(AV.agg (lay [AV.nilp, AV.int IntKind.i64 0] 0 (AV.ptr a.i 0 0 0).cells)).cells] (allFlat (AV.agg (lay [AV.nilp, AV.int IntKind.i64 0] 0 (AV.ptr a.i 0 0 0).cells)).cells)) σ3.length a (0, d) := ⟨get_new, hD3.keepN hg4, hd, fun w => by have := hD3.lt _ w; omega⟩
          have nS : ¬ SX σ3.length a σ.length := by
            rintro (w | w)
            · exact nq w
            · have := g03.1
              have := (List.getElem?_eq_some_iff.1 hb0).1
              have := hg1.1
              have := hg2.1
              have := hg3.1
              rw [newB_length] at *
              omega
          have g02 : σ.length ≤ σ2.length := ((hg0.trans hg1).trans hg2).1
          have nx : ∀ id, SX σ3.length a id → x.bid ≠ some id := fun id w e => by
            have q1 := hnx id e
            have q2 := hx.lt e
            rcases w with w | w
            · have := h.lt _ w; omega
            · omega
          have ny : ∀ id, SX σ3.length a id → y.bid ≠ some id := fun id w e => by
            have q1 := hny id e
            have q2 := hy.lt e
            rcases w with w | w
            · have := h.lt _ w; omega
            · omega
          have b4 := hg4.2 _ _ b3 (by simp)
          have hy4 := hy.keepN hg4
          have hx4 := hx.keepN hg4
          have gq : GrP σ (newB σ3 2 [(AV.agg (lay [AV.nilp, AV.int IntKind.i64 0] 0 (AV.ptr a.i 0 0 0).cells)).cells] (allFlat (AV.agg (lay [AV.nilp, AV.int IntKind.i64 0] 0 (AV.ptr a.i 0 0 0).cells)).cells)) a.has := .of (g03.trans hg4) _
          have gfin : ∀ τ, GrP (newB σ3 2 [(AV.agg (lay [AV.nilp, AV.int IntKind.i64 0] 0 (AV.ptr a.i 0 0 0).cells)).cells] (allFlat (AV.agg (lay [AV.nilp, AV.int IntKind.i64 0] 0 (AV.ptr a.i 0 0 0).cells)).cells)) τ (SX σ3.length a) → GrP σ τ a.has := fun τ q => ⟨Nat.le_trans gq.1 q.1, fun id b hb hn => q.2 id b (gq.2 id b hb hn) (by
            rintro (w | w)
            · exact hn w
            · have := (List.getElem?_eq_some_iff.1 hb).1
              have := g03.1
              omega)⟩
          repeat' (first
            | ((with_reducible refine Side.intro ?_) <;> (first
            | exact Nat.le_of_ble_eq_true rfl
            | exact rfl
            ))
            | ((conv => whnf) <;> (first
            | (with_reducible refine and_same ?_)
            | (with_reducible refine and_side ?_ ?_)
            | ((with_reducible apply Br.no) ; (focus omega))
            | ((with_reducible apply blkAt_step) ; (focus (first
            | ((repeat (first
            | assumption
            )); done)
            )) ; (focus (first | rfl | assumption | omega)) ; (focus (first | rfl | assumption)) ; (try dsimp only))
            | ((with_reducible apply ChgR.lenW) ; (focus assumption))
            ))
            )
          all_goals (conv => whnf)
          all_goals (try dsimp only)
          refine put_ok hS4 g.First (by omega) (.own hx4) nx (by omega) _ fun σ5 hS5 hg5 => ?_
          have b5 := hg5.2 _ _ b4 nS
          have hy5 := Own.keepP hy4 hg5 ny
          skip
          all_goals (conv => whnf)
          all_goals (try dsimp only)
          refine fence_ok hS5 _ fun σ6 hS6 hg6 => ?_
          have b6 := hg6.2 _ _ b5 nS
          have hy6 := Own.keepP hy5 hg6 ny
          repeat' (first
            | ((conv => whnf) <;> (first
            | ((with_reducible apply blkAt_step) ; (focus (first
            | ((repeat (first
            | assumption
            )); done)
            )) ; (focus (first | rfl | assumption | omega)) ; (focus (first | rfl | assumption)) ; (try dsimp only))
            ))
            )
          all_goals (conv => whnf)
          all_goals (try dsimp only)
          refine put_ok hS6 g.Mark (by omega) (.own hy6) ny (by omega) _ fun σ7 hS7 hg7 => ?_
          have b7 := hg7.2 _ _ b6 nS
          skip
          all_goals (conv => whnf)
          all_goals (try dsimp only)
          refine fence_ok hS7 _ fun σ8 hS8 hg8 => ?_
          have b8 := hg8.2 _ _ b7 nS
          have hxq : ChgR σ8 (SX σ3.length a) x0 L := (((((hx0.addq (g03.trans hg4) g03.1).keepP hg5).keepP hg6).keepP hg7).keepP hg8)
          repeat' (first
            | ((with_reducible refine Side.intro ?_) <;> (first
            | exact Nat.le_of_ble_eq_true rfl
            ))
            | ((conv => whnf) <;> (first
            | (with_reducible refine and_side ?_ ?_)
            | ((with_reducible apply blkAt_step) ; (focus (first
            | ((repeat (first
            | assumption
            )); done)
            )) ; (focus (first | rfl | assumption | omega)) ; (focus (first | rfl | assumption)) ; (try dsimp only))
            ))
            )
          all_goals (conv => whnf)
          all_goals (try dsimp only)
          refine finish_ok hS8 g (by omega) hxq ⟨hL, hcM⟩ _ fun σ9 hS9 hg9 => ?_
          skip
          all_goals (conv => whnf)
          all_goals (try dsimp only)
          exact hQ _ hS9.dev hS9.ok (gfin _ ((((hg5.trans hg6).trans hg7).trans hg8).trans hg9))
      · have e : commitD g L d = (wrE g L, d) := by unfold commitD; rw [if_neg hnb, if_pos (.inl h3)]
        rw [e] at hQ
        repeat' (first
          | ((conv => whnf) <;> (first
          | (with_reducible refine and_same ?_)
          | ((with_reducible apply Br.yes) ; (focus omega))
          ))
          )
        all_goals (conv => whnf)
        all_goals (try dsimp only)
        exact hQ _ hD3 hd (.of g03 _)
    · rw [Bool.not_eq_true] at h2
      rw [h2] at hRL
      refine call_one hRL (.cons (Looks.int _ _ _) (.cons (hlk _ (hg0.trans hg1)) .nil)) rfl fun σ2 hg2 => ?_
      skip
      all_goals (conv => whnf)
      all_goals (try dsimp only)
      exact bad (.inr h2) _ (hD1.keepN hg2) (.of ((hg0.trans hg1).trans hg2) _)
  · rw [decide_eq_false h1] at hR
    refine call_one hR (.cons (hLg _ g) (.cons (Looks.int _ _ _) .nil)) rfl fun σ1 hg1 => ?_
    skip
    all_goals (conv => whnf)
    all_goals (try dsimp only)
    exact bad (.inl h1) _ ((h.keepN hg0).keepN hg1) (.of (hg0.trans hg1) _)
theorem rdR_ok {g : LogV} {s : List UInt8} (h : rdR g s ≠ []) : ¬ rdBad g s ∧ rightG g ((s.length / 64 : Nat) : Int) ∧ rightB ((s.length / 64 : Nat) : Int) (rdR g s) = true ∧ ((rdR g s).length : Int) ≤ g.Room := by
  unfold rdR at h
  by_cases h1 : rdBad g s
  · rw [if_pos h1] at h; exact absurd rfl h
  · rw [if_neg h1] at h
    by_cases h2 : rdZero g s = true
    · rw [if_pos h2] at h; exact absurd rfl h
    · rw [if_neg h2] at h
      by_cases h3 : rdOk g s
      · have e : rdR g s = rdL s g.First.toNat (rdN g s) := by unfold rdR; rw [if_neg h1, if_neg h2, if_pos h3]
        rw [e, rdL_length]
        refine ⟨h1, Decidable.byContradiction fun q => h1 (.inr (.inr q)), h3.2.2.1, h3.2.1⟩
      · rw [if_neg h3] at h; exact absurd rfl h
theorem Recover_ok {σ : AH} {a : DA} {d : Dv} (h : DevH σ a d) (hd : DvR d) (g : LogV) (Q : AV → AH → Prop)
    (hQ : ∀ σ', DevH σ' a (recovD g d).2.2 → DvR (recovD g d).2.2 → GrP σ σ' a.has → Q (.tup [.int .i64 (recovD g d).1, .int .i64 (recovD g d).2.1]) σ') : CallS Try.prog F.wal_Recover [.ptr a.i 0 0 0, .agg (logR g)] σ Q := by
  have hLg := looks_log
  have hle := hd.ok.le
  have hln := hd.ok.len
  have hg0 : Gr σ (newB σ 3 [(AV.agg (logR g)).cells] (allFlat (AV.agg (logR g)).cells)) none := by (repeat (first
        | exact Gr.refl _ _
        | refine Gr.addN ?_ _
        ))
  have hb0 : (newB σ 3 [(AV.agg (logR g)).cells] (allFlat (AV.agg (logR g)).cells))[σ.length]? = some { sz := 3, els := [logR g], gen := 0, wr := true, pure := true } := get_new
  have nq : ¬ a.has σ.length := fun w => by have := h.lt _ w; omega
  refine call_of_body mixed fc_wal_Recover_ok (by simp [fc_wal_Recover]) ?_
  repeat' (first
    | ((with_reducible refine Side.intro ?_) <;> (first
    | exact rfl
    ))
    | ((conv => whnf) <;> (first
    | (with_reducible refine and_side ?_ ?_)
    ))
    )
  all_goals (conv => whnf)
  all_goals (try dsimp only)
  refine Down_ok (h.keepN hg0) _ ?_
  by_cases h1 : d.down = true
  · have e : recovD g d = (0, 5, d) := if_pos h1
    rw [e] at hQ
    rw [h1]
    skip
    all_goals (conv => whnf)
    all_goals (try dsimp only)
    exact hQ _ (h.keepN hg0) hd (.of hg0 _)
  · have h1' : d.down = false := by rw [Bool.not_eq_true] at h1; exact h1
    rw [h1']
    repeat' (first
      | ((with_reducible refine Side.intro ?_) <;> (first
      | exact Nat.le_of_ble_eq_true rfl
      ))
      | ((conv => whnf) <;> (first
      | (with_reducible refine and_side ?_ ?_)
      | ((with_reducible apply blkAt_step) ; (focus (first
      | ((repeat (first
      | assumption
      )); done)
      )) ; (focus (first | rfl | assumption | omega)) ; (focus (first | rfl | assumption)) ; (try dsimp only))
      ))
      )
    all_goals (conv => whnf)
    all_goals (try dsimp only)
    refine View_ok (h.keepN hg0) (by omega) _ fun v σ1 hg1 hv hnv => ?_
    have b1 := hg1.2 _ _ hb0 (by simp)
    repeat' (first
      | ((with_reducible apply Gr.side) ; with_reducible assumption)
      | ((conv => whnf) <;> (first
      | (with_reducible refine and_side ?_ ?_)
      ))
      )
    all_goals (conv => whnf)
    all_goals (try dsimp only)
    refine Read_call g d.S (by omega) (Looks.ownbs hv) fun σ2 x xs hg2 hN hSp hOff hnx hnxs => ?_
    have b2 := hg2.2 _ _ b1 (by simp)
    have g02 : Gr σ σ2 none := (hg0.trans hg1).trans hg2
    have hD2 := h.keepN g02
    have hxl : xs.length = (rdR g d.S).length := by rw [hSp.len, List.length_map]
    have hcl : (crow ((rdR g d.S).map (·.1)) xs).length = (rdR g d.S).length := by rw [crow_length (by rw [hxl, List.length_map]), List.length_map]
    by_cases h2 : rdE g d.S = 0
    · by_cases h3 : rdR g d.S = []
      · have e : recovD g d = (0, rdE g d.S, d) := by unfold recovD; rw [if_neg h1, if_pos (.inr h3)]
        rw [e, h2] at hQ
        rw [h2]
        have h3' : ((crow ((rdR g d.S).map (·.1)) xs).length : Int) = 0 := by rw [hcl, h3]; rfl
        repeat' (first
          | ((conv => whnf) <;> (first
          | (with_reducible refine and_same ?_)
          | ((with_reducible apply Br.yes) ; (focus omega))
          | ((with_reducible apply Br.no) ; (focus omega))
          | ((with_reducible apply NestR.lenW) ; (focus assumption))
          ))
          )
        all_goals (conv => whnf)
        all_goals (try dsimp only)
        exact hQ _ hD2 hd (.of g02 _)
      · obtain ⟨hnb, hrg, hrr, hrl⟩ := rdR_ok h3
        have h3' : ((crow ((rdR g d.S).map (·.1)) xs).length : Int) ≠ 0 := by
          rw [hcl]
          exact fun q => h3 (List.length_eq_zero_iff.1 (by omega))
        have hgr := hrg
        unfold rightG at hgr
        have hcM : ∀ c, c ∈ rdR g d.S → (-4611686018 ≤ c.1 ∧ c.1 ≤ 4611686018) ∧ c.2.length ≤ 1048576 := fun c hc => by
          have := right_line hrr hc
          omega
        have e : recovD g d = if (finD g (rdR g d.S) (0, d)).1 ≠ 0 then (0, finD g (rdR g d.S) (0, d)) else (((rdR g d.S).length : Int), 0, (finD g (rdR g d.S) (0, d)).2) := by
          unfold recovD
          rw [if_neg h1, if_neg (by rintro (q | q); exact q h2; exact h3 q)]
        rw [e] at hQ
        have hg3 : Gr σ2 (newB σ2 2 [(AV.agg (lay [AV.nilp, AV.int IntKind.i64 0] 0 (AV.ptr a.i 0 0 0).cells)).cells] (allFlat (AV.agg (lay [AV.nilp, AV.int IntKind.i64 0] 0 (AV.ptr a.i 0 0 0).cells)).cells)) none := by (repeat (first
              | exact Gr.refl _ _
              | refine Gr.addN ?_ _
              ))
        have hS3 : StpH (newB σ2 2 [(AV.agg (lay [AV.nilp, AV.int IntKind.i64 0] 0 (AV.ptr a.i 0 0 0).cells)).cells] (allFlat (AV.agg (lay [AV.nilp, AV.int IntKind.i64 0] 0 (AV.ptr a.i 0 0 0).cells)).cells)) σ2.length a (0, d) := ⟨get_new, hD2.keepN hg3, hd, fun w => by have := hD2.lt _ w; omega⟩
        have g01 : σ.length ≤ σ1.length := (hg0.trans hg1).1
        have n1 : ∀ id, SX σ2.length a id → x.bid ≠ some id := fun id w e => by
          have q1 := hnx id e
          have q2 := hN.lt e
          rcases w with w | w
          · have := h.lt _ w; omega
          · omega
        have n2 : ∀ y, y ∈ xs → ∀ id, SX σ2.length a id → y.bid ≠ some id := fun y hy id w e => by
          have q1 := hnxs y hy id e
          have q2 := hSp.lt hy e
          rcases w with w | w
          · have := h.lt _ w; omega
          · omega
        have gq : GrP σ (newB σ2 2 [(AV.agg (lay [AV.nilp, AV.int IntKind.i64 0] 0 (AV.ptr a.i 0 0 0).cells)).cells] (allFlat (AV.agg (lay [AV.nilp, AV.int IntKind.i64 0] 0 (AV.ptr a.i 0 0 0).cells)).cells)) a.has := .of (g02.trans hg3) _
        have gfin : ∀ τ, GrP (newB σ2 2 [(AV.agg (lay [AV.nilp, AV.int IntKind.i64 0] 0 (AV.ptr a.i 0 0 0).cells)).cells] (allFlat (AV.agg (lay [AV.nilp, AV.int IntKind.i64 0] 0 (AV.ptr a.i 0 0 0).cells)).cells)) τ (SX σ2.length a) → GrP σ τ a.has := fun τ q => ⟨Nat.le_trans gq.1 q.1, fun id b hb hn => q.2 id b (gq.2 id b hb hn) (by
          rintro (w | w)
          · exact hn w
          · have := (List.getElem?_eq_some_iff.1 hb).1
            have := g02.1
            omega)⟩
        have hN3 := NestR.keepN hg3 hN
        have hSp3 := Sep.keepN hg3 hSp
        rw [h2]
        repeat' (first
          | ((with_reducible refine Side.intro ?_) <;> (first
          | exact Nat.le_of_ble_eq_true rfl
          | exact rfl
          ))
          | ((conv => whnf) <;> (first
          | (with_reducible refine and_same ?_)
          | (with_reducible refine and_side ?_ ?_)
          | ((with_reducible apply Br.no) ; (focus omega))
          | ((with_reducible apply blkAt_step) ; (focus (first
          | ((repeat (first
          | assumption
          | apply get_old
          )); done)
          )) ; (focus (first | rfl | assumption | omega)) ; (focus (first | rfl | assumption)) ; (try dsimp only))
          | ((with_reducible apply NestR.lenW) ; (focus assumption))
          ))
          )
        all_goals (conv => whnf)
        all_goals (try dsimp only)
        refine finish_ok hS3 g (by omega) (.nest xs hN3 hSp3 n1 n2) ⟨by omega, hcM⟩ _ fun σ4 hS4 hg4 => ?_
        have hD4 := hS4.dev
        have hR4 := hS4.ok
        have hN4 := NestR.keepP hN3 hg4 n1
        have hxl4 : LenW σ4 x fun n => n = (rdR g d.S).length := NestR.lenW hN4 hcl
        generalize finD g (rdR g d.S) (0, d) = p at *
        obtain ⟨e1, d1⟩ := p
        dsimp only at hQ hD4 hR4 ⊢
        by_cases h5 : e1 = 0
        · subst h5
          rw [if_neg (by simp)] at hQ
          repeat' (first
            | ((conv => whnf) <;> (first
            | (with_reducible refine and_same ?_)
            | ((with_reducible apply Br.no) ; (focus omega))
            | ((with_reducible apply NestR.lenW) ; (focus assumption))
            ))
            )
          all_goals (conv => whnf)
          all_goals (try dsimp only)
          rw [hcl]
          exact hQ _ hD4 hR4 (gfin _ hg4)
        · rw [if_pos h5] at hQ
          repeat' (first
            | ((conv => whnf) <;> (first
            | (with_reducible refine and_same ?_)
            | ((with_reducible apply Br.yes) ; (focus omega))
            ))
            )
          all_goals (conv => whnf)
          all_goals (try dsimp only)
          exact hQ _ hD4 hR4 (gfin _ hg4)
    · have e : recovD g d = (0, rdE g d.S, d) := by unfold recovD; rw [if_neg h1, if_pos (.inl h2)]
      rw [e] at hQ
      repeat' (first
        | ((conv => whnf) <;> (first
        | (with_reducible refine and_same ?_)
        | ((with_reducible apply Br.yes) ; (focus omega))
        ))
        )
      all_goals (conv => whnf)
      all_goals (try dsimp only)
      exact hQ _ hD2 hd (.of g02 _)
end Go.Proofs.Ytppccaacbpkgiaa

namespace Go.Proofs.Ytppccaacbpkgiaa
open Go Go.Proofs.Ytppccaacbpkgiaa.V
set_option linter.unusedSimpArgs false
/-! ### Steps on a device that has power -/
def nxt (n : Int) : Int := if 0 < n then n - 1 else n
def AllFl (es : List ME) : Prop := ∀ j v, mget es j = some v → v = .bool true
/-- A device with power, whose dirty lines are all flushed: X lasts, Y is seen. -/
structure Cl (d : Dv) (X Y : List UInt8) : Prop where
  ok : DvR d
  L : d.L = X
  S : d.S = Y
  fl : AllFl d.es
  up : d.down = false
/-- One without power. -/
structure Dn (d : Dv) (X Y : List UInt8) : Prop where
  ok : DvR d
  L : d.L = X
  S : d.S = Y
  dn : d.down = true
theorem ask_up {d : Dv} {at' n : Int} (hd : d.down = false) (h : 0 ≤ at' ∧ at' ≤ d.S.length ∧ 0 ≤ n ∧ n ≤ d.S.length - at') : askD d at' n = 0 := by
  unfold askD
  rw [if_neg (by simp [hd]), if_neg (by omega)]
theorem begin_out {d : Dv} {at' n : Int} (hk : askD d at' n = 0) : (d.armed ≠ 1 ∧ beginD d at' n = (0, { d with armed := nxt d.armed })) ∨ (d.armed = 1 ∧ beginD d at' n = (5, { d with armed := 0, down := true })) := by
  unfold beginD nxt
  rw [if_neg (show ¬ (askD d at' n ≠ 0) from fun q => q hk)]
  by_cases h0 : 0 < d.armed
  · rw [if_pos h0, if_pos h0]
    by_cases h1 : d.armed = 1
    · right
      refine ⟨h1, ?_⟩
      rw [if_pos (by omega), h1]
      rfl
    · left
      refine ⟨h1, ?_⟩
      rw [if_neg (by omega)]
  · left
    refine ⟨by omega, ?_⟩
    rw [if_neg h0, if_neg h0]
theorem store_out {d : Dv} {at' : Int} {b : List UInt8} (hu : d.down = false) (h : 0 ≤ at' ∧ at' + b.length ≤ d.S.length) : (d.armed ≠ 1 ∧ storeD d at' b = (0, (({ d with armed := nxt d.armed, S := storeL d.S at'.toNat b } : Dv).setM (stE (ovC at' b.length) (at' / 64) (d.es, d.clock))))) ∨ (d.armed = 1 ∧ storeD d at' b = (5, { d with armed := 0, down := true })) := by
  unfold storeD
  rcases begin_out (ask_up (at' := at') (n := b.length) hu (by omega)) with ⟨h1, h2⟩ | ⟨h1, h2⟩
  · left
    refine ⟨h1, ?_⟩
    rw [h2]
    rfl
  · right
    refine ⟨h1, ?_⟩
    rw [h2]
    rfl
theorem flush_out {d : Dv} {at' n : Int} (hu : d.down = false) (h : 0 ≤ at' ∧ 0 ≤ n ∧ at' + n ≤ d.S.length) : (d.armed ≠ 1 ∧ flushD d at' n = (0, (({ d with armed := nxt d.armed } : Dv).setM (flE (ovC at' n) (at' / 64) (d.es, d.clock))))) ∨ (d.armed = 1 ∧ flushD d at' n = (5, { d with armed := 0, down := true })) := by
  unfold flushD
  rcases begin_out (ask_up (at' := at') (n := n) hu (by omega)) with ⟨h1, h2⟩ | ⟨h1, h2⟩
  · left
    refine ⟨h1, ?_⟩
    rw [h2]
    rfl
  · right
    refine ⟨h1, ?_⟩
    rw [h2]
    rfl
theorem putD_0 (line : Int) (b : List UInt8) (d : Dv) : putD line b (0, d) = runD (fun d => flushD d (line * 64) b.length) (storeD d (line * 64) b) := by
  unfold putD
  have : runD (fun d => storeD d (line * 64) b) (0, d) = storeD d (line * 64) b := if_pos rfl
  rw [this]
theorem runD_0 (f : Dv → Int × Dv) (d : Dv) : runD f (0, d) = f d := if_pos rfl
theorem runD_5 (f : Dv → Int × Dv) (d : Dv) : runD f (5, d) = (5, d) := if_neg (show ¬ ((5 : Int) = 0) by decide)
theorem put_out {d : Dv} {X Y : List UInt8} (h : Cl d X Y) {line : Int} {b : List UInt8} (hl : 0 ≤ line ∧ line * 64 + b.length ≤ Y.length) :
    (¬ (d.armed = 1 ∨ d.armed = 2) ∧ ∃ d', putD line b (0, d) = (0, d') ∧ Cl d' X (storeL Y (line * 64).toNat b) ∧ d'.armed = nxt (nxt d.armed)) ∨
    ((d.armed = 1 ∨ d.armed = 2) ∧ ∃ d', putD line b (0, d) = (5, d') ∧ (Dn d' X Y ∨ Dn d' X (storeL Y (line * 64).toNat b))) := by
  obtain ⟨ok, rfl, rfl, fl, up⟩ := h
  have ok1 := ok.store (line * 64) b
  have harm := ok.ok.arm
  rw [putD_0]
  rcases store_out (at' := line * 64) (b := b) up (by omega) with ⟨h1, h2⟩ | ⟨h1, h2⟩
  · rw [h2] at ok1 ⊢
    rw [runD_0]
    generalize hd1 : ((({ d with armed := nxt d.armed, S := storeL d.S (line * 64).toNat b } : Dv).setM (stE (ovC (line * 64) b.length) (line * 64 / 64) (d.es, d.clock)))) = d1 at *
    dsimp only at ok1
    have e1 : d1.down = false := by rw [← hd1]; exact up
    have e2 : d1.S = storeL d.S (line * 64).toNat b := by rw [← hd1]; rfl
    have e3 : d1.L = d.L := by rw [← hd1]; rfl
    have e4 : d1.armed = nxt d.armed := by rw [← hd1]; rfl
    have e5 : d1.es = (stE (ovC (line * 64) b.length) (line * 64 / 64) (d.es, d.clock)).1 := by rw [← hd1]; rfl
    have ok2 := ok1.flush (line * 64) b.length
    have hsl : (storeL d.S (line * 64).toNat b).length = d.S.length := storeL_length (by omega)
    rcases flush_out (d := d1) (at' := line * 64) (n := b.length) e1 (by rw [e2, hsl]; omega) with ⟨h3, h4⟩ | ⟨h3, h4⟩
    · left
      refine ⟨by rw [e4] at h3; unfold nxt at h3; split at h3 <;> omega, _, h4, ?_, by rw [← e4]; rfl⟩
      rw [h4] at ok2
      refine ⟨ok2, e3, e2, ?_, e1⟩
      intro j v hj
      have hg := mget_flE j (ovC (line * 64) b.length) (line * 64 / 64) (d1.es, d1.clock)
      have hs := mget_stE j (ovC (line * 64) b.length) (line * 64 / 64) (d.es, d.clock)
      rw [← e5] at hs
      change mget (flE (ovC (line * 64) b.length) (line * 64 / 64) (d1.es, d1.clock)).1 j = some v at hj
      rw [hg] at hj
      dsimp only at hj hs
      by_cases hin : line * 64 / 64 ≤ j ∧ j < line * 64 / 64 + (ovC (line * 64) b.length : Int)
      · rw [if_pos hin] at hs
        rw [if_pos ⟨hin, by rw [hs]; rfl⟩] at hj
        exact (Option.some.inj hj).symm
      · rw [if_neg hin] at hs
        rw [if_neg (fun q => hin q.1), hs] at hj
        exact fl j v hj
    · right
      refine ⟨by rw [e4] at h3; unfold nxt at h3; split at h3 <;> omega, _, h4, .inr ?_⟩
      rw [h4] at ok2
      exact ⟨ok2, e3, e2, rfl⟩
  · right
    rw [h2] at ok1 ⊢
    rw [runD_5]
    exact ⟨.inl h1, _, rfl, .inl ⟨ok1, rfl, rfl, rfl⟩⟩
theorem es_nil {es : List ME} (h : ∀ j, mget es j = none) : es = [] := by
  cases es with
  | nil => rfl
  | cons e r =>
    have := h e.key
    rw [mget_cons, if_pos rfl] at this
    cases this
theorem fence_out {d : Dv} {X Y : List UInt8} (h : Cl d X Y) :
    (d.armed ≠ 1 ∧ ∃ d', fenD (0, d) = (0, d') ∧ Cl d' Y Y ∧ d'.es = [] ∧ d'.armed = nxt d.armed) ∨ (d.armed = 1 ∧ ∃ d', fenD (0, d) = (5, d') ∧ Dn d' X Y) := by
  obtain ⟨ok, rfl, rfl, fl, up⟩ := h
  have ok1 := ok.fence
  unfold fenD
  rw [runD_0]
  unfold fenceD at *
  rcases begin_out (ask_up (at' := 0) (n := 0) up (by omega)) with ⟨h1, h2⟩ | ⟨h1, h2⟩
  · left
    refine ⟨h1, ?_⟩
    rw [h2] at ok1 ⊢
    have okb := ok.begin 0 0
    rw [h2] at okb
    dsimp only at ok1 okb ⊢
    rw [if_neg (by simp)] at ok1 ⊢
    obtain ⟨f1, f2, f3⟩ := fence_all okb.ok
    dsimp only at f1 f2 ok1
    have hes : ((srt (d.es.map ME.key)).foldl fenceS { d with armed := nxt d.armed }).es = [] := by
      refine es_nil fun j => ?_
      rw [f1]
      split
      · rfl
      · rename_i hf
        cases hm : mget d.es j with
        | none => rfl
        | some v =>
          exfalso
          have := fl j v hm
          subst this
          exact hf (by unfold flushed; rw [hm])
    have hL : ((srt (d.es.map ME.key)).foldl fenceS { d with armed := nxt d.armed }).L = d.S := by
      refine List.ext_getElem? fun p => ?_
      rw [f2]
      split
      · rfl
      · rename_i hf
        refine ok.cl p ?_
        cases hm : mget d.es ((p / 64 : Nat) : Int) with
        | none => rfl
        | some v =>
          exfalso
          have := fl _ v hm
          subst this
          exact hf (by unfold flushed; rw [hm])
    refine ⟨_, rfl, ⟨ok1, hL, f3.S, ?_, f3.down.trans up⟩, hes, f3.armed⟩
    rw [hes]
    intro j v hj
    cases hj
  · right
    refine ⟨h1, ?_⟩
    rw [h2] at ok1 ⊢
    exact ⟨_, rfl, ok1, rfl, rfl, rfl⟩
end Go.Proofs.Ytppccaacbpkgiaa

namespace Go.Proofs.Ytppccaacbpkgiaa
open Go Go.Proofs.Ytppccaacbpkgiaa.V
set_option linter.unusedSimpArgs false
/-! ### Pipelines: what m steps leave, from a device armed with a -/
def dec (m a : Int) : Int := if 0 < a then a - m else a
inductive OutC (m a : Int) (r : Int × Dv) (G : Dv → Prop) (P : List UInt8 → List UInt8 → Prop) : Prop
  | ok (h : ¬ (1 ≤ a ∧ a ≤ m)) (h0 : r.1 = 0) (hg : G r.2) (ha : r.2.armed = dec m a)
  | no (h : 1 ≤ a ∧ a ≤ m) (h5 : r.1 = 5) (X Y : List UInt8) (hd : Dn r.2 X Y) (hp : P X Y)
theorem OutC.mono {m a : Int} {r : Int × Dv} {G G' : Dv → Prop} {P P' : List UInt8 → List UInt8 → Prop} (h : OutC m a r G P) (hG : ∀ d, G d → G' d) (hP : ∀ X Y, P X Y → P' X Y) : OutC m a r G' P' := by
  rcases h with ⟨h, h0, hg, ha⟩ | ⟨h, h5, X, Y, hd, hp⟩
  · exact .ok h h0 (hG _ hg) ha
  · exact .no h h5 X Y hd (hP _ _ hp)
theorem OutC.bind {m m' a : Int} {r : Int × Dv} {G G' : Dv → Prop} {P : List UInt8 → List UInt8 → Prop} {f : Dv → Int × Dv} (h : OutC m a r G P) (hm : 0 ≤ m) (hm' : 0 ≤ m') (hf : ∀ d, G d → OutC m' d.armed (f d) G' P) : OutC (m + m') a (runD f r) G' P := by
  obtain ⟨e, d⟩ := r
  rcases h with ⟨h, h0, hg, ha⟩ | ⟨h, h5, X, Y, hd, hp⟩
  · dsimp only at h0 hg ha
    subst h0
    rw [runD_0]
    have h2 := hf d hg
    rw [ha] at h2
    unfold dec at h2
    by_cases hp : 0 < a
    · rw [if_pos hp] at h2
      rcases h2 with ⟨k, k0, kg, ka⟩ | ⟨k, k5, X, Y, kd, kp⟩
      · refine .ok (by omega) k0 kg ?_
        rw [ka]
        unfold dec
        rw [if_pos hp, if_pos (by omega)]
        omega
      · exact .no (by omega) k5 X Y kd kp
    · rw [if_neg hp] at h2
      rcases h2 with ⟨k, k0, kg, ka⟩ | ⟨k, k5, X, Y, kd, kp⟩
      · refine .ok (by omega) k0 kg ?_
        rw [ka]
        unfold dec
        rw [if_neg hp, if_neg hp]
      · exact absurd k.1 (by omega)
  · dsimp only at h5 hd
    subst h5
    rw [runD_5]
    exact .no (by omega) rfl X Y hd hp
theorem putD_run (l : Int) (b : List UInt8) (p : Int × Dv) : putD l b p = runD (fun d => putD l b (0, d)) p := by
  obtain ⟨e, d⟩ := p
  by_cases h : e = 0
  · subst h; rw [runD_0]
  · have e1 : runD (fun d => putD l b (0, d)) (e, d) = (e, d) := if_neg h
    rw [e1]
    unfold putD
    have e2 : runD (fun d => storeD d (l * 64) b) (e, d) = (e, d) := if_neg h
    rw [e2]
    exact if_neg h
theorem fenD_run (p : Int × Dv) : fenD p = runD (fun d => fenD (0, d)) p := by
  unfold fenD
  congr 1
def PutOk (Y : List UInt8) (line : Int) (b : List UInt8) : Prop := 0 ≤ line ∧ line * 64 + b.length ≤ Y.length
def sto (Y : List UInt8) (line : Int) (b : List UInt8) : List UInt8 := storeL Y (line * 64).toNat b
theorem sto_len {Y : List UInt8} {line : Int} {b : List UInt8} (h : PutOk Y line b) : (sto Y line b).length = Y.length := storeL_length (by unfold PutOk at h; omega)
theorem put_outC {d : Dv} {X Y : List UInt8} (h : Cl d X Y) {line : Int} {b : List UInt8} (hl : PutOk Y line b) {P : List UInt8 → List UInt8 → Prop} (h1 : P X Y) (h2 : P X (sto Y line b)) : OutC 2 d.armed (putD line b (0, d)) (fun d' => Cl d' X (sto Y line b)) P := by
  have harm := h.ok.ok.arm
  rcases put_out h hl with ⟨k1, d', k2, k3, k4⟩ | ⟨k1, d', k2, k3⟩
  · rw [k2]
    refine .ok (by omega) rfl k3 ?_
    dsimp only
    rw [k4]
    unfold nxt dec
    by_cases h0 : 0 < d.armed
    · rw [if_pos h0, if_pos h0, if_pos (by omega)]; omega
    · rw [if_neg h0, if_neg h0, if_neg h0]
  · rw [k2]
    rcases k3 with k3 | k3
    · exact .no (by omega) rfl X Y k3 h1
    · exact .no (by omega) rfl X _ k3 h2
theorem fence_outC {d : Dv} {X Y : List UInt8} (h : Cl d X Y) {P : List UInt8 → List UInt8 → Prop} (h1 : P X Y) : OutC 1 d.armed (fenD (0, d)) (fun d' => Cl d' Y Y ∧ d'.es = []) P := by
  have harm := h.ok.ok.arm
  rcases fence_out h with ⟨k1, d', k2, k3, k4, k5⟩ | ⟨k1, d', k2, k3⟩
  · rw [k2]
    refine .ok (by omega) rfl ⟨k3, k4⟩ ?_
    dsimp only
    rw [k5]
    rfl
  · rw [k2]
    exact .no (by omega) rfl X Y k3 h1
/-- Changes, one after the other. -/
def lays (Y : List UInt8) (L : List (Int × List UInt8)) : List UInt8 := L.foldl (fun Y c => sto Y c.1 c.2) Y
theorem lays_succ {Y : List UInt8} {L : List (Int × List UInt8)} {k : Nat} {c : Int × List UInt8} (h : L[k]? = some c) : lays Y (L.take (k + 1)) = sto (lays Y (L.take k)) c.1 c.2 := by
  unfold lays
  rw [List.take_add_one, h]
  simp
theorem lays_len {n : Nat} : ∀ {L : List (Int × List UInt8)} {Y : List UInt8}, Y.length = n → (∀ c, c ∈ L → 0 ≤ c.1 ∧ c.1 * 64 + c.2.length ≤ n) → (lays Y L).length = n
  | [], Y, h, _ => h
  | c :: L, Y, h, hL => by
    have hc := hL c (by simp)
    show (lays (sto Y c.1 c.2) L).length = n
    exact lays_len (by rw [sto_len (by unfold PutOk; omega), h]) fun c' hc' => hL c' (by simp [hc'])
theorem puts_outC {L : List (Int × List UInt8)} {d : Dv} {X Y : List UInt8} (h : Cl d X Y) (hL : ∀ c, c ∈ L → 0 ≤ c.1 ∧ c.1 * 64 + c.2.length ≤ Y.length) {P : List UInt8 → List UInt8 → Prop} (hP : ∀ j, j ≤ L.length → P X (lays Y (L.take j))) :
    ∀ k, k ≤ L.length → OutC (2 * k) d.armed (putsD (L.take k) (0, d)) (fun d' => Cl d' X (lays Y (L.take k))) P
  | 0, _ => by
    simp only [List.take_zero]
    refine .ok (by omega) rfl h ?_
    show d.armed = dec (2 * ((0 : Nat) : Int)) d.armed
    unfold dec
    split <;> omega
  | k + 1, hk => by
    have hc : L[k]? = some L[k] := List.getElem?_eq_getElem (by omega)
    have ih := puts_outC h hL hP k (by omega)
    rw [putsD_succ hc, putD_run, lays_succ hc, show (2 * ((k + 1 : Nat) : Int)) = 2 * (k : Int) + 2 by omega]
    refine ih.bind (by omega) (by omega) fun d' hd' => ?_
    have hl := lays_len (L := L.take k) (Y := Y) rfl fun c hc => hL c (List.mem_of_mem_take hc)
    have hcr := hL L[k] (List.getElem_mem _)
    refine put_outC hd' (by unfold PutOk; rw [hl]; exact hcr) (hP k (by omega)) ?_
    rw [← lays_succ hc]
    exact hP (k + 1) hk
def finS (g : LogV) (L : List (Int × List UInt8)) (A : List UInt8) : List UInt8 := sto (lays A L) g.Mark zer64
theorem fin_outC {g : LogV} {L : List (Int × List UInt8)} {d : Dv} {A : List UInt8} (h : Cl d A A) (hL : ∀ c, c ∈ L → 0 ≤ c.1 ∧ c.1 * 64 + c.2.length ≤ A.length) (hM : 0 ≤ g.Mark ∧ g.Mark * 64 + 64 ≤ A.length) {P : List UInt8 → List UInt8 → Prop}
    (hP : ∀ j, j ≤ L.length → P A (lays A (L.take j))) (hP2 : P (lays A L) (lays A L)) (hP3 : P (lays A L) (finS g L A)) : OutC (2 * (L.length : Int) + 4) d.armed (finD g L (0, d)) (fun d' => Cl d' (finS g L A) (finS g L A) ∧ d'.es = []) P := by
  have h1 := puts_outC h hL hP L.length (Nat.le_refl _)
  rw [List.take_length] at h1
  have hl := lays_len (L := L) (Y := A) rfl hL
  have hz : zer64.length = 64 := by decide
  unfold finD
  rw [fenD_run, putD_run, fenD_run (putsD L (0, d)), show 2 * (L.length : Int) + 4 = 2 * (L.length : Int) + 1 + 2 + 1 by omega]
  refine OutC.bind (G := fun d' => Cl d' (lays A L) (finS g L A)) ?_ (by omega) (by omega) fun d' hd' => fence_outC hd' hP3
  refine OutC.bind (G := fun d' => Cl d' (lays A L) (lays A L)) ?_ (by omega) (by omega) fun d' hd' => put_outC hd' (by unfold PutOk; rw [hl, hz]; exact hM) hP2 hP3
  have hp := hP L.length (Nat.le_refl _)
  rw [List.take_length] at hp
  refine OutC.bind h1 (by omega) (by omega) fun d' hd' => (fence_outC hd' hp).mono (fun _ q => q.1) fun _ _ q => q
/-- What a commit brings about. -/
def c1S (g : LogV) (L : List (Int × List UInt8)) (A : List UInt8) : List UInt8 := sto A g.First (recsB L)
def c2S (g : LogV) (L : List (Int × List UInt8)) (A : List UInt8) : List UInt8 := sto (c1S g L A) g.Mark (markB L.length (recsB L))
theorem com_outC {g : LogV} {L : List (Int × List UInt8)} {d : Dv} {A : List UInt8} (h : Cl d A A) (hL : ∀ c, c ∈ L → 0 ≤ c.1 ∧ c.1 * 64 + c.2.length ≤ A.length) (hM : 0 ≤ g.Mark ∧ g.Mark * 64 + 64 ≤ A.length) (hF : PutOk A g.First (recsB L)) (hml : (markB L.length (recsB L)).length = 64) {P : List UInt8 → List UInt8 → Prop}
    (p1 : P A A) (p2 : P A (c1S g L A)) (p3 : P (c1S g L A) (c1S g L A)) (p4 : P (c1S g L A) (c2S g L A))
    (hP : ∀ j, j ≤ L.length → P (c2S g L A) (lays (c2S g L A) (L.take j))) (hP2 : P (lays (c2S g L A) L) (lays (c2S g L A) L)) (hP3 : P (lays (c2S g L A) L) (finS g L (c2S g L A))) :
    OutC (2 * (L.length : Int) + 10) d.armed (comD g L d) (fun d' => Cl d' (finS g L (c2S g L A)) (finS g L (c2S g L A)) ∧ d'.es = []) P := by
  have l1 : (c1S g L A).length = A.length := sto_len hF
  have l2 : (c2S g L A).length = A.length := (sto_len (by unfold PutOk; rw [l1, hml]; exact hM)).trans l1
  have run : ∀ p, finD g L p = runD (fun d => finD g L (0, d)) p := by
    rintro ⟨e, d⟩
    by_cases he : e = 0
    · subst he; rw [runD_0]
    · have e1 : runD (fun d => finD g L (0, d)) (e, d) = (e, d) := if_neg he
      rw [e1]
      have e2 : ∀ l : List (Int × List UInt8), putsD l (e, d) = (e, d) := by
        intro l
        induction l with
        | nil => rfl
        | cons c l ih =>
          have e3 : putD c.1 c.2 (e, d) = (e, d) := by rw [putD_run]; exact if_neg he
          show putsD l (putD c.1 c.2 (e, d)) = (e, d)
          rw [e3, ih]
      unfold finD
      rw [e2, fenD_run (e, d)]
      have e4 : runD (fun d => fenD (0, d)) (e, d) = (e, d) := if_neg he
      rw [e4, putD_run]
      have e5 : runD (fun d => putD g.Mark zer64 (0, d)) (e, d) = (e, d) := if_neg he
      rw [e5, fenD_run, e4]
  unfold comD
  rw [run, fenD_run, putD_run g.Mark, fenD_run (putD g.First (recsB L) (0, d)), show 2 * (L.length : Int) + 10 = 2 + 1 + 2 + 1 + (2 * (L.length : Int) + 4) by omega]
  refine OutC.bind (G := fun d' => Cl d' (c2S g L A) (c2S g L A)) ?_ (by omega) (by omega) fun d' hd' => fin_outC hd' (by rw [l2]; exact hL) (by rw [l2]; exact hM) hP hP2 hP3
  refine OutC.bind (G := fun d' => Cl d' (c1S g L A) (c2S g L A)) ?_ (by omega) (by omega) fun d' hd' => (fence_outC hd' p4).mono (fun _ q => q.1) fun _ _ q => q
  refine OutC.bind (G := fun d' => Cl d' (c1S g L A) (c1S g L A)) ?_ (by omega) (by omega) fun d' hd' => put_outC hd' (by unfold PutOk; rw [l1, hml]; exact hM) p3 p4
  exact OutC.bind (put_outC h hF p1 p2) (by omega) (by omega) fun d' hd' => (fence_outC hd' p2).mono (fun _ q => q.1) fun _ _ q => q
end Go.Proofs.Ytppccaacbpkgiaa

