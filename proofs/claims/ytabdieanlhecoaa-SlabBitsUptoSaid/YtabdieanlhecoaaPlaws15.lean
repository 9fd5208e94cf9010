import Derived.Test.YtabdieanlhecoaaPslab4
import Derived.Test.YtabdieanlhecoaaPslabp
namespace Go.Proofs.Ytabdieanlhecoaa
open Go Go.Proofs.Ytabdieanlhecoaa.V
set_option maxRecDepth 20000
attribute [local irreducible] CallS AOK AOKn ALoop Side Ref.ok
theorem shr_nat (X k : Nat) (hk : k < 32) : (X : Int).fdiv (2 ^ min (k : Int).toNat IntKind.i64.bits) = ((X / 2 ^ k : Nat) : Int) := by
  have e1 : min (k : Int).toNat IntKind.i64.bits = k := by
    show min (k : Int).toNat 64 = k
    omega
  have e2 : (2 : Int) ^ k = ((2 ^ k : Nat) : Int) := by norm_cast
  rw [e1, e2, fdiv_nat]
theorem shl1 {n : Int} (h0 : 0 ≤ n) (h1 : n ≤ 14) {X : Nat} (h : X < 2 ^ n.toNat) : (X : Int) < IntKind.wrap .i64 (1 * 2 ^ min n.toNat IntKind.i64.bits) := by
  have e1 : min n.toNat IntKind.i64.bits = n.toNat := by
    show min n.toNat 64 = n.toNat
    omega
  have h2 : 2 ^ n.toNat ≤ 2 ^ 14 := Nat.pow_le_pow_right (by omega) (by omega)
  have e2 : 2 ^ 14 = 16384 := by decide
  have e3 : (2 : Int) ^ n.toNat = ((2 ^ n.toNat : Nat) : Int) := by norm_cast
  rw [e1, Int.one_mul, e3, wrap_nat (by omega)]
  omega
theorem SlabBits_ok (c : Int) (a b : List Int) (ha : a.length ≤ 4611686018) (hb : b.length ≤ 4611686018) : AOKn Try.prog F.joistlaw15_SlabBits [.int .i64 c, .sl 1 (is a) false, .sl 1 (is b) false] fun y => y = .bool true := by
  have han := is_length a
  have hbn := is_length b
  refine AOKn.by_steps mixed fc_joistlaw15_SlabBits_ok (by simp [fc_joistlaw15_SlabBits]) ?_
  skip
  all_goals (conv => whnf)
  all_goals (try dsimp only)
  refine small_call fun H1 hg1 => ?_
  skip
  all_goals (conv => whnf)
  all_goals (try dsimp only)
  refine Bits_call c a ha (Looks.is _ _ _) fun H2 hg2 => ?_
  skip
  all_goals (conv => whnf)
  all_goals (try dsimp only)
  refine Bits_call c b hb (Looks.is _ _ _) fun H3 hg3 => ?_
  cases ho : btOk c a
  · rw [btV, btEr, ho, show (if false = true then (0 : Int) else 1) = 1 from rfl]
    repeat' (first
      | ((with_reducible refine Side.intro ?_) <;> (first
      | (simp only [List.append_nil, List.nil_append, List.map_nil]; first | exact List.nodup_nil | exact nodup_bid1 _ | exact nodup_bid2 (by assumption))
      | ((first | refine fresh_tup ?_ | skip); (repeat (first |  exact FreshA.sl _ _ FreshA_bs | exact FreshA.sl _ _ FreshA_is | exact FreshA.nils | exact FreshA.nilp | exact FreshA.int _ _ | exact FreshA.bool _ | exact FreshA.str _ | exact fresh_nil | refine fresh_cons ?_ ?_ | with_reducible refine fresh_aggR ?_ | with_reducible refine fresh_agg ?_ | with_reducible exact fresh_nilA | with_reducible refine fresh_consA ?_ ?_)); done)
      ))
      | ((conv => whnf) <;> (first
      | (with_reducible refine and_same ?_)
      | (with_reducible refine and_side ?_ ?_)
      | ((with_reducible apply Br.yes) ; (focus omega))
      | (with_reducible refine NOut.lit ?_)
      ))
      )
    all_goals (conv => whnf)
    all_goals (try dsimp only)
    exact ret_bool rfl
  · cases hp : btOk c b
    · rw [btV, btEr, ho, btV, btEr, hp, show (if false = true then (0 : Int) else 1) = 1 from rfl, show (if true = true then (0 : Int) else 1) = 0 from rfl]
      repeat' (first
        | ((with_reducible refine Side.intro ?_) <;> (first
        | (simp only [List.append_nil, List.nil_append, List.map_nil]; first | exact List.nodup_nil | exact nodup_bid1 _ | exact nodup_bid2 (by assumption))
        | ((first | refine fresh_tup ?_ | skip); (repeat (first |  exact FreshA.sl _ _ FreshA_bs | exact FreshA.sl _ _ FreshA_is | exact FreshA.nils | exact FreshA.nilp | exact FreshA.int _ _ | exact FreshA.bool _ | exact FreshA.str _ | exact fresh_nil | refine fresh_cons ?_ ?_ | with_reducible refine fresh_aggR ?_ | with_reducible refine fresh_agg ?_ | with_reducible exact fresh_nilA | with_reducible refine fresh_consA ?_ ?_)); done)
        ))
        | ((conv => whnf) <;> (first
        | (with_reducible refine and_same ?_)
        | (with_reducible refine and_side ?_ ?_)
        | ((with_reducible apply Br.yes) ; (focus omega))
        | ((with_reducible apply Br.no) ; (focus omega))
        | (with_reducible refine NOut.lit ?_)
        ))
        )
      all_goals (conv => whnf)
      all_goals (try dsimp only)
      exact ret_bool rfl
    · rw [btV, btEr, ho, btV, btEr, hp]
      simp only [if_true]
      have ba := bt_bd ho
      have bb := bt_bd hp
      have hinj := bt_inj ho hp
      have hla := bt_lt ho
      have hpc := pcn_bt ho
      generalize sumv a = X at *
      generalize sumv b = Y at *
      by_cases hl : a.length = b.length
      · repeat' (first
          | ((conv => whnf) <;> (first
          | (with_reducible refine and_same ?_)
          | ((with_reducible apply Br.yes) ; (focus omega))
          | ((with_reducible apply Br.no) ; (focus omega))
          | (with_reducible refine lenR_sl ?_)
          ))
          )
        all_goals (conv => whnf)
        all_goals (try dsimp only)
        refine loop_at (α := Nat × Bool) (fun p => [(12, .bool p.2), (13, .int .i64 p.1)]) (fun _ => H3) (fun p => p.1 ≤ a.length ∧ p.2 = decide (a.take p.1 = b.take p.1)) (fun p => a.length - p.1) (0, true) ⟨Nat.zero_le _, by simp⟩ rfl rfl ?_
        rintro ⟨i, s⟩ ⟨hi, hs⟩
        dsimp only at hi hs ⊢
        by_cases hlt : i < a.length ∧ s = true
        · obtain ⟨hlt, rfl⟩ := hlt
          obtain ⟨u, hu, hu'⟩ := getN hlt
          obtain ⟨v, hv, hv'⟩ := getN (l := b) (k := i) (by omega)
          have hs' := of_decide_eq_true hs.symm
          have hnext : (a.take (i + 1) = b.take (i + 1)) ↔ u = v := by
            rw [List.take_add_one, List.take_add_one, hu', hv', hs']
            simp
          repeat' (first
            | ((with_reducible refine Side.intro ?_) <;> (first
            | omega
            ))
            | ((conv => whnf) <;> (first
            | (with_reducible refine and_same ?_)
            | ((with_reducible apply Br.yes) ; (focus omega))
            | (with_reducible refine Br.mk (fun _ => ?_) (fun _ => ?_))
            | ((with_reducible apply nthR_is1) ; (focus assumption))
            | (with_reducible refine ia_sl ?_ ?_)
            | (with_reducible refine lenR_sl ?_)
            ))
            )
          all_goals (conv => whnf)
          all_goals (try dsimp only)
          · refine ⟨(i + 1, true), rfl, rfl, ⟨by dsimp only; omega, (decide_eq_true (hnext.2 (by assumption))).symm⟩, by dsimp only; omega⟩
          · refine ⟨(i + 1, false), rfl, rfl, ⟨by dsimp only; omega, (decide_eq_false fun e => absurd (hnext.1 e) (by assumption)).symm⟩, by dsimp only; omega⟩
        · cases s
          · have hab : X ≠ Y := fun e => by rw [hinj.1 e] at hs; simp at hs
            repeat' (first
              | ((conv => whnf) <;> (first
              | (with_reducible refine and_same ?_)
              | (with_reducible refine Br.mk (fun _ => ?_) (fun _ => ?_))
              | (with_reducible refine lenR_sl ?_)
              ))
              )
            all_goals (conv => whnf)
            all_goals (try dsimp only)
            all_goals
              refine loop_at (α := Nat × Nat) (fun p => [(14, .int .i64 p.2), (15, .int .i64 p.1)]) (fun _ => H3) (fun p => p.1 ≤ 32 ∧ p.2 = pcn X p.1) (fun p => 32 - p.1) (0, 0) ⟨Nat.zero_le _, rfl⟩ rfl rfl ?_
              rintro ⟨k, n⟩ ⟨hk, hn⟩
              dsimp only at hk hn ⊢
              by_cases hlt2 : k < 32
              · obtain ⟨q, hsh, hpk⟩ : ∃ q : Nat, (X : Int).fdiv (2 ^ min (k : Int).toNat IntKind.i64.bits) = (q : Int) ∧ pcn X (k + 1) = pcn X k + q % 2 := ⟨_, shr_nat X k hlt2, rfl⟩
                have hnk := pcn_bd X k
                repeat' (first
                  | ((with_reducible refine Side.intro ?_) <;> (first
                  | omega
                  ))
                  | ((conv => whnf) <;> (first
                  | (with_reducible refine and_same ?_)
                  | (with_reducible refine and_side ?_ ?_)
                  | ((with_reducible apply Br.yes) ; (focus omega))
                  ))
                  )
                all_goals (conv => whnf)
                all_goals (try dsimp only)
                all_goals first
                  | omega
                  | (rw [hsh]; exact ⟨(k + 1, n + q % 2), rfl, rfl, ⟨by dsimp only; omega, by dsimp only; rw [hpk, hn]⟩, by dsimp only; omega⟩)
              · have hkk : k = 32 := by omega
                subst hkk
                repeat' (first
                  | ((conv => whnf) <;> (first
                  | (with_reducible refine and_same ?_)
                  | ((with_reducible apply Br.no) ; (focus omega))
                  ))
                  )
                all_goals (conv => whnf)
                all_goals (try dsimp only)
                refine Cells_call c fun H4 hg4 => ?_
                rw [show clE c = 0 from by rw [clE, show clOk c = true from decide_eq_true ba.2]; rfl]
                have hcc := cn_bd c
                have hsx := shl1 (n := cn c) (by omega) (by omega) hla
                repeat' (first
                  | ((with_reducible refine Side.intro ?_) <;> (first
                  | omega
                  | (simp only [List.append_nil, List.nil_append, List.map_nil]; first | exact List.nodup_nil | exact nodup_bid1 _ | exact nodup_bid2 (by assumption))
                  | ((first | refine fresh_tup ?_ | skip); (repeat (first |  exact FreshA.sl _ _ FreshA_bs | exact FreshA.sl _ _ FreshA_is | exact FreshA.nils | exact FreshA.nilp | exact FreshA.int _ _ | exact FreshA.bool _ | exact FreshA.str _ | exact fresh_nil | refine fresh_cons ?_ ?_ | with_reducible refine fresh_aggR ?_ | with_reducible refine fresh_agg ?_ | with_reducible exact fresh_nilA | with_reducible refine fresh_consA ?_ ?_)); done)
                  ))
                  | ((conv => whnf) <;> (first
                  | (with_reducible refine and_same ?_)
                  | (with_reducible refine and_side ?_ ?_)
                  | (with_reducible refine Br.yes rfl ?_)
                  | ((with_reducible apply Br.yes) ; (focus omega))
                  | ((with_reducible apply Br.no) ; (focus omega))
                  | (with_reducible refine NOut.lit ?_)
                  | (with_reducible refine lenR_sl ?_)
                  ))
                  )
                all_goals (conv => whnf)
                all_goals (try dsimp only)
                all_goals first
                  | exact ret_bool rfl
                  | trace_state
          · have hil : i = a.length := by
              have : ¬ i < a.length := fun h => hlt ⟨h, rfl⟩
              omega
            subst hil
            have hs' := of_decide_eq_true hs.symm
            rw [List.take_length, List.take_of_length_le (by omega)] at hs'
            have hab : X = Y := hinj.2 hs'
            repeat' (first
              | ((conv => whnf) <;> (first
              | (with_reducible refine and_same ?_)
              | ((with_reducible apply Br.no) ; (focus omega))
              | (with_reducible refine lenR_sl ?_)
              ))
              )
            all_goals (conv => whnf)
            all_goals (try dsimp only)
            refine loop_at (α := Nat × Nat) (fun p => [(14, .int .i64 p.2), (15, .int .i64 p.1)]) (fun _ => H3) (fun p => p.1 ≤ 32 ∧ p.2 = pcn X p.1) (fun p => 32 - p.1) (0, 0) ⟨Nat.zero_le _, rfl⟩ rfl rfl ?_
            rintro ⟨k, n⟩ ⟨hk, hn⟩
            dsimp only at hk hn ⊢
            by_cases hlt2 : k < 32
            · obtain ⟨q, hsh, hpk⟩ : ∃ q : Nat, (X : Int).fdiv (2 ^ min (k : Int).toNat IntKind.i64.bits) = (q : Int) ∧ pcn X (k + 1) = pcn X k + q % 2 := ⟨_, shr_nat X k hlt2, rfl⟩
              have hnk := pcn_bd X k
              repeat' (first
                | ((with_reducible refine Side.intro ?_) <;> (first
                | omega
                ))
                | ((conv => whnf) <;> (first
                | (with_reducible refine and_same ?_)
                | (with_reducible refine and_side ?_ ?_)
                | ((with_reducible apply Br.yes) ; (focus omega))
                ))
                )
              all_goals (conv => whnf)
              all_goals (try dsimp only)
              all_goals first
                | omega
                | (rw [hsh]; exact ⟨(k + 1, n + q % 2), rfl, rfl, ⟨by dsimp only; omega, by dsimp only; rw [hpk, hn]⟩, by dsimp only; omega⟩)
            · have hkk : k = 32 := by omega
              subst hkk
              repeat' (first
                | ((conv => whnf) <;> (first
                | (with_reducible refine and_same ?_)
                | ((with_reducible apply Br.no) ; (focus omega))
                ))
                )
              all_goals (conv => whnf)
              all_goals (try dsimp only)
              refine Cells_call c fun H4 hg4 => ?_
              rw [show clE c = 0 from by rw [clE, show clOk c = true from decide_eq_true ba.2]; rfl]
              have hcc := cn_bd c
              have hsx := shl1 (n := cn c) (by omega) (by omega) hla
              repeat' (first
                | ((with_reducible refine Side.intro ?_) <;> (first
                | omega
                | (simp only [List.append_nil, List.nil_append, List.map_nil]; first | exact List.nodup_nil | exact nodup_bid1 _ | exact nodup_bid2 (by assumption))
                | ((first | refine fresh_tup ?_ | skip); (repeat (first |  exact FreshA.sl _ _ FreshA_bs | exact FreshA.sl _ _ FreshA_is | exact FreshA.nils | exact FreshA.nilp | exact FreshA.int _ _ | exact FreshA.bool _ | exact FreshA.str _ | exact fresh_nil | refine fresh_cons ?_ ?_ | with_reducible refine fresh_aggR ?_ | with_reducible refine fresh_agg ?_ | with_reducible exact fresh_nilA | with_reducible refine fresh_consA ?_ ?_)); done)
                ))
                | ((conv => whnf) <;> (first
                | (with_reducible refine and_same ?_)
                | (with_reducible refine and_side ?_ ?_)
                | (with_reducible refine Br.yes rfl ?_)
                | ((with_reducible apply Br.yes) ; (focus omega))
                | (with_reducible refine NOut.lit ?_)
                | (with_reducible refine lenR_sl ?_)
                ))
                )
              all_goals (conv => whnf)
              all_goals (try dsimp only)
              all_goals first
                | exact ret_bool rfl
                | trace_state
      · have hab : X ≠ Y := fun e => hl (by rw [hinj.1 e])
        repeat' (first
          | ((conv => whnf) <;> (first
          | (with_reducible refine and_same ?_)
          | ((with_reducible apply Br.no) ; (focus omega))
          | (with_reducible refine lenR_sl ?_)
          ))
          )
        all_goals (conv => whnf)
        all_goals (try dsimp only)
        refine loop_at (α := Unit) (fun _ => []) (fun _ => H3) (fun _ => True) (fun _ => 0) () trivial rfl rfl ?_
        rintro ⟨⟩ _
        repeat' (first
          | ((conv => whnf) <;> (first
          | (with_reducible refine and_same ?_)
          | (with_reducible refine Br.mk (fun _ => ?_) (fun _ => ?_))
          | (with_reducible refine lenR_sl ?_)
          ))
          )
        all_goals (conv => whnf)
        all_goals (try dsimp only)
        all_goals
          refine loop_at (α := Nat × Nat) (fun p => [(14, .int .i64 p.2), (15, .int .i64 p.1)]) (fun _ => H3) (fun p => p.1 ≤ 32 ∧ p.2 = pcn X p.1) (fun p => 32 - p.1) (0, 0) ⟨Nat.zero_le _, rfl⟩ rfl rfl ?_
          rintro ⟨k, n⟩ ⟨hk, hn⟩
          dsimp only at hk hn ⊢
          by_cases hlt2 : k < 32
          · obtain ⟨q, hsh, hpk⟩ : ∃ q : Nat, (X : Int).fdiv (2 ^ min (k : Int).toNat IntKind.i64.bits) = (q : Int) ∧ pcn X (k + 1) = pcn X k + q % 2 := ⟨_, shr_nat X k hlt2, rfl⟩
            have hnk := pcn_bd X k
            repeat' (first
              | ((with_reducible refine Side.intro ?_) <;> (first
              | omega
              ))
              | ((conv => whnf) <;> (first
              | (with_reducible refine and_same ?_)
              | (with_reducible refine and_side ?_ ?_)
              | ((with_reducible apply Br.yes) ; (focus omega))
              ))
              )
            all_goals (conv => whnf)
            all_goals (try dsimp only)
            all_goals first
              | omega
              | (rw [hsh]; exact ⟨(k + 1, n + q % 2), rfl, rfl, ⟨by dsimp only; omega, by dsimp only; rw [hpk, hn]⟩, by dsimp only; omega⟩)
          · have hkk : k = 32 := by omega
            subst hkk
            repeat' (first
              | ((conv => whnf) <;> (first
              | (with_reducible refine and_same ?_)
              | ((with_reducible apply Br.no) ; (focus omega))
              ))
              )
            all_goals (conv => whnf)
            all_goals (try dsimp only)
            refine Cells_call c fun H4 hg4 => ?_
            rw [show clE c = 0 from by rw [clE, show clOk c = true from decide_eq_true ba.2]; rfl]
            have hcc := cn_bd c
            have hsx := shl1 (n := cn c) (by omega) (by omega) hla
            repeat' (first
              | ((with_reducible refine Side.intro ?_) <;> (first
              | omega
              | (simp only [List.append_nil, List.nil_append, List.map_nil]; first | exact List.nodup_nil | exact nodup_bid1 _ | exact nodup_bid2 (by assumption))
              | ((first | refine fresh_tup ?_ | skip); (repeat (first |  exact FreshA.sl _ _ FreshA_bs | exact FreshA.sl _ _ FreshA_is | exact FreshA.nils | exact FreshA.nilp | exact FreshA.int _ _ | exact FreshA.bool _ | exact FreshA.str _ | exact fresh_nil | refine fresh_cons ?_ ?_ | with_reducible refine fresh_aggR ?_ | with_reducible refine fresh_agg ?_ | with_reducible exact fresh_nilA | with_reducible refine fresh_consA ?_ ?_)); done)
              ))
              | ((conv => whnf) <;> (first
              | (with_reducible refine and_same ?_)
              | (with_reducible refine and_side ?_ ?_)
              | (with_reducible refine Br.yes rfl ?_)
              | ((with_reducible apply Br.yes) ; (focus omega))
              | ((with_reducible apply Br.no) ; (focus omega))
              | (with_reducible refine NOut.lit ?_)
              | (with_reducible refine lenR_sl ?_)
              ))
              )
            all_goals (conv => whnf)
            all_goals (try dsimp only)
            all_goals first
              | exact ret_bool rfl
              | trace_state
end Go.Proofs.Ytabdieanlhecoaa
