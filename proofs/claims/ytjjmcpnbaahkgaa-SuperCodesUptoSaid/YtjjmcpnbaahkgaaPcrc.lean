import Derived.Test.YtjjmcpnbaahkgaaPref01
namespace Go.Proofs.Ytjjmcpnbaahkgaa
open Go Go.Proofs.Ytjjmcpnbaahkgaa.V
set_option maxRecDepth 20000
attribute [local irreducible] CallS AOK AOKn ALoop Side Ref.ok
/-! ### Sums, plain -/
def poly : Nat := 3988292384
def ones : Nat := 4294967295
def step1 (n : Nat) : Nat := if n % 2 = 1 then (n / 2) ^^^ poly else n / 2
def stepK : Nat → Nat → Nat
  | 0, n => n
  | k + 1, n => step1 (stepK k n)
def crun (n : Nat) (s : List UInt8) : Nat := s.foldl (fun n b => stepK 8 (n ^^^ b.toNat)) n
theorem step1_lt {n : Nat} (h : n < 4294967296) : step1 n < 4294967296 := by
  unfold step1
  split
  · exact Nat.xor_lt_two_pow (n := 32) (by omega) (by decide)
  · omega
theorem stepK_lt : ∀ (k : Nat) {n : Nat}, n < 4294967296 → stepK k n < 4294967296
  | 0, n, h => h
  | k + 1, n, h => step1_lt (stepK_lt k h)
theorem xorb_lt {n : Nat} (h : n < 4294967296) (b : UInt8) : n ^^^ b.toNat < 4294967296 :=
  Nat.xor_lt_two_pow (n := 32) h (by have := b.toNat_lt; omega)
theorem crun_lt : ∀ (s : List UInt8) {n : Nat}, n < 4294967296 → crun n s < 4294967296
  | [], n, h => h
  | b :: s, n, h => crun_lt s (stepK_lt 8 (xorb_lt h b))
theorem crun_append (n : Nat) (s t : List UInt8) : crun n (s ++ t) = crun (crun n s) t := by simp [crun]
def sum (s : List UInt8) : Nat := ones ^^^ crun ones s
theorem wrap32 {m : Nat} (h : m < 4294967296) : IntKind.wrap .u32 (m : Int) = m := by
  rw [IntKind.wrap_u32]; omega
theorem bv32 {m : Nat} (hm : m < 4294967296) : (BitVec.ofInt 32 (m : Int)).toNat = m := by
  rw [BitVec.ofInt_natCast, BitVec.toNat_ofNat]; exact Nat.mod_eq_of_lt hm
theorem and32 {m : Nat} (h : m < 4294967296) : IntKind.wrap .u32 ((BitVec.ofInt IntKind.u32.bits (m : Int) &&& BitVec.ofInt IntKind.u32.bits 1).toNat : Nat) = ((m % 2 : Nat) : Int) := by
  have e : (BitVec.ofInt IntKind.u32.bits (m : Int) &&& BitVec.ofInt IntKind.u32.bits 1).toNat = m % 2 := by
    show (BitVec.ofInt 32 (m : Int) &&& BitVec.ofInt 32 ((1 : Nat) : Int)).toNat = m % 2
    rw [BitVec.toNat_and, bv32 h, bv32 (by omega), Nat.and_one_is_mod]
  rw [e, wrap32 (by omega)]
theorem xor32 {a b : Nat} {x y : Int} (hx : x = a) (hy : y = b) (ha : a < 4294967296) (hb : b < 4294967296) : IntKind.wrap .u32 ((BitVec.ofInt IntKind.u32.bits x ^^^ BitVec.ofInt IntKind.u32.bits y).toNat : Nat) = ((a ^^^ b : Nat) : Int) := by
  subst hx; subst hy
  have e : (BitVec.ofInt IntKind.u32.bits (a : Int) ^^^ BitVec.ofInt IntKind.u32.bits (b : Int)).toNat = a ^^^ b := by
    show (BitVec.ofInt 32 (a : Int) ^^^ BitVec.ofInt 32 (b : Int)).toNat = a ^^^ b
    rw [BitVec.toNat_xor, bv32 ha, bv32 hb]
  rw [e, wrap32 (Nat.xor_lt_two_pow (n := 32) ha hb)]
theorem xor64 {a b : Nat} {x y : Int} (hx : x = a) (hy : y = b) (ha : a < 4294967296) (hb : b < 4294967296) : IntKind.wrap .i64 ((BitVec.ofInt IntKind.i64.bits x ^^^ BitVec.ofInt IntKind.i64.bits y).toNat : Nat) = ((a ^^^ b : Nat) : Int) := by
  subst hx; subst hy
  have e : (BitVec.ofInt IntKind.i64.bits (a : Int) ^^^ BitVec.ofInt IntKind.i64.bits (b : Int)).toNat = a ^^^ b := by
    show (BitVec.ofInt 64 (a : Int) ^^^ BitVec.ofInt 64 (b : Int)).toNat = a ^^^ b
    rw [BitVec.toNat_xor, bv_nat (Nat.lt_trans ha (by decide)), bv_nat (Nat.lt_trans hb (by decide))]
  rw [e, wrap_nat (Nat.lt_trans (Nat.xor_lt_two_pow (n := 32) ha hb) (by decide))]
theorem half32 (m : Nat) : (m : Int).fdiv (2 ^ min (Int.toNat 1) IntKind.u32.bits) = ((m / 2 : Nat) : Int) := fdiv_nat m 2
theorem crun_take (n : Nat) (s : List UInt8) (k : Nat) (b : UInt8) (h : s[k]? = some b) : crun n (s.take (k + 1)) = stepK 8 (crun n (s.take k) ^^^ b.toNat) := by
  rw [List.take_add_one, h, crun_append]; rfl
theorem step_val (σ : AH) (n : Nat) (hn : n < 4294967296) (Q : AV → AH → Prop) (h : Q (.int .u32 (stepK 8 n : Nat)) σ) : CallS Try.prog F.crc_step [.int .u32 n] σ Q := by
  refine call_of_body mixed fc_crc_step_ok (by simp [fc_crc_step]) ?_
  skip
  all_goals (conv => whnf)
  all_goals (try dsimp only)
  refine loop_at (α := Nat) (fun a => [(0, .int .u32 (stepK a n : Nat)), (4, .int .i64 a)]) (fun a => σ) (fun a => a ≤ 8) (fun a => 8 - a) 0 (by omega) rfl rfl ?_
  intro k hk
  have hs := stepK_lt k hn
  have hk1 : stepK (k + 1) n = step1 (stepK k n) := rfl
  by_cases hlt : k < 8
  · generalize stepK k n = m at *
    unfold step1 at hk1
    have ea := and32 hs
    by_cases hm : m % 2 = 1
    · rw [if_pos hm] at hk1
      repeat' (first
        | ((with_reducible refine Side.intro ?_) <;> (first
        | omega
        ))
        | ((conv => whnf) <;> (first
        | (with_reducible refine and_same ?_)
        | (with_reducible refine and_side ?_ ?_)
        | (with_reducible refine Br.yes (by omega) ?_)
        ))
        )
      all_goals (conv => whnf)
      all_goals (try dsimp only)
      refine ⟨k + 1, ?_, rfl, by omega, by omega⟩
      rw [hk1, xor32 (y := 3988292384) (half32 m) (b := poly) rfl (by omega) (by decide)]
      rfl
    · rw [if_neg hm] at hk1
      repeat' (first
        | ((with_reducible refine Side.intro ?_) <;> (first
        | omega
        ))
        | ((conv => whnf) <;> (first
        | (with_reducible refine and_same ?_)
        | (with_reducible refine and_side ?_ ?_)
        | (with_reducible refine Br.yes (by omega) ?_)
        | (with_reducible refine Br.no (by omega) ?_)
        ))
        )
      all_goals (conv => whnf)
      all_goals (try dsimp only)
      refine ⟨k + 1, ?_, rfl, by omega, by omega⟩
      rw [hk1, half32]
      rfl
  · have h8 : k = 8 := by omega
    subst h8
    repeat' (first
      | ((conv => whnf) <;> (first
      | (with_reducible refine and_same ?_)
      | (with_reducible refine Br.no (by omega) ?_)
      ))
      )
    all_goals (conv => whnf)
    all_goals (try dsimp only)
    exact h
theorem goOn_val (σ : AH) (n : Nat) (s : List UInt8) (fr : Bool) (hs : s.length ≤ 4611686018427) (hn : n < 4294967296) (Q : AV → AH → Prop) (h : Q (.int .i64 (crun n s : Nat)) σ) : CallS Try.prog F.joistref02_goOn [.int .i64 n, .sl 1 (bs s) fr] σ Q := by
  have hl := bs_length s
  refine call_of_body mixed fc_joistref02_goOn_ok (by simp [fc_joistref02_goOn]) ?_
  skip
  all_goals (conv => whnf)
  all_goals (try dsimp only)
  refine loop_at (α := Nat) (fun a => [(0, .int .i64 (crun n (s.take a) : Nat)), (5, .int .i64 a)]) (fun a => σ) (fun a => a ≤ s.length) (fun a => s.length - a) 0 (by omega) rfl rfl ?_
  intro k hk
  have hc := crun_lt (s.take k) hn
  by_cases hlt : k < s.length
  · obtain ⟨b, hb, hb'⟩ := getN hlt
    have e1 := crun_take n s k b hb'
    have hx := xorb_lt hc b
    generalize crun n (s.take k) = r at *
    have hbl := b.toNat_lt
    have ex := xor64 (x := (r : Int)) (y := (b.toNat : Int)) rfl rfl hc (by omega)
    repeat' (first
      | ((with_reducible refine Side.intro ?_) <;> (first
      | omega
      ))
      | ((conv => whnf) <;> (first
      | (with_reducible refine and_same ?_)
      | (with_reducible refine Br.yes (by omega) ?_)
      | (with_reducible refine nthR_bs1 (by assumption) ?_)
      | (with_reducible refine ia_sl ?_ ?_)
      | (with_reducible refine lenR_sl ?_)
      ))
      )
    all_goals (conv => whnf)
    all_goals (try dsimp only)
    rw [ex]
    refine loop_at (α := Nat) (fun a => [(0, .int .i64 (stepK a (r ^^^ b.toNat) : Nat)), (6, .int .i64 a)]) (fun a => σ) (fun a => a ≤ 8) (fun a => 8 - a) 0 (by omega) rfl rfl ?_
    intro j hj
    have hs := stepK_lt j hx
    have hk1 : stepK (j + 1) (r ^^^ b.toNat) = step1 (stepK j (r ^^^ b.toNat)) := rfl
    by_cases hlt : j < 8
    · generalize stepK j (r ^^^ b.toNat) = m at *
      unfold step1 at hk1
      by_cases hm : m % 2 = 1
      · rw [if_pos hm] at hk1
        repeat' (first
          | ((with_reducible refine Side.intro ?_) <;> (first
          | omega
          ))
          | ((conv => whnf) <;> (first
          | (with_reducible refine and_same ?_)
          | (with_reducible refine and_side ?_ ?_)
          | (with_reducible refine Br.yes (by omega) ?_)
          ))
          )
        all_goals (conv => whnf)
        all_goals (try dsimp only)
        refine ⟨j + 1, ?_, rfl, by omega, by omega⟩
        rw [hk1, xor64 (x := (m : Int) / 2) (y := 3988292384) (a := m / 2) (b := poly) rfl rfl (by omega) (by decide)]
        rfl
      · rw [if_neg hm] at hk1
        repeat' (first
          | ((with_reducible refine Side.intro ?_) <;> (first
          | omega
          ))
          | ((conv => whnf) <;> (first
          | (with_reducible refine and_same ?_)
          | (with_reducible refine and_side ?_ ?_)
          | (with_reducible refine Br.yes (by omega) ?_)
          | (with_reducible refine Br.no (by omega) ?_)
          ))
          )
        all_goals (conv => whnf)
        all_goals (try dsimp only)
        refine ⟨j + 1, ?_, rfl, by omega, by omega⟩
        rw [hk1]
        rfl
    · have h8 : j = 8 := by omega
      subst h8
      repeat' (first
        | ((conv => whnf) <;> (first
        | (with_reducible refine and_same ?_)
        | (with_reducible refine Br.yes (by omega) ?_)
        | (with_reducible refine Br.no (by omega) ?_)
        ))
        )
      all_goals (conv => whnf)
      all_goals (try dsimp only)
      exact ⟨k + 1, by rw [e1]; rfl, rfl, by omega, by omega⟩
  · have h8 : k = s.length := by omega
    subst h8
    rw [List.take_length]
    repeat' (first
      | ((conv => whnf) <;> (first
      | (with_reducible refine and_same ?_)
      | (with_reducible refine Br.no (by omega) ?_)
      | (with_reducible refine lenR_sl ?_)
      ))
      )
    all_goals (conv => whnf)
    all_goals (try dsimp only)
    exact h
theorem run_val (σ : AH) (n : Nat) (s : List UInt8) (fr : Bool) (hs : s.length ≤ 4611686018427) (hn : n < 4294967296) (Q : AV → AH → Prop) (h : Q (.int .u32 (crun n s : Nat)) σ) : CallS Try.prog F.crc_run [.int .u32 n, .sl 1 (bs s) fr] σ Q := by
  have hl := bs_length s
  refine call_of_body mixed fc_crc_run_ok (by simp [fc_crc_run]) ?_
  repeat' (first
    | ((conv => whnf) <;> (first
    | (with_reducible refine lenR_sl ?_)
    ))
    )
  all_goals (conv => whnf)
  all_goals (try dsimp only)
  refine loop_at (α := Nat) (fun a => [(0, .int .u32 (crun n (s.take a) : Nat)), (9, .int .i64 a)]) (fun a => σ) (fun a => a ≤ s.length) (fun a => s.length - a) 0 (by omega) rfl rfl ?_
  intro k hk
  have hc := crun_lt (s.take k) hn
  by_cases hlt : k < s.length
  · obtain ⟨b, hb, hb'⟩ := getN hlt
    have e1 := crun_take n s k b hb'
    have hx := xorb_lt hc b
    generalize crun n (s.take k) = r at *
    have hbl := b.toNat_lt
    have ex := xor32 (x := (r : Int)) (y := (b.toNat : Int) % 4294967296) (b := b.toNat) rfl (by omega) hc (by omega)
    repeat' (first
      | ((with_reducible refine Side.intro ?_) <;> (first
      | omega
      ))
      | ((conv => whnf) <;> (first
      | (with_reducible refine and_same ?_)
      | (with_reducible refine Br.yes (by omega) ?_)
      | (with_reducible refine nthR_bs1 (by assumption) ?_)
      | (with_reducible refine ia_sl ?_ ?_)
      ))
      )
    all_goals (conv => whnf)
    all_goals (try dsimp only)
    rw [ex]
    refine step_val σ _ hx _ ?_
    repeat' (first
      | ((conv => whnf) <;> (first
      | (with_reducible refine and_same ?_)
      | (with_reducible refine Br.yes (by omega) ?_)
      ))
      )
    all_goals (conv => whnf)
    all_goals (try dsimp only)
    exact ⟨k + 1, by rw [e1]; rfl, rfl, by omega, by omega⟩
  · have h8 : k = s.length := by omega
    subst h8
    rw [List.take_length]
    repeat' (first
      | ((conv => whnf) <;> (first
      | (with_reducible refine and_same ?_)
      | (with_reducible refine Br.no (by omega) ?_)
      ))
      )
    all_goals (conv => whnf)
    all_goals (try dsimp only)
    exact h
theorem Sum_val (σ : AH) (s : List UInt8) (fr : Bool) (hs : s.length ≤ 4611686018427) (Q : AV → AH → Prop) (h : Q (.int .i64 (sum s : Nat)) σ) : CallS Try.prog F.crc_Sum [.sl 1 (bs s) fr] σ Q := by
  refine call_of_body mixed fc_crc_Sum_ok (by simp [fc_crc_Sum]) ?_
  skip
  all_goals (conv => whnf)
  all_goals (try dsimp only)
  refine run_val σ 4294967295 s fr hs (by omega) _ ?_
  have hc := crun_lt s (n := 4294967295) (by omega)
  have ex : IntKind.u32.wrap ((BitVec.ofInt IntKind.u32.bits (if IntKind.u32.signed = true then -1 else IntKind.u32.max) ^^^ BitVec.ofInt IntKind.u32.bits ((crun 4294967295 s : Nat) : Int)).toNat : Nat) = ((sum s : Nat) : Int) :=
    xor32 (a := ones) (b := crun 4294967295 s) rfl rfl (by decide) hc
  have hsum : sum s < 4294967296 := Nat.xor_lt_two_pow (n := 32) (by decide) hc
  repeat' (first
    | ((conv => whnf) <;> (first
    | (with_reducible refine Br.yes (by omega) ?_)
    ))
    )
  all_goals (conv => whnf)
  all_goals (try dsimp only)
  rw [ex]
  exact h
theorem RSum_val (σ : AH) (s : List UInt8) (fr : Bool) (hs : s.length ≤ 4611686018427) (Q : AV → AH → Prop) (h : Q (.int .i64 (sum s : Nat)) σ) : CallS Try.prog F.joistref02_Sum [.sl 1 (bs s) fr] σ Q := by
  refine call_of_body mixed fc_joistref02_Sum_ok (by simp [fc_joistref02_Sum]) ?_
  skip
  all_goals (conv => whnf)
  all_goals (try dsimp only)
  refine goOn_val σ 4294967295 s fr hs (by omega) _ ?_
  have hc := crun_lt s (n := 4294967295) (by omega)
  have ex := xor64 (x := 4294967295) (y := ((crun 4294967295 s : Nat) : Int)) (a := ones) rfl rfl (by decide) hc
  repeat' (first
    | ((conv => whnf) <;> (first
    | (with_reducible refine and_same ?_)
    ))
    )
  all_goals (conv => whnf)
  all_goals (try dsimp only)
  rw [ex]
  exact h
def addOk (n : Int) : Bool := decide (0 ≤ n ∧ n ≤ 4294967295)
def addV (n : Int) (s : List UInt8) : Nat := if addOk n then ones ^^^ crun (ones ^^^ n.toNat) s else 0
def addE (n : Int) : Int := if addOk n then 0 else 4
theorem ones_lt {n : Nat} (h : n < 4294967296) : ones ^^^ n < 4294967296 := Nat.xor_lt_two_pow (n := 32) (by decide) h
theorem ones2 (n : Nat) : ones ^^^ (ones ^^^ n) = n := by rw [← Nat.xor_assoc, Nat.xor_self, Nat.zero_xor]
theorem sum_lt (s : List UInt8) : sum s < 4294967296 := ones_lt (crun_lt s (by decide))
end Go.Proofs.Ytjjmcpnbaahkgaa
