import Derived.Test.YthakanioekmhbaaPdev2
namespace Go.Proofs.Ythakanioekmhbaa
open Go Go.Proofs.Ythakanioekmhbaa.V
set_option maxRecDepth 20000
attribute [local irreducible] CallS AOK AOKn ALoop Side Ref.ok
theorem Looks.slice {σ : AH} {id gen off len : Nat} {cap : Option Nat} {s : List UInt8} {sp : List (List AV)} (hb : σ[id]? = some { sz := 1, els := bs s ++ sp, gen := gen, wr := true, pure := true }) (hle : off + len ≤ s.length) : Looks σ (.rsl id gen off len cap) (.sl 1 (bs ((s.drop off).take len)) false) := by
  refine Looks.same ?_
  have e : ((bs s ++ sp).drop off).take len = bs ((s.drop off).take len) := by
    rw [List.drop_append_of_le_length (by rw [bs_length]; omega), List.take_append_of_le_length (by rw [List.length_drop, bs_length]; omega), bs_drop, bs_take]
  have hle' : off + len ≤ (bs s ++ sp).length := by rw [List.length_append, bs_length]; omega
  have e2 : derefV σ (.rsl id gen off len cap) = derefC σ (.rsl id gen off len cap) := rfl
  rw [e2]
  simp only [derefC, hb, e, untagLL_bs]
  rw [if_pos ⟨trivial, trivial, hle'⟩]
theorem Load_ok {σ : AH} {a : DA} {d : Dv} (h : DevH σ a d) (hl : d.S.length ≤ 1048576) (at' n : Int) (Q : AV → AH → Prop)
    (hy : askD d at' n = 0 → ∀ y σ', Gr σ σ' none → Own σ' 1 y (bs ((d.S.drop at'.toNat).take n.toNat)) → New σ y → Q (.tup [y, .int .i64 0]) σ')
    (hn : askD d at' n ≠ 0 → Q (.tup [.nils, .int .i64 (askD d at' n)]) σ) : CallS Try.prog F.pmem_Device_Load [.ptr a.i 0 0 0, .int .i64 at', .int .i64 n] σ Q := by
  have h0 := h
  obtain ⟨box, lasts, seen, map, ne⟩ := h0
  have hbl := bs_length d.S
  refine call_of_body mixed fc_pmem_Device_Load_ok (by simp [fc_pmem_Device_Load]) ?_
  skip
  all_goals (conv => whnf)
  all_goals (try dsimp only)
  refine asks_ok h hl at' n _ ?_
  by_cases h1 : askD d at' n = 0
  · have hy := hy h1
    have hr : 0 ≤ at' ∧ at' ≤ d.S.length ∧ 0 ≤ n ∧ n ≤ d.S.length - at' := by
      unfold askD at h1
      split at h1
      · cases h1
      · split at h1
        · cases h1
        · omega
    rw [h1]
    repeat' (first
      | ((with_reducible refine Side.intro ?_) <;> (first
      | omega
      ))
      | ((conv => whnf) <;> (first
      | (with_reducible refine and_same ?_)
      | (with_reducible refine and_side ?_ ?_)
      | ((with_reducible apply Br.yes) ; (focus omega))
      | ((with_reducible apply Br.no) ; (focus omega))
      | ((with_reducible apply blkAt_step) ; (focus (first
      | ((repeat (first
      | assumption
      )); done)
      )) ; (focus (first | rfl | assumption | omega)) ; (focus (first | rfl | assumption)) ; (try dsimp only))
      | (with_reducible refine SliceW.of ?_)
      ))
      )
    all_goals (conv => whnf)
    all_goals (try dsimp only)
    have e1 : (at' + n).toNat - at'.toNat = n.toNat := by omega
    refine call_sl (bytes_Clone_ok ((d.S.drop at'.toNat).take n.toNat) (by simp; omega)) (.cons ?_ .nil) fun σ1 y hg ho1 hy1 => ?_
    · rw [e1, Nat.zero_add]
      exact Looks.slice seen (by omega)
    · skip
      all_goals (conv => whnf)
      all_goals (try dsimp only)
      exact hy y σ1 hg ho1 hy1
  · have hn := hn h1
    generalize askD d at' n = k at *
    repeat' (first
      | ((conv => whnf) <;> (first
      | (with_reducible refine and_same ?_)
      | ((with_reducible apply Br.yes) ; (focus omega))
      ))
      )
    all_goals (conv => whnf)
    all_goals (try dsimp only)
    exact hn
def ovC (at' n : Int) : Nat := if n = 0 then 0 else ((at' + n - 1) / 64 - at' / 64 + 1).toNat
theorem over_ok {at' n : Int} (ha : 0 ≤ at' ∧ at' ≤ 1048576 ∧ 0 ≤ n ∧ n ≤ 1048576) {g : Nat} {caps : List AV} (I : Nat → AH → Prop) (σ : AH) (h0 : I 0 σ) (hI : ∀ k τ, k < ovC at' n → I k τ → CallS Try.prog g ([.int .i64 (at' / 64 + k)] ++ caps) τ fun _ τ' => I (k + 1) τ') (Q : AV → AH → Prop)
    (hQ : ∀ τ, I (ovC at' n) τ → Q (.tup []) τ) : CallS Try.prog F.pmem_over [.int .i64 at', .int .i64 n, .fn g caps] σ Q := by
  obtain ⟨a1, a2, a3, a4⟩ := ha
  refine call_of_body mixed fc_pmem_over_ok (by simp [fc_pmem_over]) ?_
  by_cases hn : n = 0
  · have e : ovC at' n = 0 := if_pos hn
    rw [e] at hQ
    repeat' (first
      | ((conv => whnf) <;> (first
      | (with_reducible refine and_same ?_)
      | ((with_reducible apply Br.yes) ; (focus omega))
      ))
      )
    all_goals (conv => whnf)
    all_goals (try dsimp only)
    exact hQ _ h0
  · have e : ovC at' n = ((at' + n - 1) / 64 - at' / 64 + 1).toNat := if_neg hn
    repeat' (first
      | ((with_reducible refine Side.intro ?_) <;> (first
      | omega
      ))
      | ((conv => whnf) <;> (first
      | (with_reducible refine and_same ?_)
      | (with_reducible refine and_side ?_ ?_)
      | ((with_reducible apply Br.yes) ; (focus omega))
      | ((with_reducible apply Br.no) ; (focus omega))
      ))
      )
    all_goals (conv => whnf)
    all_goals (try dsimp only)
    refine loop_at (α := Nat × AH) (fun a => [(6, .int .i64 (at' / 64 + a.1))]) (fun a => a.2) (fun a => a.1 ≤ ovC at' n ∧ I a.1 a.2) (fun a => ovC at' n - a.1) (0, σ) ⟨Nat.zero_le _, h0⟩ (by simp; rfl) rfl ?_
    rintro ⟨k, τ⟩ ⟨hk, hJ⟩
    dsimp only at hk hJ ⊢
    by_cases hlt : k < ovC at' n
    · repeat' (first
        | ((with_reducible refine Side.intro ?_) <;> (first
        | omega
        ))
        | ((conv => whnf) <;> (first
        | (with_reducible refine and_same ?_)
        | (with_reducible refine and_side ?_ ?_)
        | ((with_reducible apply Br.yes) ; (focus omega))
        ))
        )
      all_goals (conv => whnf)
      all_goals (try dsimp only)
      refine (hI k τ hlt hJ).mono fun x τ' hJ' => ?_
      repeat' (first
        | ((conv => whnf) <;> (first
        | (with_reducible refine and_same ?_)
        | ((with_reducible apply Br.yes) ; (focus omega))
        ))
        )
      all_goals (conv => whnf)
      all_goals (try dsimp only)
      exact ⟨(k + 1, τ'), by simp [Fr.upd, Fr.pick, Int.add_assoc], rfl, ⟨by dsimp only; omega, hJ'⟩, by dsimp only; omega⟩
    · have ek : k = ovC at' n := by omega
      repeat' (first
        | ((with_reducible refine Side.intro ?_) <;> (first
        | omega
        ))
        | ((conv => whnf) <;> (first
        | (with_reducible refine and_same ?_)
        | (with_reducible refine and_side ?_ ?_)
        | ((with_reducible apply Br.yes) ; (focus omega))
        | ((with_reducible apply Br.no) ; (focus omega))
        ))
        )
      all_goals (conv => whnf)
      all_goals (try dsimp only)
      rw [ek] at hJ
      exact hQ _ hJ
/-! ### Closures over a device; a line that lasts -/
theorem cpy {L S : List UInt8} {spl sps : List (List AV)} {o o' n m : Nat} (h1 : o + min n m ≤ L.length) (h2 : o' + n ≤ S.length) :
    (bs L ++ spl).take o ++ (((bs S ++ sps).drop o').take n).take (min (((bs S ++ sps).drop o').take n).length m) ++ (bs L ++ spl).drop (o + min (((bs S ++ sps).drop o').take n).length m) = bs (L.take o ++ (S.drop o').take (min n m) ++ L.drop (o + min n m)) ++ spl := by
  have e1 : ((bs S ++ sps).drop o').take n = bs ((S.drop o').take n) := by
    rw [List.drop_append_of_le_length (by rw [bs_length]; omega), List.take_append_of_le_length (by rw [List.length_drop, bs_length]; omega), bs_drop, bs_take]
  have e2 : ((S.drop o').take n).length = n := by simp; omega
  rw [e1, bs_length, e2, List.take_append_of_le_length (by rw [bs_length]; omega), List.drop_append_of_le_length (by rw [bs_length]; omega)]
  simp only [bs_take, bs_drop, ← bs_append, List.append_assoc, List.take_take]
  rw [show min (min n m) n = min n m by omega]
def lastL (L S : List UInt8) (k : Nat) : List UInt8 := L.take (64 * k) ++ (S.drop (64 * k)).take 64 ++ L.drop (64 * k + 64)
theorem St1_ok {σ : AH} {a : DA} {d : Dv} {bx : Nat} (h : DevH σ a d) (hb : σ[bx]? = some { sz := 1, els := [[.ptr a.i 0 0 0]], gen := 0, wr := true, pure := false }) (n : Int) (Q : AV → AH → Prop) (hQ : Q (.tup []) (σ.set a.im (mblk (mputE d.es n (.bool false) d.clock) (mputC d.es n d.clock)))) : CallS Try.prog F.pmem_Device_Store_1 [.int .i64 n, .ptr bx 0 0 0] σ Q := by
  obtain ⟨box, lasts, seen, map, ne⟩ := h
  refine call_of_body mixed fc_pmem_Device_Store_1_ok (by simp [fc_pmem_Device_Store_1]) ?_
  repeat' (first
    | ((conv => whnf) <;> (first
    | ((with_reducible apply blkAt_step) ; (focus (first
    | ((repeat (first
    | assumption
    )); done)
    )) ; (focus (first | rfl | assumption | omega)) ; (focus (first | rfl | assumption)) ; (try dsimp only))
    | ((with_reducible apply mapW_step) ; (focus (first
    | ((repeat (first
    | assumption
    )); done)
    )) ; (try dsimp only))
    ))
    )
  all_goals (conv => whnf)
  all_goals (try dsimp only)
  exact hQ
theorem Fl1_ok {σ : AH} {a : DA} {d : Dv} {bx : Nat} (h : DevH σ a d) (hb : σ[bx]? = some { sz := 1, els := [[.ptr a.i 0 0 0]], gen := 0, wr := true, pure := false }) (n : Int) (Q : AV → AH → Prop)
    (h1 : mget d.es n = none → Q (.tup []) σ) (h2 : ∀ v, mget d.es n = some v → Q (.tup []) (σ.set a.im (mblk (mputE d.es n (.bool true) d.clock) (mputC d.es n d.clock)))) : CallS Try.prog F.pmem_Device_Flush_1 [.int .i64 n, .ptr bx 0 0 0] σ Q := by
  obtain ⟨box, lasts, seen, map, ne⟩ := h
  refine call_of_body mixed fc_pmem_Device_Flush_1_ok (by simp [fc_pmem_Device_Flush_1]) ?_
  cases hm : mget d.es n with
  | none =>
    repeat' (first
      | ((conv => whnf) <;> (first
      | ((with_reducible apply blkAt_step) ; (focus (first
      | ((repeat (first
      | assumption
      )); done)
      )) ; (focus (first | rfl | assumption | omega)) ; (focus (first | rfl | assumption)) ; (try dsimp only))
      | ((with_reducible apply mapW_step) ; (focus (first
      | ((repeat (first
      | assumption
      )); done)
      )) ; (try dsimp only))
      | ((with_reducible apply lookW_none) ; (focus assumption))
      ))
      )
    all_goals (conv => whnf)
    all_goals (try dsimp only)
    exact h1 hm
  | some v =>
    repeat' (first
      | ((conv => whnf) <;> (first
      | ((with_reducible apply blkAt_step) ; (focus (first
      | ((repeat (first
      | assumption
      )); done)
      )) ; (focus (first | rfl | assumption | omega)) ; (focus (first | rfl | assumption)) ; (try dsimp only))
      | ((with_reducible apply mapW_step) ; (focus (first
      | ((repeat (first
      | assumption
      )); done)
      )) ; (try dsimp only))
      | ((with_reducible apply lookW_some) ; (focus assumption))
      ))
      )
    all_goals (conv => whnf)
    all_goals (try dsimp only)
    exact h2 v hm
theorem last_ok {σ : AH} {a : DA} {d : Dv} (h : DevH σ a d) (hl : d.L.length ≤ 1048576) (he : d.S.length = d.L.length) (k : Nat) (hk : 64 * k + 64 ≤ d.L.length) (Q : AV → AH → Prop) (hQ : ∀ σ', DevH σ' a { d with L := lastL d.L d.S k } → GrP σ σ' a.has → Q (.tup []) σ') : CallS Try.prog F.pmem_Device_last [.ptr a.i 0 0 0, .int .i64 k] σ Q := by
  have h0 := h
  obtain ⟨box, lasts, seen, map, ne⟩ := h0
  have hbl := bs_length d.S
  have hbs := bs_length d.L
  refine call_of_body mixed fc_pmem_Device_last_ok (by simp [fc_pmem_Device_last]) ?_
  repeat' (first
    | ((with_reducible refine Side.intro ?_) <;> (first
    | omega
    | (simp only [bs_length, List.length_append, List.length_cons, List.length_nil, List.length_take, List.length_drop, List.length_set, List.length_replicate]; omega)
    ))
    | ((conv => whnf) <;> (first
    | (with_reducible refine and_same ?_)
    | (with_reducible refine and_side ?_ ?_)
    | ((with_reducible apply Br.yes) ; (focus omega))
    | ((with_reducible apply blkAt_step) ; (focus (first
    | ((repeat (first
    | assumption
    )); done)
    )) ; (focus (first | rfl | assumption | omega)) ; (focus (first | rfl | assumption)) ; (try dsimp only))
    | (with_reducible refine SliceW.of ?_)
    | (with_reducible refine CopyW.of ?_)
    | (with_reducible refine rowsR_rsl ?_)
    ))
    )
  all_goals (conv => whnf)
  all_goals (try dsimp only)
  have := h.setL (lastL d.L d.S k) (by simp [lastL]; omega)
  rw [cpy (by omega) (by omega)]
  refine hQ _ ?_ ((GrP.refl _ _).setT (.inr (.inl rfl)) _)
  have e : List.take (0 + ((k : Int) * 64).toNat) d.L ++ List.take (min ((d.S.length : Int).toNat - ((k : Int) * 64).toNat) (((k : Int) * 64 + 64).toNat - ((k : Int) * 64).toNat)) (List.drop (0 + ((k : Int) * 64).toNat) d.S) ++ List.drop (0 + ((k : Int) * 64).toNat + min ((d.S.length : Int).toNat - ((k : Int) * 64).toNat) (((k : Int) * 64 + 64).toNat - ((k : Int) * 64).toNat)) d.L = lastL d.L d.S k := by
    unfold lastL
    rw [show (0 + ((k : Int) * 64).toNat) = 64 * k by omega, show min ((d.S.length : Int).toNat - ((k : Int) * 64).toNat) (((k : Int) * 64 + 64).toNat - ((k : Int) * 64).toNat) = 64 by omega]
  rw [e]
  exact this
end Go.Proofs.Ythakanioekmhbaa
