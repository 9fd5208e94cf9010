import Derived.Test.YthakanioekmhbaaPref03b
namespace Go.Proofs.Ythakanioekmhbaa
open Go Go.Proofs.Ythakanioekmhbaa.V
set_option maxRecDepth 20000
attribute [local irreducible] CallS AOK AOKn ALoop Side Ref.ok
/-- A step behind what was asked. -/
theorem RD.begin {d : Dv} {r : Rv} (h : RD d r) {at' n : Int} (hk : askD d at' n = 0) (ha : 0 ≤ d.armed) : ((stepR r).1 = true → (beginD d at' n).1 = 5) ∧ ((stepR r).1 = false → (beginD d at' n).1 = 0) ∧ RD (beginD d at' n).2 (stepR r).2 ∧ (stepR r).2.L = r.L ∧ (stepR r).2.S = r.S ∧ (stepR r).2.D = r.D ∧ (stepR r).2.Fl = r.Fl ∧ (stepR r).2.armed ≤ r.armed := by
  obtain ⟨h1, h2, h3, h4, h5, h6, h7⟩ := h
  have hdn := (askD_ok hk).1
  unfold stepR beginD
  rw [if_neg (show ¬ (askD d at' n ≠ 0) from fun q => q hk), h3]
  by_cases q : d.armed = 0
  · rw [if_pos q, if_neg (by omega)]
    exact ⟨nofun, fun _ => rfl, ⟨h1, h2, h3, h4, h5, h6, h7⟩, rfl, rfl, rfl, rfl, Int.le_of_eq h3⟩
  · rw [if_neg q]
    have q0 : 0 < d.armed := by omega
    by_cases q2 : d.armed - 1 = 0
    · rw [if_pos q2, if_pos q0, if_pos q2]
      exact ⟨fun _ => rfl, nofun, ⟨h1, h2, rfl, rfl, h5, h6, h7⟩, rfl, rfl, rfl, rfl, by dsimp only; omega⟩
    · rw [if_neg q2, if_pos q0, if_neg q2]
      exact ⟨nofun, fun _ => rfl, ⟨h1, h2, rfl, hdn.symm, h5, h6, h7⟩, rfl, rfl, rfl, rfl, by dsimp only; omega⟩
theorem RLoad_ok {σ : AH} {a : RA} {d : Rv} (h : RefH σ a d) (hl : d.S.length ≤ 1048576) (at' n : Int) (Q : AV → AH → Prop)
    (hy : askR d at' n = 0 → ∀ y σ', Gr σ σ' none → Own σ' 1 y (bs ((d.S.drop at'.toNat).take n.toNat)) → New σ y → Q (.tup [y, .int .i64 0]) σ')
    (hn : askR d at' n ≠ 0 → Q (.tup [.nils, .int .i64 (askR d at' n)]) σ) : CallS Try.prog F.joistref03_Device_Load [.ptr a.i 0 0 0, .int .i64 at', .int .i64 n] σ Q := by
  have h0 := h
  obtain ⟨box, lasts, seen, dirty, flush, ne⟩ := h0
  have hbl := bs_length d.S
  refine call_of_body mixed fc_joistref03_Device_Load_ok (by simp [fc_joistref03_Device_Load]) ?_
  skip
  all_goals (conv => whnf)
  all_goals (try dsimp only)
  refine Rasks_ok h hl at' n _ ?_
  by_cases h1 : askR d at' n = 0
  · have hy := hy h1
    have hr : 0 ≤ at' ∧ at' ≤ d.S.length ∧ 0 ≤ n ∧ n ≤ d.S.length - at' := by
      unfold askR at h1
      split at h1
      · cases h1
      · split at h1
        · cases h1
        · omega
    rw [h1]
    have li := (List.getElem?_eq_some_iff.1 seen).1
    repeat' (first
      | ((with_reducible refine Side.intro ?_) <;> (first
      | omega
      | (simp only [bs_length, List.length_append, List.length_cons, List.length_nil, List.length_take, List.length_drop, List.length_set, List.length_replicate]; omega)
      ))
      | ((conv => whnf) <;> (first
      | (with_reducible refine and_same ?_)
      | (with_reducible refine and_side ?_ ?_)
      | ((with_reducible apply Br.yes) ; (focus omega))
      | ((with_reducible apply Br.no) ; (focus omega))
      | ((with_reducible apply blkAt_step) ; (focus (first
      | ((repeat (first
      | assumption
      | apply get_old
      )); done)
      )) ; (focus (first | rfl | assumption | omega)) ; (focus (first | rfl | assumption)) ; (try dsimp only))
      | ((with_reducible apply appendR_lit) ; (focus (first
      | ((repeat (first
      | exact get_new
      )); done)
      )) ; (focus (first | rfl | assumption)) ; (focus (first | rfl | assumption)) ; (focus rfl) ; (focus rfl) ; (focus rfl) ; (focus (first | exact Nat.zero_le _ | omega | (simp; done) | (simp; omega))) ; (try dsimp only))
      | (with_reducible refine SliceW.of ?_)
      | (with_reducible refine AppC.frz ?_)
      | (with_reducible refine rowsR_rsl ?_)
      ))
      )
    all_goals (conv => whnf)
    all_goals (try dsimp only)
    have e1 : (at' + n).toNat - at'.toNat = n.toNat := by omega
    have e : List.take ((at' + n).toNat - at'.toNat) (List.drop (0 + at'.toNat) (bs d.S ++ a.sps)) = bs ((d.S.drop at'.toNat).take n.toNat) := by
      rw [e1, Nat.zero_add, List.drop_append_of_le_length (by rw [hbl]; omega), List.take_append_of_le_length (by rw [List.length_drop, hbl]; omega), bs_drop, bs_take]
    rw [e]
    refine hy _ _ (Gr.setNew (Gr.newN (Gr.refl _ _) _ _ _) (Nat.le_refl _) _) (Own.mk' (sp := []) (get_set get_new) (by simp) (by simp)) (fun id e => by cases e; exact Nat.le_refl _)
  · have hn := hn h1
    generalize askR d at' n = k at *
    repeat' (first
      | ((conv => whnf) <;> (first
      | (with_reducible refine and_same ?_)
      | ((with_reducible apply Br.yes) ; (focus omega))
      ))
      )
    all_goals (conv => whnf)
    all_goals (try dsimp only)
    exact hn
def tch (at' : Int) (i : Nat) (k : Nat) : Prop := 0 < i ∧ at' / 64 ≤ k ∧ (k : Int) ≤ (at' + i - 1) / 64
instance (at' : Int) (i k : Nat) : Decidable (tch at' i k) := by unfold tch; infer_instance
theorem tch_step {at' : Int} (h0 : 0 ≤ at') (i k : Nat) : tch at' (i + 1) k ↔ k = ((at' + i) / 64).toNat ∨ tch at' i k := by
  unfold tch
  omega
theorem tch_ov {at' : Int} (h1 : 0 ≤ at') (n : Nat) (k : Nat) : tch at' n k ↔ (at' / 64 ≤ (k : Int) ∧ (k : Int) < at' / 64 + ovC at' n) := by
  rw [ov_mem h1 (by omega)]
  unfold tch
  omega
theorem ite_pt {α : Type} {P P' : Prop} [Decidable P] [Decidable P'] {a b : α} (h : P ↔ P') : (if P then a else b) = if P' then a else b := by
  by_cases q : P
  · rw [if_pos q, if_pos (h.1 q)]
  · rw [if_neg q, if_neg fun r => q (h.2 r)]
set_option maxHeartbeats 4000000 in
theorem RStore_ok {σ : AH} {a : RA} {d : Dv} {r : Rv} (h : RefH σ a r) (hr : RD d r) (hd : DvR d) (at' : Int) {x : AV} {b : List UInt8} (hx : BytR σ x b) (hbx : ∀ id, a.has id → x.bid ≠ some id) (hbl : b.length ≤ 1048576) (Q : AV → AH → Prop)
    (hQ : ∀ σ' r', RefH σ' a r' → RD (storeD d at' b).2 r' → GrP σ σ' a.has → Q (.int .i64 (storeD d at' b).1) σ') : CallS Try.prog F.joistref03_Device_Store [.ptr a.i 0 0 0, .int .i64 at', x] σ Q := by
  have hle := hd.ok.le
  have hln := hd.ok.len
  have hb0 := bs_length b
  have hrS := hr.S
  refine call_of_body mixed fc_joistref03_Device_Store_ok (by simp [fc_joistref03_Device_Store]) ?_
  repeat' (first
    | ((conv => whnf) <;> (first
    | ((with_reducible apply BytR.lenW) ; (focus assumption))
    ))
    )
  all_goals (conv => whnf)
  all_goals (try dsimp only)
  refine Rasks_ok h (by rw [hrS]; omega) at' b.length _ ?_
  rw [hr.ask]
  by_cases hk : askD d at' b.length = 0
  · rw [hk]
    obtain ⟨k1, k2, k3, k4, k5⟩ := askD_ok hk
    obtain ⟨b1, b2, b3, b4, b5, b6, b7, _⟩ := hr.begin hk hd.ok.arm.2
    have hd1 := hd.begin at' b.length
    obtain ⟨s1, s2, s3, s4⟩ := beginD_same d at' b.length
    repeat' (first
      | ((conv => whnf) <;> (first
      | (with_reducible refine and_same ?_)
      | ((with_reducible apply Br.no) ; (focus omega))
      ))
      )
    all_goals (conv => whnf)
    all_goals (try dsimp only)
    refine Rstep_ok h (by rw [hr.armed]; exact hd.ok.arm) _ fun σ1 h1 hg1 => ?_
    unfold storeD at hQ
    generalize stepR r = q at *
    obtain ⟨e, r1⟩ := q
    generalize beginD d at' b.length = q at *
    obtain ⟨e', d1⟩ := q
    dsimp only at b1 b2 b3 b4 b5 b6 b7 h1 hQ s1 s2 s3 s4 hd1 ⊢
    cases e with
    | true =>
      rw [b1 rfl] at hQ
      skip
      all_goals (conv => whnf)
      all_goals (try dsimp only)
      exact hQ _ _ h1 b3 hg1
    | false =>
      rw [b2 rfl] at hQ
      rw [if_neg (by simp)] at hQ
      have hx1 := hx.keepP hg1 hbx
      have hDl : 64 * r1.D.length = d.L.length := by rw [b6]; exact hr.dl
      have hFl : r1.Fl.length = r1.D.length := by rw [b7, b6]; exact hr.fl
      have hSl : r1.S.length = d.L.length := by rw [b5, hrS, hln]
      skip
      all_goals (conv => whnf)
      all_goals (try dsimp only)
      refine loop_at (α := Nat × List UInt8 × List Bool × List Bool × AH) (fun q => [(8, .int .i64 q.1)]) (fun q => q.2.2.2.2) (fun q => q.1 ≤ b.length ∧ RefH q.2.2.2.2 a { r1 with S := q.2.1, D := q.2.2.1, Fl := q.2.2.2.1 } ∧ GrP σ q.2.2.2.2 a.has ∧ BytR q.2.2.2.2 x b ∧ q.2.1.length = d.L.length ∧ q.2.2.1.length = r1.D.length ∧ q.2.2.2.1.length = r1.D.length
          ∧ (∀ p, q.2.1[p]? = if at'.toNat ≤ p ∧ p < at'.toNat + q.1 then b[p - at'.toNat]? else r1.S[p]?) ∧ (∀ k, k < r1.D.length → q.2.2.1[k]? = if tch at' q.1 k then some true else r1.D[k]?) ∧ (∀ k, k < r1.D.length → q.2.2.2.1[k]? = if tch at' q.1 k then some false else r1.Fl[k]?)) (fun q => b.length - q.1) (0, r1.S, r1.D, r1.Fl, σ1)
        ⟨Nat.zero_le _, h1, hg1, hx1, hSl, rfl, hFl, fun p => by rw [if_neg (by omega)], fun k _ => by rw [if_neg (fun q => Nat.lt_irrefl _ q.1)], fun k _ => by rw [if_neg (fun q => Nat.lt_irrefl _ q.1)]⟩ rfl rfl ?_
      rintro ⟨i, S, D, Fl, τ⟩ ⟨hi, hR, hG, hX, z1, z2, z3, z4, z5, z6⟩
      dsimp only at hi hR hG hX z1 z2 z3 z4 z5 z6 ⊢
      by_cases hlt : i < b.length
      · obtain ⟨c, hc, hc'⟩ := getN hlt
        have hX0 : BytR τ x b := hX
        obtain ⟨box, lasts, seen, dirty, flush, ne⟩ := id hR
        obtain ⟨⟨n1, n2, n3, n4⟩, ⟨n5, n6, n7⟩, ⟨n8, n9⟩, n10⟩ := ne
        dsimp only at box lasts seen dirty flush
        have e1 := bs_length S
        have e2 := bls_length D
        have e3 := bls_length Fl
        have hset := hR.setS (S.set (at'.toNat + i) c) (by simp)
        have hset2 := hset.setDi (D.set ((at' + i) / 64).toNat true) (by simp)
        have hset3 := hset2.setFl (Fl.set ((at' + i) / 64).toNat false) (by simp)
        have eI : 0 + (at' + (i : Int)).toNat = at'.toNat + i := by omega
        have eK : 0 + ((at' + (i : Int)) / 64).toNat = ((at' + (i : Int)) / 64).toNat := by omega
        have eS := bs_setL (show at'.toNat + i < S.length by omega) c a.sps
        have eD := bls_setL (show ((at' + (i : Int)) / 64).toNat < D.length by omega) true a.spd
        have eF := bls_setL (show ((at' + (i : Int)) / 64).toNat < Fl.length by omega) false a.spf
        have fin : ∃ a' : Nat × List UInt8 × List Bool × List Bool × AH, [(0, AV.ptr a.i 0 0 0), (0 + 1, AV.int IntKind.i64 at'), (0 + 1 + 1, x), (8, AV.int IntKind.i64 ((i : Int) + 1))] = Fr.upd [(0, AV.ptr a.i 0 0 0), (0 + 1, AV.int IntKind.i64 at'), (0 + 1 + 1, x), (8, AV.int IntKind.i64 0)] [(8, .int .i64 a'.1)] ∧
            ((τ.set a.is { sz := 1, els := (bs S ++ a.sps).set (0 + (at' + (i : Int)).toNat) [.int .u8 c.toNat], gen := a.gs, wr := true, pure := true }).set a.jd { sz := 1, els := (bls D ++ a.spd).set (0 + ((at' + (i : Int)) / 64).toNat) [.bool true], gen := a.gd, wr := true, pure := true }).set a.jf { sz := 1, els := (bls Fl ++ a.spf).set (0 + ((at' + (i : Int)) / 64).toNat) [.bool false], gen := a.gf, wr := true, pure := true } = a'.2.2.2.2 ∧
            (a'.1 ≤ b.length ∧ RefH a'.2.2.2.2 a { r1 with S := a'.2.1, D := a'.2.2.1, Fl := a'.2.2.2.1 } ∧ GrP σ a'.2.2.2.2 a.has ∧ BytR a'.2.2.2.2 x b ∧ a'.2.1.length = d.L.length ∧ a'.2.2.1.length = r1.D.length ∧ a'.2.2.2.1.length = r1.D.length
              ∧ (∀ p, a'.2.1[p]? = if at'.toNat ≤ p ∧ p < at'.toNat + a'.1 then b[p - at'.toNat]? else r1.S[p]?) ∧ (∀ k, k < r1.D.length → a'.2.2.1[k]? = if tch at' a'.1 k then some true else r1.D[k]?) ∧ (∀ k, k < r1.D.length → a'.2.2.2.1[k]? = if tch at' a'.1 k then some false else r1.Fl[k]?)) ∧ b.length - a'.1 < b.length - i := by
          rw [eI, eK, eS, eD, eF]
          have hGG := (((GrP.refl τ a.has).setT (.inr (.inr (.inl rfl))) { sz := 1, els := bs (S.set (at'.toNat + i) c) ++ a.sps, gen := a.gs, wr := true, pure := true }).setT (.inr (.inr (.inr (.inl rfl)))) { sz := 1, els := bls (D.set ((at' + (i : Int)) / 64).toNat true) ++ a.spd, gen := a.gd, wr := true, pure := true }).setT (.inr (.inr (.inr (.inr rfl)))) { sz := 1, els := bls (Fl.set ((at' + (i : Int)) / 64).toNat false) ++ a.spf, gen := a.gf, wr := true, pure := true }
          refine ⟨(i + 1, S.set (at'.toNat + i) c, D.set ((at' + i) / 64).toNat true, Fl.set ((at' + i) / 64).toNat false, _), by simp [Fr.upd, Fr.pick], rfl, ⟨by dsimp only; omega, hset3, hG.trans hGG, hX0.keepP hGG hbx, by simp [z1], by simp [z2], by simp [z3], fun p => ?_, fun k hk => ?_, fun k hk => ?_⟩, by dsimp only; omega⟩
          · dsimp only
            rw [List.getElem?_set]
            by_cases q : at'.toNat + i = p
            · subst q
              rw [if_pos rfl, if_pos (by omega), if_pos (by omega), show at'.toNat + i - at'.toNat = i by omega]
              exact hc'.symm
            · rw [if_neg q, z4]
              by_cases q2 : at'.toNat ≤ p ∧ p < at'.toNat + i
              · rw [if_pos q2, if_pos (by omega)]
              · rw [if_neg q2, if_neg (by omega)]
          · dsimp only
            rw [List.getElem?_set]
            by_cases q : ((at' + (i : Int)) / 64).toNat = k
            · rw [if_pos q, if_pos (by omega), if_pos ((tch_step k2 i k).2 (.inl q.symm))]
            · rw [if_neg q, z5 k hk]
              exact ite_pt ⟨fun w => (tch_step k2 i k).2 (.inr w), fun w => ((tch_step k2 i k).1 w).resolve_left (Ne.symm q)⟩
          · dsimp only
            rw [List.getElem?_set]
            by_cases q : ((at' + (i : Int)) / 64).toNat = k
            · rw [if_pos q, if_pos (by omega), if_pos ((tch_step k2 i k).2 (.inl q.symm))]
            · rw [if_neg q, z6 k hk]
              exact ite_pt ⟨fun w => (tch_step k2 i k).2 (.inr w), fun w => ((tch_step k2 i k).1 w).resolve_left (Ne.symm q)⟩
        obtain ⟨dv, hdv⟩ : ∃ v, D[((at' + (i : Int)) / 64).toNat]? = some v := ⟨_, List.getElem?_eq_getElem (by omega)⟩
        obtain ⟨fv, hfv⟩ : ∃ v, Fl[((at' + (i : Int)) / 64).toNat]? = some v := ⟨_, List.getElem?_eq_getElem (by omega)⟩
        clear hset hset2 hset3 eI eK eS eD eF z4 z5 z6
        rcases id hX with ⟨fr, rfl⟩ | hXo
        · repeat' (first
            | ((with_reducible refine Side.intro ?_) <;> (first
            | omega
            | exact Nat.le_of_ble_eq_true rfl
            | exact rfl
            ))
            | ((conv => whnf) <;> (first
            | (with_reducible refine and_same ?_)
            | (with_reducible refine and_side ?_ ?_)
            | ((with_reducible apply Br.yes) ; (focus omega))
            | ((with_reducible apply blkAt_step) ; (focus (first
            | ((repeat (first
            | assumption
            | (apply get_set_ne; (focus (first | omega | (simp only [newB_length, List.length_set, List.length_append, List.length_singleton, List.length_nil]; omega))))
            )); done)
            )) ; (focus (first | rfl | assumption | omega)) ; (focus (first | rfl | assumption)) ; (try dsimp only))
            | ((with_reducible apply BytR.lenW) ; (focus assumption))
            | ((with_reducible apply nthR_bls1) ; (focus assumption))
            | ((with_reducible apply nthR_bs1) ; (focus assumption))
            | (with_reducible refine ia_sl ?_ ?_)
            | (with_reducible refine IaW.of ?_)
            | (with_reducible refine nthR_z ?_)
            | ((with_reducible apply nthR_left) ; (focus (first | omega | (simp only [List.length_append, List.length_cons, List.length_nil, List.length_take, List.length_drop, bs_length]; omega))))
            | ((with_reducible apply nthR_bs) ; (focus (first | omega | (simp only [List.length_append, List.length_cons, List.length_nil, List.length_take, List.length_drop, bs_length]; omega))))
            | (with_reducible intro _)
            ))
            )
          all_goals (conv => whnf)
          all_goals (try dsimp only)
          exact fin
        · repeat' (first
            | ((with_reducible refine Side.intro ?_) <;> (first
            | omega
            | exact Nat.le_of_ble_eq_true rfl
            | exact rfl
            ))
            | ((conv => whnf) <;> (first
            | (with_reducible refine and_same ?_)
            | (with_reducible refine and_side ?_ ?_)
            | ((with_reducible apply Br.yes) ; (focus omega))
            | ((with_reducible apply blkAt_step) ; (focus (first
            | ((repeat (first
            | assumption
            | (apply get_set_ne; (focus (first | omega | (simp only [newB_length, List.length_set, List.length_append, List.length_singleton, List.length_nil]; omega))))
            )); done)
            )) ; (focus (first | rfl | assumption | omega)) ; (focus (first | rfl | assumption)) ; (try dsimp only))
            | ((with_reducible apply BytR.lenW) ; (focus assumption))
            | ((with_reducible apply nthR_bls1) ; (focus assumption))
            | ((with_reducible apply nthR_bs1) ; (focus assumption))
            | ((with_reducible apply ia_own) ; (focus assumption))
            | (with_reducible refine IaW.of ?_)
            | (with_reducible refine nthR_z ?_)
            | ((with_reducible apply nthR_left) ; (focus (first | omega | (simp only [List.length_append, List.length_cons, List.length_nil, List.length_take, List.length_drop, bs_length]; omega))))
            | ((with_reducible apply nthR_bs) ; (focus (first | omega | (simp only [List.length_append, List.length_cons, List.length_nil, List.length_take, List.length_drop, bs_length]; omega))))
            | (with_reducible intro _)
            ))
            )
          all_goals (conv => whnf)
          all_goals (try dsimp only)
          exact fin
      · have ei : i = b.length := by omega
        subst ei
        repeat' (first
          | ((conv => whnf) <;> (first
          | (with_reducible refine and_same ?_)
          | ((with_reducible apply Br.no) ; (focus omega))
          | ((with_reducible apply BytR.lenW) ; (focus assumption))
          ))
          )
        all_goals (conv => whnf)
        all_goals (try dsimp only)
        have eS : S = storeL d1.S at'.toNat b := by
          refine List.ext_getElem? fun p => ?_
          rw [z4, store_at (by rw [s2]; omega), b5, hrS, s2]
        have hRD : RD (({ d1 with S := storeL d1.S at'.toNat b } : Dv).setM (stE (ovC at' b.length) (at' / 64) (d1.es, d1.clock))) { r1 with S := S, D := D, Fl := Fl } := by
          refine ⟨b3.L, eS, b3.armed, b3.down, by dsimp only [Dv.setM]; rw [z2, hDl, s1], by dsimp only; omega, fun k hk => ?_⟩
          dsimp only [Dv.setM] at hk ⊢
          rw [z5 k (by omega), z6 k (by omega)]
          have hg := mget_stE (k : Int) (ovC at' b.length) (at' / 64) (d1.es, d1.clock)
          obtain ⟨w1, w2⟩ := b3.at' k (by omega)
          by_cases q : tch at' b.length k
          · rw [if_pos q, if_pos q]
            rw [if_pos ((tch_ov k2 _ _).1 q)] at hg
            simp only [flushed, hg]
            constructor <;> first | rfl | trivial
          · rw [if_neg q, if_neg q]
            rw [if_neg fun w => q ((tch_ov k2 _ _).2 w)] at hg
            rw [w1, w2]
            simp only [flushed, hg]
            constructor <;> first | rfl | trivial
        exact hQ _ _ hR hRD hG
  · have hb : beginD d at' b.length = (askD d at' b.length, d) := by unfold beginD; rw [if_pos hk]
    unfold storeD at hQ
    rw [hb] at hQ
    dsimp only at hQ
    rw [if_pos hk] at hQ
    generalize askD d at' b.length = k at *
    repeat' (first
      | ((conv => whnf) <;> (first
      | (with_reducible refine and_same ?_)
      | ((with_reducible apply Br.yes) ; (focus omega))
      ))
      )
    all_goals (conv => whnf)
    all_goals (try dsimp only)
    exact hQ _ _ h hr (.refl _ _)
end Go.Proofs.Ythakanioekmhbaa
