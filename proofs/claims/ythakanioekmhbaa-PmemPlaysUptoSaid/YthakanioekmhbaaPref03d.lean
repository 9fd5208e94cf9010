import Derived.Test.YthakanioekmhbaaPref03c
namespace Go.Proofs.Ythakanioekmhbaa
open Go Go.Proofs.Ythakanioekmhbaa.V
set_option maxRecDepth 20000
attribute [local irreducible] CallS AOK AOKn ALoop Side Ref.ok
set_option maxHeartbeats 4000000 in
theorem RFlush_ok {σ : AH} {a : RA} {d : Dv} {r : Rv} (h : RefH σ a r) (hr : RD d r) (hd : DvR d) (at' n : Int) (Q : AV → AH → Prop)
    (hQ : ∀ σ' r', RefH σ' a r' → RD (flushD d at' n).2 r' → GrP σ σ' a.has → Q (.int .i64 (flushD d at' n).1) σ') : CallS Try.prog F.joistref03_Device_Flush [.ptr a.i 0 0 0, .int .i64 at', .int .i64 n] σ Q := by
  have hle := hd.ok.le
  have hln := hd.ok.len
  have hrS := hr.S
  refine call_of_body mixed fc_joistref03_Device_Flush_ok (by simp [fc_joistref03_Device_Flush]) ?_
  skip
  all_goals (conv => whnf)
  all_goals (try dsimp only)
  refine Rasks_ok h (by rw [hrS]; omega) at' n _ ?_
  rw [hr.ask]
  by_cases hk : askD d at' n = 0
  · rw [hk]
    obtain ⟨k1, k2, k3, k4, k5⟩ := askD_ok hk
    obtain ⟨b1, b2, b3, b4, b5, b6, b7, _⟩ := hr.begin hk hd.ok.arm.2
    have hd1 := hd.begin at' n
    obtain ⟨s1, s2, s3, s4⟩ := beginD_same d at' n
    repeat' (first
      | ((conv => whnf) <;> (first
      | (with_reducible refine and_same ?_)
      | ((with_reducible apply Br.no) ; (focus omega))
      ))
      )
    all_goals (conv => whnf)
    all_goals (try dsimp only)
    refine Rstep_ok h (by rw [hr.armed]; exact hd.ok.arm) _ fun σ1 h1 hg1 => ?_
    unfold flushD at hQ
    generalize stepR r = q at *
    obtain ⟨e, r1⟩ := q
    generalize beginD d at' n = q at *
    obtain ⟨e', d1⟩ := q
    dsimp only at b1 b2 b3 b4 b5 b6 b7 h1 hQ s1 s2 s3 s4 hd1 ⊢
    cases e with
    | true =>
      rw [b1 rfl] at hQ
      skip
      all_goals (conv => whnf)
      all_goals (try dsimp only)
      exact hQ _ _ h1 b3 hg1
    | false =>
      rw [b2 rfl] at hQ
      rw [if_neg (by simp)] at hQ
      obtain ⟨m, rfl⟩ := Int.eq_ofNat_of_zero_le k4
      have hDl : 64 * r1.D.length = d.L.length := by rw [b6]; exact hr.dl
      have hFl : r1.Fl.length = r1.D.length := by rw [b7, b6]; exact hr.fl
      skip
      all_goals (conv => whnf)
      all_goals (try dsimp only)
      refine loop_at (α := Nat × List Bool × AH) (fun q => [(8, .int .i64 q.1)]) (fun q => q.2.2) (fun q => q.1 ≤ m ∧ RefH q.2.2 a { r1 with Fl := q.2.1 } ∧ GrP σ q.2.2 a.has ∧ q.2.1.length = r1.D.length
          ∧ (∀ k, k < r1.D.length → q.2.1[k]? = if tch at' q.1 k then r1.D[k]? else r1.Fl[k]?)) (fun q => m - q.1) (0, r1.Fl, σ1)
        ⟨Nat.zero_le _, h1, hg1, hFl, fun k _ => by rw [if_neg (fun q => Nat.lt_irrefl _ q.1)]⟩ rfl rfl ?_
      rintro ⟨i, Fl, τ⟩ ⟨hi, hR, hG, z3, z6⟩
      dsimp only at hi hR hG z3 z6 ⊢
      by_cases hlt : i < m
      · obtain ⟨box, lasts, seen, dirty, flush, ne⟩ := id hR
        obtain ⟨⟨n1, n2, n3, n4⟩, ⟨n5, n6, n7⟩, ⟨n8, n9⟩, n10⟩ := ne
        dsimp only at box lasts seen dirty flush
        have e2 := bls_length r1.D
        have e3 := bls_length Fl
        obtain ⟨dv, hdv⟩ : ∃ v, r1.D[((at' + (i : Int)) / 64).toNat]? = some v := ⟨_, List.getElem?_eq_getElem (by omega)⟩
        obtain ⟨fv, hfv⟩ : ∃ v, Fl[((at' + (i : Int)) / 64).toNat]? = some v := ⟨_, List.getElem?_eq_getElem (by omega)⟩
        have hset3 := hR.setFl (Fl.set ((at' + i) / 64).toNat dv) (by simp)
        have eK : 0 + ((at' + (i : Int)) / 64).toNat = ((at' + (i : Int)) / 64).toNat := by omega
        have eF := bls_setL (show ((at' + (i : Int)) / 64).toNat < Fl.length by omega) dv a.spf
        have fin : ∃ a' : Nat × List Bool × AH, [(0, AV.ptr a.i 0 0 0), (0 + 1, AV.int IntKind.i64 at'), (0 + 1 + 1, AV.int IntKind.i64 m), (8, AV.int IntKind.i64 ((i : Int) + 1))] = Fr.upd [(0, AV.ptr a.i 0 0 0), (0 + 1, AV.int IntKind.i64 at'), (0 + 1 + 1, AV.int IntKind.i64 m), (8, AV.int IntKind.i64 0)] [(8, .int .i64 a'.1)] ∧
            τ.set a.jf { sz := 1, els := (bls Fl ++ a.spf).set (0 + ((at' + (i : Int)) / 64).toNat) [.bool dv], gen := a.gf, wr := true, pure := true } = a'.2.2 ∧
            (a'.1 ≤ m ∧ RefH a'.2.2 a { r1 with Fl := a'.2.1 } ∧ GrP σ a'.2.2 a.has ∧ a'.2.1.length = r1.D.length ∧ (∀ k, k < r1.D.length → a'.2.1[k]? = if tch at' a'.1 k then r1.D[k]? else r1.Fl[k]?)) ∧ m - a'.1 < m - i := by
          rw [eK, eF]
          refine ⟨(i + 1, Fl.set ((at' + i) / 64).toNat dv, _), by simp [Fr.upd, Fr.pick], rfl, ⟨by dsimp only; omega, hset3, hG.setT (.inr (.inr (.inr (.inr rfl)))) _, by simp [z3], fun k hk => ?_⟩, by dsimp only; omega⟩
          dsimp only
          rw [List.getElem?_set]
          by_cases q : ((at' + (i : Int)) / 64).toNat = k
          · rw [if_pos q, if_pos (by omega), if_pos ((tch_step k2 i k).2 (.inl q.symm)), ← q, hdv]
          · rw [if_neg q, z6 k hk]
            exact ite_pt ⟨fun w => (tch_step k2 i k).2 (.inr w), fun w => ((tch_step k2 i k).1 w).resolve_left (Ne.symm q)⟩
        clear hset3 eK eF z6
        repeat' (first
          | ((with_reducible refine Side.intro ?_) <;> (first
          | omega
          | exact Nat.le_of_ble_eq_true rfl
          | exact rfl
          ))
          | ((conv => whnf) <;> (first
          | (with_reducible refine and_same ?_)
          | (with_reducible refine and_side ?_ ?_)
          | ((with_reducible apply Br.yes) ; (focus omega))
          | ((with_reducible apply blkAt_step) ; (focus (first
          | ((repeat (first
          | assumption
          )); done)
          )) ; (focus (first | rfl | assumption | omega)) ; (focus (first | rfl | assumption)) ; (try dsimp only))
          | ((with_reducible apply nthR_bls1) ; (focus assumption))
          | (with_reducible refine IaW.of ?_)
          | (with_reducible refine nthR_z ?_)
          | ((with_reducible apply nthR_left) ; (focus (first | omega | (simp only [List.length_append, List.length_cons, List.length_nil, List.length_take, List.length_drop, bs_length]; omega))))
          ))
          )
        all_goals (conv => whnf)
        all_goals (try dsimp only)
        exact fin
      · have ei : i = m := by omega
        subst ei
        repeat' (first
          | ((conv => whnf) <;> (first
          | (with_reducible refine and_same ?_)
          | ((with_reducible apply Br.no) ; (focus omega))
          ))
          )
        all_goals (conv => whnf)
        all_goals (try dsimp only)
        have hRD : RD (d1.setM (flE (ovC at' i) (at' / 64) (d1.es, d1.clock))) { r1 with Fl := Fl } := by
          refine ⟨b3.L, b3.S, b3.armed, b3.down, by dsimp only [Dv.setM]; rw [hDl, s1], by dsimp only; omega, fun k hk => ?_⟩
          dsimp only [Dv.setM] at hk ⊢
          rw [z6 k (by omega)]
          have hg := mget_flE (k : Int) (ovC at' i) (at' / 64) (d1.es, d1.clock)
          obtain ⟨w1, w2⟩ := b3.at' k (by omega)
          rw [w1, w2]
          dsimp only at hg
          by_cases q : tch at' i k
          · rw [if_pos q]
            have q' := (tch_ov k2 _ _).1 q
            cases hm : mget d1.es (k : Int) with
            | none =>
              rw [hm, if_neg (by simp)] at hg
              simp only [flushed, hg]
              constructor <;> first | rfl | trivial
            | some v =>
              rw [hm, if_pos ⟨q', rfl⟩] at hg
              simp only [flushed, hg]
              constructor <;> first | rfl | trivial
          · rw [if_neg q]
            rw [if_neg fun w => q ((tch_ov k2 _ _).2 w.1)] at hg
            simp only [flushed, hg]
            constructor <;> first | rfl | trivial
        exact hQ _ _ hR hRD hG
  · have hb : beginD d at' n = (askD d at' n, d) := by unfold beginD; rw [if_pos hk]
    unfold flushD at hQ
    rw [hb] at hQ
    dsimp only at hQ
    rw [if_pos hk] at hQ
    generalize askD d at' n = k at *
    repeat' (first
      | ((conv => whnf) <;> (first
      | (with_reducible refine and_same ?_)
      | ((with_reducible apply Br.yes) ; (focus omega))
      ))
      )
    all_goals (conv => whnf)
    all_goals (try dsimp only)
    exact hQ _ _ h hr (.refl _ _)
theorem beginD_00 (d : Dv) : beginD d 0 0 = if d.down = true then (5, d) else beginD d 0 0 := by
  by_cases q : d.down = true
  · rw [if_pos q]; unfold beginD askD; rw [if_pos q]; rfl
  · rw [if_neg q]
set_option maxHeartbeats 4000000 in
theorem RFence_ok {σ : AH} {a : RA} {d : Dv} {r : Rv} (h : RefH σ a r) (hr : RD d r) (hd : DvR d) (Q : AV → AH → Prop)
    (hQ : ∀ σ' r', RefH σ' a r' → RD (fenceD d).2 r' → GrP σ σ' a.has → Q (.int .i64 (fenceD d).1) σ') : CallS Try.prog F.joistref03_Device_Fence [.ptr a.i 0 0 0] σ Q := by
  have hle := hd.ok.le
  have hln := hd.ok.len
  have hrS := hr.S
  have hrd := hr.down
  refine call_of_body mixed fc_joistref03_Device_Fence_ok (by simp [fc_joistref03_Device_Fence]) ?_
  obtain ⟨box, lasts, seen, dirty, flush, ne⟩ := id h
  by_cases hdn : d.down = true
  · have hb := beginD_00 d
    rw [if_pos hdn] at hb
    unfold fenceD at hQ
    rw [hb] at hQ
    dsimp only at hQ
    rw [if_pos (by decide)] at hQ
    rw [hrd, hdn] at box
    repeat' (first
      | ((conv => whnf) <;> (first
      | ((with_reducible apply blkAt_step) ; (focus (first
      | ((repeat (first
      | assumption
      )); done)
      )) ; (focus (first | rfl | assumption | omega)) ; (focus (first | rfl | assumption)) ; (try dsimp only))
      ))
      )
    all_goals (conv => whnf)
    all_goals (try dsimp only)
    exact hQ _ _ h hr (.refl _ _)
  · have hk : askD d 0 0 = 0 := by
      unfold askD
      rw [if_neg hdn, if_neg (by omega)]
    rw [Bool.not_eq_true] at hdn
    rw [hrd, hdn] at box
    clear lasts seen dirty flush ne
    obtain ⟨b1, b2, b3, b4, b5, b6, b7, _⟩ := hr.begin hk hd.ok.arm.2
    have hd1 := hd.begin 0 0
    obtain ⟨s1, s2, s3, s4⟩ := beginD_same d 0 0
    repeat' (first
      | ((conv => whnf) <;> (first
      | ((with_reducible apply blkAt_step) ; (focus (first
      | ((repeat (first
      | assumption
      )); done)
      )) ; (focus (first | rfl | assumption | omega)) ; (focus (first | rfl | assumption)) ; (try dsimp only))
      ))
      )
    all_goals (conv => whnf)
    all_goals (try dsimp only)
    refine Rstep_ok h (by rw [hr.armed]; exact hd.ok.arm) _ fun σ1 h1 hg1 => ?_
    unfold fenceD at hQ
    generalize stepR r = q at *
    obtain ⟨e, r1⟩ := q
    generalize beginD d 0 0 = q at *
    obtain ⟨e', d1⟩ := q
    dsimp only at b1 b2 b3 b4 b5 b6 b7 h1 hQ s1 s2 s3 s4 hd1 ⊢
    cases e with
    | true =>
      rw [b1 rfl] at hQ
      skip
      all_goals (conv => whnf)
      all_goals (try dsimp only)
      exact hQ _ _ h1 b3 hg1
    | false =>
      rw [b2 rfl] at hQ
      rw [if_neg (by simp)] at hQ
      have hDl : 64 * r1.D.length = d.L.length := by rw [b6]; exact hr.dl
      have hFl : r1.Fl.length = r1.D.length := by rw [b7, b6]; exact hr.fl
      have hLl : r1.L.length = d.L.length := by rw [b4, hr.L]
      have hSl : r1.S.length = d.L.length := by rw [b5, hrS, hln]
      clear box
      skip
      all_goals (conv => whnf)
      all_goals (try dsimp only)
      refine loop_at (α := Nat × List UInt8 × List Bool × List Bool × AH) (fun q => [(3, .int .i64 q.1)]) (fun q => q.2.2.2.2) (fun q => q.1 ≤ r1.D.length ∧ RefH q.2.2.2.2 a { r1 with L := q.2.1, D := q.2.2.1, Fl := q.2.2.2.1 } ∧ GrP σ q.2.2.2.2 a.has ∧ q.2.1.length = d.L.length ∧ q.2.2.1.length = r1.D.length ∧ q.2.2.2.1.length = r1.D.length
          ∧ (∀ p, q.2.1[p]? = if p / 64 < q.1 ∧ r1.Fl[p / 64]? = some true then r1.S[p]? else r1.L[p]?) ∧ (∀ k, k < r1.D.length → q.2.2.1[k]? = if k < q.1 ∧ r1.Fl[k]? = some true then some false else r1.D[k]?) ∧ (∀ k, k < r1.D.length → q.2.2.2.1[k]? = if k < q.1 then some false else r1.Fl[k]?)) (fun q => r1.D.length - q.1) (0, r1.L, r1.D, r1.Fl, σ1)
        ⟨Nat.zero_le _, h1, hg1, hLl, rfl, hFl, fun p => by rw [if_neg (fun q => Nat.not_lt_zero _ q.1)], fun k _ => by rw [if_neg (fun q => Nat.not_lt_zero _ q.1)], fun k _ => by rw [if_neg (Nat.not_lt_zero _)]⟩ rfl rfl ?_
      rintro ⟨i, L, D, Fl, τ⟩ ⟨hi, hR, hG, z1, z2, z3, z4, z5, z6⟩
      dsimp only at hi hR hG z1 z2 z3 z4 z5 z6 ⊢
      obtain ⟨box, lasts, seen, dirty, flush, ne⟩ := id hR
      obtain ⟨⟨n1, n2, n3, n4⟩, ⟨n5, n6, n7⟩, ⟨n8, n9⟩, n10⟩ := id ne
      dsimp only at box lasts seen dirty flush
      have e2 := bls_length D
      have e3 := bls_length Fl
      by_cases hlt : i < r1.D.length
      · obtain ⟨fv, hfv, hfv'⟩ := getN (show i < Fl.length by omega)
        obtain ⟨dv, hdv, hdv'⟩ := getN (show i < D.length by omega)
        have hF1 : r1.Fl[i]? = some fv := by rw [← hfv', z6 i hlt, if_neg (by omega)]
        cases fv with
        | false =>
          have fin : ∃ a' : Nat × List UInt8 × List Bool × List Bool × AH, [(0, AV.ptr a.i 0 0 0), (3, AV.int IntKind.i64 ((i : Int) + 1))] = Fr.upd [(0, AV.ptr a.i 0 0 0), (3, AV.int IntKind.i64 0)] [(3, .int .i64 a'.1)] ∧ τ = a'.2.2.2.2 ∧
              (a'.1 ≤ r1.D.length ∧ RefH a'.2.2.2.2 a { r1 with L := a'.2.1, D := a'.2.2.1, Fl := a'.2.2.2.1 } ∧ GrP σ a'.2.2.2.2 a.has ∧ a'.2.1.length = d.L.length ∧ a'.2.2.1.length = r1.D.length ∧ a'.2.2.2.1.length = r1.D.length
                ∧ (∀ p, a'.2.1[p]? = if p / 64 < a'.1 ∧ r1.Fl[p / 64]? = some true then r1.S[p]? else r1.L[p]?) ∧ (∀ k, k < r1.D.length → a'.2.2.1[k]? = if k < a'.1 ∧ r1.Fl[k]? = some true then some false else r1.D[k]?) ∧ (∀ k, k < r1.D.length → a'.2.2.2.1[k]? = if k < a'.1 then some false else r1.Fl[k]?)) ∧ r1.D.length - a'.1 < r1.D.length - i := by
            refine ⟨(i + 1, L, D, Fl, τ), by simp [Fr.upd, Fr.pick], rfl, ⟨by dsimp only; omega, hR, hG, z1, z2, z3, fun p => ?_, fun k hk => ?_, fun k hk => ?_⟩, by dsimp only; omega⟩
            · dsimp only
              rw [z4]
              refine ite_pt ⟨fun w => ⟨by omega, w.2⟩, fun w => ⟨?_, w.2⟩⟩
              by_cases q : p / 64 = i
              · rw [q, hF1] at w; cases w.2
              · omega
            · dsimp only
              rw [z5 k hk]
              refine ite_pt ⟨fun w => ⟨by omega, w.2⟩, fun w => ⟨?_, w.2⟩⟩
              by_cases q : k = i
              · rw [q, hF1] at w; cases w.2
              · omega
            · dsimp only
              rw [z6 k hk]
              by_cases q : k = i
              · rw [q, if_neg (by omega), if_pos (by omega)]; exact hF1
              · exact ite_pt ⟨fun w => by omega, fun w => by omega⟩
          clear z4 z5 z6
          repeat' (first
            | ((with_reducible refine Side.intro ?_) <;> (first
            | omega
            ))
            | ((conv => whnf) <;> (first
            | (with_reducible refine and_same ?_)
            | (with_reducible refine and_side ?_ ?_)
            | ((with_reducible apply Br.yes) ; (focus omega))
            | ((with_reducible apply blkAt_step) ; (focus (first
            | ((repeat (first
            | assumption
            )); done)
            )) ; (focus (first | rfl | assumption | omega)) ; (focus (first | rfl | assumption)) ; (try dsimp only))
            | ((with_reducible apply nthR_bls1) ; (focus assumption))
            | (with_reducible refine IaW.of ?_)
            | (with_reducible refine nthR_z ?_)
            | ((with_reducible apply nthR_left) ; (focus (first | omega | (simp only [List.length_append, List.length_cons, List.length_nil, List.length_take, List.length_drop, bs_length]; omega))))
            | (with_reducible refine lenR_rsl ?_)
            ))
            )
          all_goals (conv => whnf)
          all_goals (try dsimp only)
          exact fin
        | true =>
          repeat' (first
            | ((with_reducible refine Side.intro ?_) <;> (first
            | omega
            ))
            | ((conv => whnf) <;> (first
            | (with_reducible refine and_same ?_)
            | (with_reducible refine and_side ?_ ?_)
            | ((with_reducible apply Br.yes) ; (focus omega))
            | ((with_reducible apply blkAt_step) ; (focus (first
            | ((repeat (first
            | assumption
            )); done)
            )) ; (focus (first | rfl | assumption | omega)) ; (focus (first | rfl | assumption)) ; (try dsimp only))
            | ((with_reducible apply nthR_bls1) ; (focus assumption))
            | (with_reducible refine IaW.of ?_)
            | (with_reducible refine nthR_z ?_)
            | ((with_reducible apply nthR_left) ; (focus (first | omega | (simp only [List.length_append, List.length_cons, List.length_nil, List.length_take, List.length_drop, bs_length]; omega))))
            | (with_reducible refine lenR_rsl ?_)
            ))
            )
          all_goals (conv => whnf)
          all_goals (try dsimp only)
          refine lasting_ok hR (by dsimp only; omega) (by dsimp only; omega) i (by dsimp only; omega) _ fun τ1 hR1 hG1 => ?_
          dsimp only at hR1
          obtain ⟨box, lasts, seen, dirty, flush, ne⟩ := id hR1
          dsimp only at box lasts seen dirty flush
          have hs1 := hR1.setDi (D.set i false) (by simp)
          have hs2 := hs1.setFl (Fl.set i false) (by simp)
          have eD := bls_setL (show i < D.length by omega) false a.spd
          have eF := bls_setL (show i < Fl.length by omega) false a.spf
          have fin : ∃ a' : Nat × List UInt8 × List Bool × List Bool × AH, [(0, AV.ptr a.i 0 0 0), (3, AV.int IntKind.i64 ((i : Int) + 1))] = Fr.upd [(0, AV.ptr a.i 0 0 0), (3, AV.int IntKind.i64 0)] [(3, .int .i64 a'.1)] ∧
              (τ1.set a.jd { sz := 1, els := (bls D ++ a.spd).set (0 + (i : Int).toNat) [.bool false], gen := a.gd, wr := true, pure := true }).set a.jf { sz := 1, els := (bls Fl ++ a.spf).set (0 + (i : Int).toNat) [.bool false], gen := a.gf, wr := true, pure := true } = a'.2.2.2.2 ∧
              (a'.1 ≤ r1.D.length ∧ RefH a'.2.2.2.2 a { r1 with L := a'.2.1, D := a'.2.2.1, Fl := a'.2.2.2.1 } ∧ GrP σ a'.2.2.2.2 a.has ∧ a'.2.1.length = d.L.length ∧ a'.2.2.1.length = r1.D.length ∧ a'.2.2.2.1.length = r1.D.length
                ∧ (∀ p, a'.2.1[p]? = if p / 64 < a'.1 ∧ r1.Fl[p / 64]? = some true then r1.S[p]? else r1.L[p]?) ∧ (∀ k, k < r1.D.length → a'.2.2.1[k]? = if k < a'.1 ∧ r1.Fl[k]? = some true then some false else r1.D[k]?) ∧ (∀ k, k < r1.D.length → a'.2.2.2.1[k]? = if k < a'.1 then some false else r1.Fl[k]?)) ∧ r1.D.length - a'.1 < r1.D.length - i := by
            rw [show 0 + (i : Int).toNat = i by omega, eD, eF]
            refine ⟨(i + 1, lastL L r1.S i, D.set i false, Fl.set i false, _), by simp [Fr.upd, Fr.pick], rfl, ⟨by dsimp only; omega, hs2, ((hG.trans hG1).setT (.inr (.inr (.inr (.inl rfl)))) _).setT (.inr (.inr (.inr (.inr rfl)))) _, by dsimp only; rw [lastL_length (by omega) (by omega)]; exact z1, by simp [z2], by simp [z3], fun p => ?_, fun k hk => ?_, fun k hk => ?_⟩, by dsimp only; omega⟩
            · dsimp only
              rw [last_at (by omega) (by omega), z4]
              by_cases q : p / 64 = i
              · rw [if_pos q, if_pos ⟨by omega, by rw [q]; exact hF1⟩]
              · rw [if_neg q]
                exact ite_pt ⟨fun w => ⟨by omega, w.2⟩, fun w => ⟨by omega, w.2⟩⟩
            · dsimp only
              rw [List.getElem?_set]
              by_cases q : i = k
              · rw [if_pos q, if_pos (by omega), if_pos ⟨by omega, by rw [← q]; exact hF1⟩]
              · rw [if_neg q, z5 k hk]
                exact ite_pt ⟨fun w => ⟨by omega, w.2⟩, fun w => ⟨by omega, w.2⟩⟩
            · dsimp only
              rw [List.getElem?_set]
              by_cases q : i = k
              · rw [if_pos q, if_pos (by omega), if_pos (by omega)]
              · rw [if_neg q, z6 k hk]
                exact ite_pt ⟨fun w => by omega, fun w => by omega⟩
          clear hs1 hs2 eD eF z4 z5 z6
          repeat' (first
            | ((with_reducible refine Side.intro ?_) <;> (first
            | omega
            | exact Nat.le_of_ble_eq_true rfl
            | exact rfl
            ))
            | ((conv => whnf) <;> (first
            | (with_reducible refine and_same ?_)
            | (with_reducible refine and_side ?_ ?_)
            | ((with_reducible apply Br.yes) ; (focus omega))
            | ((with_reducible apply blkAt_step) ; (focus (first
            | ((repeat (first
            | assumption
            | (apply get_set_ne; (focus (first | omega | (simp only [newB_length, List.length_set, List.length_append, List.length_singleton, List.length_nil]; omega))))
            )); done)
            )) ; (focus (first | rfl | assumption | omega)) ; (focus (first | rfl | assumption)) ; (try dsimp only))
            | ((with_reducible apply nthR_bls1) ; (focus assumption))
            | (with_reducible refine IaW.of ?_)
            | (with_reducible refine nthR_z ?_)
            | ((with_reducible apply nthR_left) ; (focus (first | omega | (simp only [List.length_append, List.length_cons, List.length_nil, List.length_take, List.length_drop, bs_length]; omega))))
            ))
            )
          all_goals (conv => whnf)
          all_goals (try dsimp only)
          exact fin
      · have ei : i = r1.D.length := by omega
        subst ei
        repeat' (first
          | ((conv => whnf) <;> (first
          | (with_reducible refine and_same ?_)
          | ((with_reducible apply Br.no) ; (focus omega))
          | ((with_reducible apply blkAt_step) ; (focus (first
          | ((repeat (first
          | assumption
          )); done)
          )) ; (focus (first | rfl | assumption | omega)) ; (focus (first | rfl | assumption)) ; (try dsimp only))
          | (with_reducible refine lenR_rsl ?_)
          ))
          )
        all_goals (conv => whnf)
        all_goals (try dsimp only)
        obtain ⟨f1, f2, f3⟩ := fence_all hd1.ok
        have hRD : RD ((srt (d1.es.map ME.key)).foldl fenceS d1) { r1 with L := L, D := D, Fl := Fl } := by
          refine ⟨?_, ?_, by rw [f3.armed]; exact b3.armed, by rw [f3.down]; exact b3.down, by dsimp only; rw [f3.L, s1, z2]; exact hDl, by dsimp only; omega, fun k hk => ?_⟩
          · refine List.ext_getElem? fun p => ?_
            dsimp only
            rw [z4, f2, b3.S, b3.L]
            by_cases q : p / 64 < r1.D.length
            · refine ite_pt ⟨fun w => ?_, fun w => ⟨q, ?_⟩⟩
              · rw [(b3.at' _ q).2] at w
                exact Option.some.inj w.2
              · rw [(b3.at' _ q).2, w]
            · have hS1 : d1.S.length = d.L.length := by rw [s2, hln]
              have hL1 : d1.L.length = d.L.length := by rw [s1]
              rw [List.getElem?_eq_none (l := d1.S) (by omega), List.getElem?_eq_none (l := d1.L) (by omega), ite_self, ite_self]
          · dsimp only; rw [f3.S]; exact b3.S
          · dsimp only at hk ⊢
            have hk' : k < r1.D.length := by omega
            obtain ⟨w1, w2⟩ := b3.at' k hk'
            have hg := f1 (k : Int)
            rw [z5 k hk', z6 k hk', if_pos hk', w2, w1]
            cases hf : flushed d1.es (k : Int) with
            | true =>
              rw [hf, if_pos rfl] at hg
              rw [if_pos ⟨hk', rfl⟩]
              simp only [flushed, hg]
              constructor <;> first | rfl | trivial
            | false =>
              rw [hf, if_neg (by simp)] at hg
              rw [if_neg (by simp), flushed_of hg, hf, hg]
              exact ⟨rfl, rfl⟩
        exact hQ _ _ hR hRD hG
end Go.Proofs.Ythakanioekmhbaa
