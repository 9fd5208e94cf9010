import Derived.Test.YthakanioekmhbaaPlaws03b
namespace Go.Proofs.Ythakanioekmhbaa
open Go Go.Proofs.Ythakanioekmhbaa.V
set_option maxRecDepth 20000
attribute [local irreducible] CallS AOK AOKn ALoop Side Ref.ok
theorem do_len {d : Dv} (h : DvR d) (c : ActV) : (doD d c).L.length = d.L.length := by
  unfold doD
  repeat' split
  · rw [store_len]
  · rw [flush_len]
  · exact fence_len h
  · rfl
  · exact crash_len h _
  · rfl
theorem DvOk.fewL {d : Dv} (h : DvOk d) : (srt (d.es.map ME.key)).length ≤ d.S.length / 64 := by
  have h1 := incr_len (a := 0) (b := ((d.S.length / 64 : Nat) : Int)) (srt_lt h.map.keys) (fun x hx => by
    have := h.keysIn hx
    have := h.len
    omega) (by omega)
  omega
theorem crash_true {d : Dv} (h : DvR d) {n : Nat} (hn : n = d.S.length / 64) : (crashD (List.replicate n true) d).L = d.S := by
  obtain ⟨h1, h2⟩ := crash_all h.ok (List.replicate n true)
  show (crashL (List.replicate n true) d).L = d.S
  apply List.ext_getElem?
  intro p
  by_cases hk : keptL d (List.replicate n true) ((p / 64 : Nat) : Int)
  · exact (h2 p).1 hk
  · rw [(h2 p).2 hk]
    apply h.cl
    rw [mget_none]
    intro hm
    obtain ⟨i, hi⟩ := List.getElem?_of_mem ((srt_perm _).mem_iff.2 hm)
    have hil := (List.getElem?_eq_some_iff.1 hi).1
    have := h.ok.fewL
    refine hk ⟨i, hi, ?_⟩
    rw [List.getElem?_replicate, if_pos (by omega)]
theorem crash_false {d : Dv} (h : DvR d) (n : Nat) : (crashD (List.replicate n false) d).L = d.L := by
  obtain ⟨h1, h2⟩ := crash_all h.ok (List.replicate n false)
  show (crashL (List.replicate n false) d).L = d.L
  apply List.ext_getElem?
  intro p
  refine (h2 p).2 ?_
  rintro ⟨i, _, hi⟩
  rw [List.getElem?_replicate] at hi
  split at hi <;> simp_all
theorem crash_S (d : Dv) (keep : List Bool) : (crashD keep d).S = (crashD keep d).L := rfl
theorem bls_replicate (n : Nat) (b : Bool) : List.replicate n [AV.bool b] = bls (List.replicate n b) := by simp [bls]
theorem bls_set (l : List Bool) (i : Nat) (b : Bool) : (bls l).set i [.bool b] = bls (l.set i b) := by simp [bls, List.map_set]
theorem PmemCrashes_ok (s : List UInt8) (ac : List ActV) (hs : s.length ≤ 4611686018) (hac : ac.length ≤ 4611686018 ∧ ∀ c, c ∈ ac → c.B.length ≤ 1048576 ∧ c.K.length ≤ 1048576 ∧ c.N ≤ 9223372036854775807) : AOKn Try.prog F.joistlaw03_PmemCrashes [.sl 1 (bs s) false, .sl 5 (acR ac) false] fun y => y = .bool true := by
  obtain ⟨ha1, ha2⟩ := hac
  have hns := bs_length s
  have hna := acR_length ac
  have ntt : ¬ (true ≠ true) := by simp
  have nff : ¬ (false ≠ false) := by simp
  refine AOKn.by_steps mixed fc_joistlaw03_PmemCrashes_ok (by simp [fc_joistlaw03_PmemCrashes]) ?_
  skip
  all_goals (conv => whnf)
  all_goals (try dsimp only)
  refine call_one small_ok .nil rfl fun σ1 hg1 => ?_
  by_cases h1 : 2048 < (s.length : Int)
  · repeat' (first
      | ((with_reducible refine Side.intro ?_) <;> (first
      | (simp only [List.append_nil, List.nil_append, List.map_nil]; first | exact List.nodup_nil | exact nodup_bid1 _ | exact nodup_bid2 (by assumption))
      | ((first | refine fresh_tup ?_ | skip); (repeat (first |  exact FreshA.sl _ _ FreshA_bs | exact FreshA.sl _ _ FreshA_is | exact FreshA.nils | exact FreshA.nilp | exact FreshA.int _ _ | exact FreshA.bool _ | exact FreshA.str _ | exact fresh_nil | refine fresh_cons ?_ ?_ | with_reducible refine fresh_aggR ?_ | with_reducible refine fresh_agg ?_ | with_reducible exact fresh_nilA | with_reducible refine fresh_consA ?_ ?_)); done)
      ))
      | ((conv => whnf) <;> (first
      | (with_reducible refine and_same ?_)
      | (with_reducible refine and_side ?_ ?_)
      | ((with_reducible apply Br.yes) ; (focus omega))
      | (with_reducible refine NOut.lit ?_)
      | (with_reducible refine lenR_sl ?_)
      ))
      )
    all_goals (conv => whnf)
    all_goals (try dsimp only)
    exact ret_bool rfl
  repeat' (first
    | ((conv => whnf) <;> (first
    | (with_reducible refine and_same ?_)
    | ((with_reducible apply Br.no) ; (focus omega))
    | (with_reducible refine lenR_sl ?_)
    ))
    )
  all_goals (conv => whnf)
  all_goals (try dsimp only)
  refine New_ok (s := s) (.sl false rfl) hs _ ?_ ?_
  · intro hG a σ2 hg2 hD2 hn2
    have hR := DvR.new hG
    skip
    all_goals (conv => whnf)
    all_goals (try dsimp only)
    refine New_ok (s := s) (.sl false rfl) hs _ ?_ (fun q => absurd hG q)
    intro _ b σ3 hg3 hE3 hn3
    have hD3 := hD2.keepN hg3
    have hab : ∀ id, a.has id → ¬ b.has id := fun id q r => by
      have := hD2.lt id q
      have := hn3 id r
      omega
    have box3 := hD3.box
    have boxb := hE3.box
    dsimp only at box3 boxb
    repeat' (first
      | ((conv => whnf) <;> (first
      | (with_reducible refine and_same ?_)
      | ((with_reducible apply Br.no) ; (focus omega))
      | ((with_reducible apply blkAt_step) ; (focus (first
      | ((repeat (first
      | assumption
      )); done)
      )) ; (focus (first | rfl | assumption | omega)) ; (focus (first | rfl | assumption)) ; (try dsimp only))
      ))
      )
    all_goals (conv => whnf)
    all_goals (try dsimp only)
    refine loop_at (α := Nat × Dv × AH) (fun q => [(10, .int .i64 q.1)]) (fun q => q.2.2) (fun q => q.1 ≤ ac.length ∧ DevH q.2.2 a q.2.1 ∧ DevH q.2.2 b q.2.1 ∧ DvR q.2.1 ∧ q.2.1.L.length = s.length) (fun q => ac.length - q.1) (0, ⟨s, s, [], 0, 0, false⟩, σ3) ⟨Nat.zero_le _, hD3, hE3, hR, rfl⟩ rfl rfl ?_
    rintro ⟨i, d, τ⟩ ⟨hi, hD, hE, hRd, hLs⟩
    dsimp only at hi hD hE hRd hLs ⊢
    have hle := hRd.ok.le
    have hln := hRd.ok.len
    by_cases hlt : i < ac.length ∧ i < 40
    · obtain ⟨c, hc, hc'⟩ := getN hlt.1
      obtain ⟨hcB, hcK, hcN⟩ := ha2 c (List.mem_of_getElem? hc')
      obtain ⟨hlt1, hlt2⟩ := hlt
      have hnB := bs_length c.B
      by_cases hsk : 4096 < (c.B.length : Int) ∨ c.Do = 4 ∨ c.Do = 5
      · repeat' (first
          | ((with_reducible refine Side.intro ?_) <;> (first
          | omega
          ))
          | ((conv => whnf) <;> (first
          | (with_reducible refine and_same ?_)
          | ((with_reducible apply Br.yes) ; (focus omega))
          | (with_reducible refine Br.mk (fun _ => ?_) (fun _ => ?_))
          | ((with_reducible apply nthR_act) ; (focus assumption))
          | (with_reducible refine ia_sl ?_ ?_)
          | (with_reducible refine lenR_sl ?_)
          ))
          )
        all_goals (conv => whnf)
        all_goals (try dsimp only)
        all_goals exact ⟨(i + 1, d, _), rfl, rfl, ⟨hlt1, hD, hE, hRd, hLs⟩, by dsimp only; omega⟩
      · have hdo : doD d c = doD d c := rfl
        repeat' (first
          | ((with_reducible refine Side.intro ?_) <;> (first
          | omega
          | exact Nat.le_of_ble_eq_true rfl
          ))
          | ((conv => whnf) <;> (first
          | (with_reducible refine and_same ?_)
          | (with_reducible refine and_side ?_ ?_)
          | ((with_reducible apply Br.yes) ; (focus omega))
          | ((with_reducible apply Br.no) ; (focus omega))
          | ((with_reducible apply nthR_act) ; (focus assumption))
          | (with_reducible refine ia_sl ?_ ?_)
          | (with_reducible refine lenR_sl ?_)
          ))
          )
        all_goals (conv => whnf)
        all_goals (try dsimp only)
        refine do_ok hD hRd c hcB hcK _ fun σ4 hD4 hg4 => ?_
        have hE4 := hE.keep hg4 fun id q r => hab id r q
        repeat' (first
          | ((with_reducible refine Side.intro ?_) <;> (first
          | omega
          | exact Nat.le_of_ble_eq_true rfl
          ))
          | ((conv => whnf) <;> (first
          | (with_reducible refine and_side ?_ ?_)
          | ((with_reducible apply nthR_act) ; (focus assumption))
          | (with_reducible refine ia_sl ?_ ?_)
          ))
          )
        all_goals (conv => whnf)
        all_goals (try dsimp only)
        refine do_ok hE4 hRd c hcB hcK _ fun σ5 hE5 hg5 => ?_
        have hD5 := hD4.keep hg5 hab
        repeat' (first
          | ((conv => whnf) <;> (first
          | (with_reducible refine and_same ?_)
          | ((with_reducible apply Br.yes) ; (focus omega))
          ))
          )
        all_goals (conv => whnf)
        all_goals (try dsimp only)
        exact ⟨(i + 1, doD d c, σ5), rfl, rfl, ⟨hlt1, hD5, hE5, hRd.do c hcN, (do_len hRd c).trans hLs⟩, by dsimp only; omega⟩
    · have hlt' : ac.length ≤ i ∨ 40 ≤ i := by omega
      have eN : ((d.S.length : Int) / 64).toNat = d.S.length / 64 := by omega
      repeat' (first
        | ((conv => whnf) <;> (first
        | (with_reducible refine and_same ?_)
        | ((with_reducible apply Br.no) ; (focus omega))
        | (with_reducible refine Br.mk (fun _ => ?_) (fun _ => ?_))
        | (with_reducible refine lenR_sl ?_)
        ))
        )
      all_goals (conv => whnf)
      all_goals (try dsimp only)
      all_goals
        refine View_ok hD (by omega) _ fun y σ4 hg4 ho4 hn4 => ?_
        have hD4 := hD.keepN hg4
        repeat' (first
          | ((conv => whnf) <;> (first
          | ((with_reducible apply rowsR_own) ; (focus assumption))
          | ((with_reducible apply bytesR_intro) ; (focus (first | rfl | (simp only [bs_take, bs_drop, bs_append]; rfl))))
          ))
          )
        all_goals (conv => whnf)
        all_goals (try dsimp only)
        refine Image_ok hD4 (by omega) _ fun y5 σ5 hg5 ho5 hn5 => ?_
        have hD5 := hD4.keepN hg5
        have hE5 := (hE.keepN hg4).keepN hg5
        clear ho4 hn4
        repeat' (first
          | ((conv => whnf) <;> (first
          | ((with_reducible apply rowsR_own) ; (focus assumption))
          | ((with_reducible apply bytesR_intro) ; (focus (first | rfl | (simp only [bs_take, bs_drop, bs_append]; rfl))))
          ))
          )
        all_goals (conv => whnf)
        all_goals (try dsimp only)
        refine Lines_ok hD5 (by omega) _ ?_
        repeat' (first
          | ((with_reducible refine Side.intro ?_) <;> (first
          | omega
          ))
          | ((conv => whnf) <;> (first
          | (with_reducible refine and_side ?_ ?_)
          ))
          )
        all_goals (conv => whnf)
        all_goals (try dsimp only)
        rw [eN]
        generalize hN : d.S.length / 64 = N at *
        have hNl : N ≤ 4096 := by omega
        have hk0 : (newB σ5 1 (List.replicate N [.bool false]) true)[σ5.length]? = some { sz := 1, els := bls (List.replicate 0 true ++ List.replicate (N - 0) false), gen := 0, wr := true, pure := true } := by
          rw [bls_replicate]; exact get_new
        refine loop_at (α := Nat × AH) (fun q => [(14, .int .i64 q.1)]) (fun q => q.2) (fun q => q.1 ≤ N ∧ q.2[σ5.length]? = some { sz := 1, els := bls (List.replicate q.1 true ++ List.replicate (N - q.1) false), gen := 0, wr := true, pure := true } ∧ Gr σ5 q.2 none) (fun q => N - q.1) (0, newB σ5 1 (List.replicate N [.bool false]) true) ⟨Nat.zero_le _, hk0, by (repeat (first
              | exact Gr.refl _ _
              | refine Gr.addN ?_ _
              ))⟩ rfl rfl ?_
        rintro ⟨j, τ6⟩ ⟨hj, hK, hG6⟩
        dsimp only at hj hK hG6 ⊢
        have hbl : (bls (List.replicate j true ++ List.replicate (N - j) false)).length = N := by rw [bls_length]; simp; omega
        by_cases hjl : j < N
        · have hgt : (List.replicate j true ++ List.replicate (N - j) false)[((j : Nat) : Int).toNat]? = some false := by
            rw [Int.toNat_natCast, List.getElem?_append_right (by simp), List.getElem?_replicate, if_pos (by simp; omega)]
          have hset : (List.replicate j true ++ List.replicate (N - j) false).set j true = List.replicate (j + 1) true ++ List.replicate (N - (j + 1)) false := by
            obtain ⟨m, hm⟩ : ∃ m, N - j = m + 1 := ⟨N - j - 1, by omega⟩
            rw [hm, show N - (j + 1) = m by omega, List.set_append_right _ _ (by simp), List.replicate_succ (n := m), List.replicate_succ' (n := j)]
            simp
          have e1 : (bls (List.replicate j true ++ List.replicate (N - j) false)).set (0 + ((j : Nat) : Int).toNat) [.bool true] = bls (List.replicate (j + 1) true ++ List.replicate (N - (j + 1)) false) := by rw [Nat.zero_add, Int.toNat_natCast, bls_set, hset]
          repeat' (first
            | ((with_reducible refine Side.intro ?_) <;> (first
            | omega
            | exact Nat.le_of_ble_eq_true rfl
            | exact rfl
            ))
            | ((conv => whnf) <;> (first
            | (with_reducible refine and_same ?_)
            | (with_reducible refine and_side ?_ ?_)
            | ((with_reducible apply Br.yes) ; (focus omega))
            | ((with_reducible apply blkAt_step) ; (focus (first
            | ((repeat (first
            | assumption
            )); done)
            )) ; (focus (first | rfl | assumption | omega)) ; (focus (first | rfl | assumption)) ; (try dsimp only))
            | ((with_reducible apply nthR_bls1) ; (focus assumption))
            | (with_reducible refine IaW.of ?_)
            | (with_reducible refine nthR_z ?_)
            | (with_reducible refine lenR_rsl ?_)
            ))
            )
          all_goals (conv => whnf)
          all_goals (try dsimp only)
          rw [e1]
          exact ⟨(j + 1, _), rfl, rfl, ⟨hjl, get_set hK, hG6.setNew (Nat.le_refl _) _⟩, by dsimp only; omega⟩
        · have ej : j = N := by omega
          subst ej
          rw [Nat.sub_self, List.replicate_zero, List.append_nil] at hK
          have hD6 := hD5.keepN hG6
          have hE6 := hE5.keepN hG6
          have hOk : Own τ6 1 (.rsl σ5.length 0 0 j none) (bls (List.replicate j true)) := Own.mk' (sp := []) hK (by simp [bls_length]) (by rw [List.append_nil])
          have hjn : (bls (List.replicate j true)).length = j := by simp [bls_length]
          have eA := crash_true hRd hN.symm
          have eB := crash_false hRd j
          have hRA := hRd.crash (List.replicate j true)
          have hRB := hRd.crash (List.replicate j false)
          have sS : d.S = d.S := rfl
          have sL : d.L = d.L := rfl
          have s0 : (is (srt ([] : List Int))).length = 0 := by simp [is, srt]
          repeat' (first
            | ((conv => whnf) <;> (first
            | (with_reducible refine and_same ?_)
            | ((with_reducible apply Br.no) ; (focus omega))
            | ((with_reducible apply lenR_own) ; (focus assumption))
            ))
            )
          all_goals (conv => whnf)
          all_goals (try dsimp only)
          refine Crash_ok hD6 hRd.ok (.own hOk) (by simp; omega) (fun id q r => by have := hD5.lt id q; cases r; omega) _ fun σ7 hD7 hg7 => ?_
          have hE7 := hE6.keep hg7 fun id q r => hab id r q
          have hK7 := hg7.2 _ _ hK fun q => by have := hD5.lt _ q; omega
          repeat' (first
            | ((with_reducible refine Side.intro ?_) <;> (first
            | omega
            ))
            | ((conv => whnf) <;> (first
            | (with_reducible refine and_side ?_ ?_)
            | ((with_reducible apply blkAt_step) ; (focus (first
            | ((repeat (first
            | assumption
            )); done)
            )) ; (focus (first | rfl | assumption | omega)) ; (focus (first | rfl | assumption)) ; (try dsimp only))
            | (with_reducible refine lenR_rsl ?_)
            ))
            )
          all_goals (conv => whnf)
          all_goals (try dsimp only)
          have hOb : Own (newB σ7 1 (bls (List.replicate j false)) true) 1 (.rsl σ7.length 0 0 (bls (List.replicate j false)).length none) (bls (List.replicate j false)) := by
            have := Own.new σ7 1 (bls (List.replicate j false)) []
            rwa [List.append_nil] at this
          rw [show (bls (List.replicate j false)).length = j by simp [bls_length]] at hOb
          have g7 : Gr σ7 (newB σ7 1 (bls (List.replicate j false)) true) none := by (repeat (first
                | exact Gr.refl _ _
                | refine Gr.addN ?_ _
                ))
          rw [Int.toNat_natCast, bls_replicate]
          refine Crash_ok (hE7.keepN g7) hRd.ok (.own hOb) (by simp; omega) (fun id q r => by have := hE7.lt id q; cases r; omega) _ fun σ8 hE8 hg8 => ?_
          have hD8 := (hD7.keepN g7).keep hg8 hab
          have hlA := hRA.ok.le
          have hlB := hRB.ok.le
          have hnA := hRA.ok.len
          skip
          all_goals (conv => whnf)
          all_goals (try dsimp only)
          refine Image_ok hD8 (by omega) _ fun y9 σ9 hg9 ho9 hn9 => ?_
          rw [eA] at ho9
          have hD9 := hD8.keepN hg9
          have hE9 := hE8.keepN hg9
          repeat' (first
            | ((conv => whnf) <;> (first
            | (with_reducible refine Br.yes rfl ?_)
            | ((with_reducible apply rowsR_own) ; (focus assumption))
            | ((with_reducible apply bytesR_intro) ; (focus (first | rfl | (simp only [bs_take, bs_drop, bs_append]; rfl))))
            ))
            )
          all_goals (conv => whnf)
          all_goals (try dsimp only)
          refine Image_ok hE9 (by omega) _ fun y10 σ10 hg10 ho10 hn10 => ?_
          rw [eB] at ho10
          have hD10 := hD9.keepN hg10
          have hE10 := hE9.keepN hg10
          repeat' (first
            | ((conv => whnf) <;> (first
            | (with_reducible refine Br.yes rfl ?_)
            | ((with_reducible apply rowsR_own) ; (focus assumption))
            | ((with_reducible apply bytesR_intro) ; (focus (first | rfl | (simp only [bs_take, bs_drop, bs_append]; rfl))))
            ))
            )
          all_goals (conv => whnf)
          all_goals (try dsimp only)
          refine View_ok hD10 (by omega) _ fun y11 σ11 hg11 ho11 hn11 => ?_
          rw [crash_S, eA] at ho11
          have hD11 := hD10.keepN hg11
          have hE11 := hE10.keepN hg11
          repeat' (first
            | ((conv => whnf) <;> (first
            | (with_reducible refine Br.yes rfl ?_)
            | ((with_reducible apply rowsR_own) ; (focus assumption))
            | ((with_reducible apply bytesR_intro) ; (focus (first | rfl | (simp only [bs_take, bs_drop, bs_append]; rfl))))
            ))
            )
          all_goals (conv => whnf)
          all_goals (try dsimp only)
          refine Dirty_ok hD11 hRA.ok.map hRA.ok.few _ fun y12 σ12 hg12 ho12 hn12 => ?_
          have hE12 := hE11.keepN hg12
          change Own σ12 1 y12 (is (srt [])) at ho12
          repeat' (first
            | ((conv => whnf) <;> (first
            | ((with_reducible apply lenR_own) ; (focus assumption))
            ))
            )
          all_goals (conv => whnf)
          all_goals (try dsimp only)
          refine Dirty_ok hE12 hRB.ok.map hRB.ok.few _ fun y13 σ13 hg13 ho13 hn13 => ?_
          change Own σ13 1 y13 (is (srt [])) at ho13
          repeat' (first
            | ((with_reducible refine Side.intro ?_) <;> (first
            | (simp only [List.append_nil, List.nil_append, List.map_nil]; first | exact List.nodup_nil | exact nodup_bid1 _ | exact nodup_bid2 (by assumption))
            | ((first | refine fresh_tup ?_ | skip); (repeat (first |  exact FreshA.sl _ _ FreshA_bs | exact FreshA.sl _ _ FreshA_is | exact FreshA.nils | exact FreshA.nilp | exact FreshA.int _ _ | exact FreshA.bool _ | exact FreshA.str _ | exact fresh_nil | refine fresh_cons ?_ ?_ | with_reducible refine fresh_aggR ?_ | with_reducible refine fresh_agg ?_ | with_reducible exact fresh_nilA | with_reducible refine fresh_consA ?_ ?_)); done)
            ))
            | ((conv => whnf) <;> (first
            | (with_reducible refine and_same ?_)
            | (with_reducible refine and_side ?_ ?_)
            | ((with_reducible apply Br.yes) ; (focus omega))
            | ((with_reducible apply lenR_own) ; (focus assumption))
            | (with_reducible refine NOut.lit ?_)
            ))
            )
          all_goals (conv => whnf)
          all_goals (try dsimp only)
          exact ret_bool rfl
  · intro hG σ2 hg2
    skip
    all_goals (conv => whnf)
    all_goals (try dsimp only)
    refine New_ok (s := s) (.sl false rfl) hs _ (fun q => absurd q hG) fun _ σ3 hg3 => ?_
    repeat' (first
      | ((with_reducible refine Side.intro ?_) <;> (first
      | (simp only [List.append_nil, List.nil_append, List.map_nil]; first | exact List.nodup_nil | exact nodup_bid1 _ | exact nodup_bid2 (by assumption))
      | ((first | refine fresh_tup ?_ | skip); (repeat (first |  exact FreshA.sl _ _ FreshA_bs | exact FreshA.sl _ _ FreshA_is | exact FreshA.nils | exact FreshA.nilp | exact FreshA.int _ _ | exact FreshA.bool _ | exact FreshA.str _ | exact fresh_nil | refine fresh_cons ?_ ?_ | with_reducible refine fresh_aggR ?_ | with_reducible refine fresh_agg ?_ | with_reducible exact fresh_nilA | with_reducible refine fresh_consA ?_ ?_)); done)
      ))
      | ((conv => whnf) <;> (first
      | (with_reducible refine and_same ?_)
      | (with_reducible refine and_side ?_ ?_)
      | (with_reducible refine Br.yes rfl ?_)
      | ((with_reducible apply Br.yes) ; (focus omega))
      | (with_reducible refine NOut.lit ?_)
      ))
      )
    all_goals (conv => whnf)
    all_goals (try dsimp only)
    exact ret_bool rfl
end Go.Proofs.Ythakanioekmhbaa
