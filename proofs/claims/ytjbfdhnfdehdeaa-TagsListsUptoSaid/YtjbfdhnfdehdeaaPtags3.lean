import Derived.Test.YtjbfdhnfdehdeaaPtagsp
namespace Go.Proofs.Ytjbfdhnfdehdeaa
open Go Go.Proofs.Ytjbfdhnfdehdeaa.V
set_option maxRecDepth 20000
attribute [local irreducible] CallS AOK AOKn ALoop Side Ref.ok
def rowI (l : List Int) : List AV := l.map fun n => .int .i64 n
theorem rowI_length (l : List Int) : (rowI l).length = l.length := by simp [rowI]
theorem rowI_get {l : List Int} {x : Int} {v : Int} (h : l[x.toNat]? = some v) : (rowI l)[0 + x.toNat * 1]? = some (.int .i64 v) := by
  rw [Nat.zero_add, Nat.mul_one]; simp [rowI, h]
theorem rowI_lay {l : List Int} {x : Int} (h : x.toNat < l.length) (v : Int) : lay (rowI l) (0 + x.toNat * 1) [.int .i64 v] = rowI (l.set x.toNat v) := by
  have hr := rowI_length l
  unfold lay
  rw [Nat.zero_add, Nat.mul_one]
  have e : rowI (l.set x.toNat v) = (rowI l).set x.toNat (.int .i64 v) := by simp [rowI, List.map_set]
  rw [e, List.set_eq_take_append_cons_drop, if_pos (by omega)]
  simp
theorem sp_set (L : List (Int × Int)) (i : Nat) (a b : Int) : (sp L).set i [.int .i64 a, .int .i64 b] = sp (L.set i (a, b)) := by simp [sp, List.map_set]
theorem sp_replicate (n : Nat) : List.replicate n [AV.int .i64 0, .int .i64 0] = sp (List.replicate n (0, 0)) := by simp [sp]
theorem rowI_nil : rowI (List.replicate 7 0) = [.int .i64 0, .int .i64 0, .int .i64 0, .int .i64 0, .int .i64 0, .int .i64 0, .int .i64 0] := rfl
attribute [local irreducible] rowI
/-- Free blocks' numbers are small. -/
def gOk (G : List (Int × Int)) : Prop := ∀ g, g ∈ G → 0 ≤ g.1 ∧ g.1 ≤ 2048 ∧ 4 ≤ g.2
theorem nthR_any {l : List (List AV)} {n : Nat} {x : List AV} {K : List AV → Prop} (h : l[n]? = some x) (hk : K x) : nthR l n K := nthR_intro h hk
set_option maxHeartbeats 2000000 in
theorem chains_ok (G : List (Int × Int)) (hG : G.length ≤ 4611686) (hg : gOk G) : AOKn Try.prog F.tags_chains [.sl 2 (sp G) false] fun y => y = .tup [.sl 2 (sp (chn G)) true, .sl 1 (is (hdsL G)) true] := by
  have hn := sp_length G
  refine AOKn.by_steps mixed fc_tags_chains_ok (by simp [fc_tags_chains]) ?_
  repeat' (first
    | ((with_reducible refine Side.intro ?_) <;> (first
    | omega
    ))
    | ((conv => whnf) <;> (first
    | (with_reducible refine and_side ?_ ?_)
    | (with_reducible refine lenR_sl ?_)
    ))
    )
  all_goals (conv => whnf)
  all_goals (try dsimp only)
  rw [sp_replicate, is_replicate]
  skip
  all_goals (conv => whnf)
  all_goals (try dsimp only)
  refine loop_at (α := Nat × AH) (fun a => [(18, .int .i64 a.1)]) (fun a => a.2) (fun a => a.1 ≤ G.length ∧ a.2[0]? = some { sz := 2, els := sp (outS G a.1), gen := 0, wr := true, pure := true } ∧ a.2[1]? = some { sz := 1, els := is (hdS G a.1), gen := 0, wr := true, pure := true } ∧ a.2[2]? = some { sz := 7, els := [rowI (lsS G a.1)], gen := 0, wr := true, pure := true }) (fun a => G.length - a.1) (0, _) ⟨Nat.zero_le _, by dsimp only; rw [outS_zero, hn]; rfl, by dsimp only; rw [hdS_zero]; rfl, by dsimp only; rw [lsS_zero, rowI_nil]; rfl⟩ rfl rfl ?_
  rintro ⟨i, σ⟩ ⟨hi, h0, h1, h2⟩
  dsimp only at hi h0 h1 h2 ⊢
  have hol := outS_length G i
  have hol2 := sp_length (outS G i)
  have hhl := is_length (hdS G i)
  have hhl2 : (hdS G i).length = 7 := by simp [hdS]
  by_cases hlt : i < G.length
  · obtain ⟨g, hgg, hgg'⟩ := getN hlt
    have hgb := hg g (List.mem_of_getElem? hgg')
    have hlen := (List.getElem?_eq_some_iff.1 h2).1
    repeat' (first
      | ((with_reducible refine Side.intro ?_) <;> (first
      | omega
      | exact Nat.le_of_ble_eq_true rfl
      | exact rfl
      ))
      | ((conv => whnf) <;> (first
      | (with_reducible refine and_same ?_)
      | (with_reducible refine and_side ?_ ?_)
      | ((with_reducible apply Br.yes) ; (focus omega))
      | ((with_reducible apply blkAt_intro) ; (focus (first
      | ((repeat (first
      | exact get_new
      | exact get_set get_new
      )); done)
      )) ; (focus (first | rfl | assumption | omega)) ; (try dsimp only))
      | ((with_reducible apply nthR_sp) ; (focus assumption))
      | (with_reducible refine ia_sl ?_ ?_)
      ))
      )
    all_goals (conv => whnf)
    all_goals (try dsimp only)
    refine List_call g.2 fun H' hg' => ?_
    rw [lsV, if_pos hgb.2.2]
    replace h0 := hg'.2 0 _ (by (first
          | ((repeat (first
          | assumption
          | apply get_old
          | (apply get_set_ne; (focus (first | omega | (simp only [newB_length, List.length_set, List.length_append, List.length_singleton, List.length_nil]; omega))))
          )); done)
          )) (by simp)
    replace h1 := hg'.2 1 _ (by (first
          | ((repeat (first
          | assumption
          | apply get_old
          | (apply get_set_ne; (focus (first | omega | (simp only [newB_length, List.length_set, List.length_append, List.length_singleton, List.length_nil]; omega))))
          )); done)
          )) (by simp)
    replace h2 := hg'.2 2 _ (by (first
          | ((repeat (first
          | assumption
          | apply get_old
          | (apply get_set_ne; (focus (first | omega | (simp only [newB_length, List.length_set, List.length_append, List.length_singleton, List.length_nil]; omega))))
          )); done)
          )) (by simp)
    have hbox := hg'.2 σ.length _ (get_set get_new) (by simp)
    have hc7 := lw_lt g.2
    have hls := lsS_get (G := G) (i := i) hc7
    have hls' : (lsS G i)[((lw g.2 : Nat) : Int).toNat]? = some ((lastI G i (lw g.2) : Nat) : Int) := by rw [Int.toNat_natCast]; exact hls
    have hlsl : (lsS G i).length = 7 := by simp [lsS]
    have hsucc := lsS_succ hgg'
    have hrl := rowI_length (lsS G i)
    have e5 : lay (rowI (lsS G i)) (0 + ((lw g.2 : Nat) : Int).toNat * 1) (AV.int IntKind.i64 ((i : Int) + 1)).cells = rowI (lsS G (i + 1)) := by
      rw [show (AV.int IntKind.i64 ((i : Int) + 1)).cells = [.int .i64 ((i : Int) + 1)] from rfl, rowI_lay (by rw [hlsl]; omega), Int.toNat_natCast, ← hsucc]
    have e6 : 0 + ((lw g.2 : Nat) : Int).toNat * 1 + (AV.int IntKind.i64 ((i : Int) + 1)).cells.length ≤ (rowI (lsS G i)).length := by rw [hrl, hlsl]; show 0 + ((lw g.2 : Nat) : Int).toNat * 1 + 1 ≤ 7; omega
    obtain ⟨s1, _, s3⟩ := lastI_spec G (lw g.2) i
    repeat' (first
      | ((with_reducible refine Side.intro ?_) <;> (first
      | omega
      ))
      | ((conv => whnf) <;> (first
      | (with_reducible refine and_side ?_ ?_)
      | ((with_reducible apply blkAt_intro) ; (focus (first
      | ((repeat (first
      | assumption
      )); done)
      )) ; (focus (first | rfl | assumption | omega)) ; (try dsimp only))
      ))
      )
    all_goals (conv => whnf)
    all_goals (try dsimp only)
    refine nthK_intro (rowI_get hls') ?_
    cases hk : lastI G i (lw g.2) with
    | zero =>
      have e1 := outS_no hgg' hk
      have e2 := hdS_no hgg' hk
      have hv := hdS_get (G := G) (i := i) hc7
      have hv' : (hdS G i)[0 + ((lw g.2 : Nat) : Int).toNat]? = some (nxL (lw g.2) (G.take i)) := by rw [Nat.zero_add, Int.toNat_natCast]; exact hv
      generalize hdS G i = hs at *
      generalize outS G i = os at *
      repeat' (first
        | ((with_reducible refine Side.intro ?_) <;> (first
        | omega
        | exact Nat.le_of_ble_eq_true rfl
        | exact rfl
        ))
        | ((conv => whnf) <;> (first
        | (with_reducible refine and_same ?_)
        | (with_reducible refine and_side ?_ ?_)
        | ((with_reducible apply Br.yes) ; (focus omega))
        | ((with_reducible apply Br.no) ; (focus omega))
        | ((with_reducible apply blkAt_intro) ; (focus (first
        | ((repeat (first
        | assumption
        | (apply get_set_ne; (focus (first | omega | (simp only [newB_length, List.length_set, List.length_append, List.length_singleton, List.length_nil]; omega))))
        )); done)
        )) ; (focus (first | rfl | assumption | omega)) ; (try dsimp only))
        | ((with_reducible apply nthR_is1) ; (focus assumption))
        | (with_reducible refine IaW.of ?_)
        ))
        )
      all_goals (conv => whnf)
      all_goals (try dsimp only)
      rw [layK_eq, e5]
      repeat' (first
        | ((conv => whnf) <;> (first
        | (with_reducible refine and_same ?_)
        | ((with_reducible apply Br.yes) ; (focus omega))
        ))
        )
      all_goals (conv => whnf)
      all_goals (try dsimp only)
      have e3 : (is hs).set (0 + lw g.2) [.int .i64 (g.1 + 1)] = is (hs.set (lw g.2) (g.1 + 1)) := by rw [Nat.zero_add, is_set]
      refine ⟨(i + 1, _), rfl, rfl, ⟨by dsimp only; omega, by dsimp only; rw [e1]; (first
            | ((repeat (first
            | assumption
            | (apply get_set_ne; (focus (first | omega | (simp only [newB_length, List.length_set, List.length_append, List.length_singleton, List.length_nil]; omega))))
            )); done)
            ), by dsimp only; rw [e2, ← e3]; (first
            | ((repeat (first
            | exact get_set (by assumption)
            | (apply get_set_ne; (focus (first | omega | (simp only [newB_length, List.length_set, List.length_append, List.length_singleton, List.length_nil]; omega))))
            )); done)
            ), by dsimp only; (first
            | ((repeat (first
            | assumption
            | apply get_set
            | (apply get_set_ne; (focus (first | omega | (simp only [newB_length, List.length_set, List.length_append, List.length_singleton, List.length_nil]; omega))))
            )); done)
            )⟩, by dsimp only; omega⟩
    | succ k =>
      obtain ⟨p, hp, hpc⟩ := s3 (by omega)
      rw [hk, Nat.add_sub_cancel] at hp
      have e1 := outS_yes hgg' hk hp
      have e2 := hdS_yes hgg' (by omega)
      have hpb := hg p (List.mem_of_getElem? hp)
      have ok : (outS G i)[(0 + (((k + 1 : Nat) : Int) - 1).toNat)]? = some (nxP G i k, prv G k) := by
        rw [show 0 + (((k + 1 : Nat) : Int) - 1).toNat = k from by omega, outS_get (by omega), if_pos (by omega)]
      have ok2 : (outS G i)[i]? = some (0, 0) := by rw [outS_get hlt, if_neg (by omega)]
      have hp' : G[(((k + 1 : Nat) : Int) - 1).toNat]? = some p := by rw [show (((k + 1 : Nat) : Int) - 1).toNat = k from by omega]; exact hp
      have hkk : 0 + (((k + 1 : Nat) : Int) - 1).toNat = k := by omega
      have ok3 : ((sp (outS G i)).set (0 + (((k + 1 : Nat) : Int) - 1).toNat) [.int .i64 (g.1 + 1), .int .i64 (prv G k)])[((i : Nat) : Int).toNat]? = some [.int .i64 0, .int .i64 0] := by
        rw [hkk, Int.toNat_natCast, sp_set]
        simp only [sp, List.getElem?_map]
        rw [List.getElem?_set_ne (by omega), ok2]; rfl
      have e7 : ((sp (outS G i)).set (0 + (((k + 1 : Nat) : Int) - 1).toNat) [.int .i64 (g.1 + 1), .int .i64 (prv G k)]).set (0 + ((i : Nat) : Int).toNat) [.int .i64 0, .int .i64 (p.1 + 1)] = sp (outS G (i + 1)) := by
        rw [Nat.zero_add ((i : Nat) : Int).toNat, hkk, Int.toNat_natCast, sp_set, sp_set, e1]
      have hsl7 : ((sp (outS G i)).set (0 + (((k + 1 : Nat) : Int) - 1).toNat) [.int .i64 (g.1 + 1), .int .i64 (prv G k)]).length = G.length := by rw [List.length_set, hol2, hol]
      generalize hdS G i = hs at *
      generalize outS G i = os at *
      repeat' (first
        | ((with_reducible refine Side.intro ?_) <;> (first
        | omega
        | exact Nat.le_of_ble_eq_true rfl
        | exact rfl
        ))
        | ((conv => whnf) <;> (first
        | (with_reducible refine and_same ?_)
        | (with_reducible refine and_side ?_ ?_)
        | ((with_reducible apply Br.yes) ; (focus omega))
        | ((with_reducible apply blkAt_intro) ; (focus (first
        | ((repeat (first
        | assumption
        | exact get_set (by assumption)
        | (apply get_set_ne; (focus (first | omega | (simp only [newB_length, List.length_set, List.length_append, List.length_singleton, List.length_nil]; omega))))
        )); done)
        )) ; (focus (first | rfl | assumption | omega)) ; (try dsimp only))
        | ((with_reducible apply nthR_sp) ; (focus assumption))
        | ((with_reducible apply nthR_any) ; (focus assumption))
        | (with_reducible refine ia_sl ?_ ?_)
        | (with_reducible refine IaW.of ?_)
        | (with_reducible refine nthR_z ?_)
        ))
        )
      all_goals (conv => whnf)
      all_goals (try dsimp only)
      rw [layK_eq, e5]
      repeat' (first
        | ((conv => whnf) <;> (first
        | (with_reducible refine and_same ?_)
        | ((with_reducible apply Br.yes) ; (focus omega))
        ))
        )
      all_goals (conv => whnf)
      all_goals (try dsimp only)
      refine ⟨(i + 1, _), rfl, rfl, ⟨by dsimp only; omega, by dsimp only; rw [← e7]; (first
            | ((repeat (first
            | exact get_set (by assumption)
            | apply get_set
            | (apply get_set_ne; (focus (first | omega | (simp only [newB_length, List.length_set, List.length_append, List.length_singleton, List.length_nil]; omega))))
            )); done)
            ), by dsimp only; rw [e2]; (first
            | ((repeat (first
            | assumption
            | (apply get_set_ne; (focus (first | omega | (simp only [newB_length, List.length_set, List.length_append, List.length_singleton, List.length_nil]; omega))))
            )); done)
            ), by dsimp only; (first
            | ((repeat (first
            | assumption
            | apply get_set
            | (apply get_set_ne; (focus (first | omega | (simp only [newB_length, List.length_set, List.length_append, List.length_singleton, List.length_nil]; omega))))
            )); done)
            )⟩, by dsimp only; omega⟩
  · have hil : i = G.length := by omega
    subst hil
    rw [outS_full] at h0 hol hol2
    rw [hdS_full] at h1 hhl hhl2
    repeat' (first
      | ((with_reducible refine Side.intro ?_) <;> (first
      | omega
      ))
      | ((conv => whnf) <;> (first
      | (with_reducible refine and_same ?_)
      | (with_reducible refine and_side ?_ ?_)
      | ((with_reducible apply Br.no) ; (focus omega))
      | ((with_reducible apply blkAt_intro) ; (focus (first
      | ((repeat (first
      | assumption
      )); done)
      )) ; (focus (first | rfl | assumption | omega)) ; (try dsimp only))
      | (with_reducible refine NOut.lit ?_)
      ))
      )
    all_goals (conv => whnf)
    all_goals (try dsimp only)
    all_goals try rw [List.take_of_length_le (show (sp (chn G)).length ≤ (((sp G).length : Nat) : Int).toNat from by omega), List.take_of_length_le (show (is (hdsL G)).length ≤ Int.toNat 7 from by rw [hhl, hhl2]; exact Nat.le_refl _)]
    all_goals first
      | exact Side.intro (by simp [newB])
      | exact ret_same rfl
      | exact Side.intro (fresh_tup (fresh_cons (fresh_sp _) (fresh_cons (FreshA.sl _ _ FreshA_is) fresh_nil)))
      | trace_state
end Go.Proofs.Ytjbfdhnfdehdeaa
