import Derived.Test.YtlhogahibillpaaPbytes
namespace Go.Proofs.Ytlhogahibillpaa
open Go Go.Proofs.Ytlhogahibillpaa.V
set_option maxRecDepth 20000
attribute [local irreducible] CallS AOK AOKn ALoop Side Ref.ok
theorem line_val (σ : AH) (s : List UInt8) (fr : Bool) (i : Int) (h0 : 0 ≤ i) (h1 : (i+1)*64 ≤ s.length) (hl: s.length ≤ 4611686018427387904) (Q : AV → AH → Prop) (h : Q (.sl 1 (bs ((s.take ((i+1)*64).toNat).drop (i*64).toNat)) fr) σ) : CallS Try.prog F.lines_line [.sl 1 (bs s) fr, .int .i64 i] σ Q := by
  have hn := bs_length s
  refine call_of_body mixed fc_lines_line_ok (by simp [fc_lines_line]) ?_
  repeat' (first
    | ((with_reducible refine Side.intro ?_) <;> (first
    | omega
    ))
    | ((conv => whnf) <;> (first
    | (with_reducible refine and_same ?_)
    | (with_reducible refine and_side ?_ ?_)
    | ((with_reducible apply Br.yes) ; (focus omega))
    | (with_reducible refine SliceW.of ?_)
    ))
    )
  all_goals (conv => whnf)
  all_goals (try dsimp only)
  simpa only [packA, bs_take, bs_drop] using h
def ln (s : List UInt8) (i : Nat) : List UInt8 := (s.take ((i+1)*64)).drop (i*64)
def diffs (s t : List UInt8) (n : Nat) : List (Int × List UInt8) := ((List.range n).filter fun i => ln s i ≠ ln t i).map fun i => (Int.ofNat i, ln t i)
def chg (fr : Bool) (l : List (Int × List UInt8)) : List (List AV) := l.map fun p => [.int .i64 p.1, .sl 1 (bs p.2) fr]
theorem chg_length (fr : Bool) (l : List (Int × List UInt8)) : (chg fr l).length = l.length := by simp [chg]
theorem chg_append (fr : Bool) (l m : List (Int × List UInt8)) : chg fr (l ++ m) = chg fr l ++ chg fr m := by simp [chg]
theorem fresh_chg (l : List (Int × List UInt8)) : FreshE (.sl 2 (chg true l) true) := by
  refine FreshA.sl _ _ fun x hx => ?_
  simp only [chg, List.mem_flatten, List.mem_map] at hx
  obtain ⟨r, ⟨p, _, rfl⟩, hx⟩ := hx
  simp only [List.mem_cons, List.not_mem_nil, or_false] at hx
  rcases hx with rfl | rfl
  · exact .int _ _
  · exact .sl _ _ FreshA_bs
theorem chg_nil {fr : Bool} {l : List (Int × List UInt8)} (h : chg fr l = []) : l = [] := by
  simpa [chg] using h
theorem diffs_succ (s t : List UInt8) (n : Nat) : diffs s t (n + 1) = diffs s t n ++ (if ln s n ≠ ln t n then [(Int.ofNat n, ln t n)] else []) := by
  unfold diffs
  rw [List.range_succ, List.filter_append, List.map_append]
  congr 1
  by_cases h : ln s n = ln t n <;> simp [h]
theorem diffs_le (s t : List UInt8) : ∀ n, (diffs s t n).length ≤ n := fun n => by
  unfold diffs
  rw [List.length_map]
  exact Nat.le_trans (List.length_filter_le _ _) (by simp)
section
theorem lines_Diff_ok (s t : List UInt8) (hs : s.length ≤ 4611686018427) (ht : t.length ≤ 4611686018427) : AOKn Try.prog F.lines_Diff [.sl 1 (bs s) false, .sl 1 (bs t) false]
    fun y => y = if s.length ≠ t.length ∨ s.length % 64 ≠ 0 then .tup [.nils, .int .i64 1] else .tup [.sl 2 (chg true (diffs s t (s.length / 64))) true, .int .i64 0] := by
  have hn := bs_length s
  have hm := bs_length t
  refine AOKn.by_steps mixed fc_lines_Diff_ok (by simp [fc_lines_Diff]) ?_
  repeat' (first
    | ((with_reducible refine Side.intro ?_) <;> (first
    | omega
    | (simp only [List.append_nil, List.nil_append, List.map_nil]; first | exact List.nodup_nil | exact nodup_bid1 _ | exact nodup_bid2 (by assumption))
    | ((first | refine fresh_tup ?_ | skip); (repeat (first | exact fresh_chg _ |  exact FreshA.sl _ _ FreshA_bs | exact FreshA.sl _ _ FreshA_is | exact FreshA.nils | exact FreshA.nilp | exact FreshA.int _ _ | exact FreshA.bool _ | exact FreshA.str _ | exact fresh_nil | refine fresh_cons ?_ ?_ | with_reducible refine fresh_aggR ?_ | with_reducible refine fresh_agg ?_ | with_reducible exact fresh_nilA | with_reducible refine fresh_consA ?_ ?_)); done)
    ))
    | ((conv => whnf) <;> (first
    | (with_reducible refine and_same ?_)
    | (with_reducible refine and_side ?_ ?_)
    | ((with_reducible apply Br.yes) ; (focus omega))
    | (with_reducible refine Br.mk (fun _ => ?_) (fun _ => ?_))
    | (with_reducible refine NOut.lit ?_)
    | (with_reducible refine lenR_sl ?_)
    ))
    )
  all_goals (conv => whnf)
  all_goals (try dsimp only)
  · rename_i h
    exact ret_same (by rw [if_pos (.inl (by omega))])
  · rename_i h
    exact ret_same (by rw [if_pos (.inr (by omega))])
  · refine loop_by (α := Nat × AH × AV) (fun a => [(0, .sl 1 (bs s) false), (1, .sl 1 (bs t) false), (6, a.2.2), (22, .int .i64 (((bs s).length:Int)/64)), (23, .int .i64 a.1)]) (fun a => a.2.1)
      (fun a => a.1 ≤ s.length/64 ∧ Own a.2.1 2 a.2.2 (chg true (diffs s t a.1))) (fun a => s.length/64 - a.1) ?_ (0, [], .nils) ⟨by omega, Own.nil _ _⟩ rfl rfl
    rintro ⟨i, σ, acc⟩ ⟨hi, hacc⟩
    dsimp only at hi hacc ⊢
    repeat' (first
      | ((with_reducible refine Side.intro ?_) <;> (first
      | (simp only [List.append_nil, List.nil_append, List.map_nil]; first | exact List.nodup_nil | exact nodup_bid1 _ | exact nodup_bid2 (by assumption))
      | ((first | refine fresh_tup ?_ | skip); (repeat (first | exact fresh_chg _ |  exact FreshA.sl _ _ FreshA_bs | exact FreshA.sl _ _ FreshA_is | exact FreshA.nils | exact FreshA.nilp | exact FreshA.int _ _ | exact FreshA.bool _ | exact FreshA.str _ | exact fresh_nil | refine fresh_cons ?_ ?_ | with_reducible refine fresh_aggR ?_ | with_reducible refine fresh_agg ?_ | with_reducible exact fresh_nilA | with_reducible refine fresh_consA ?_ ?_)); done)
      ))
      | ((conv => whnf) <;> (first
      | (with_reducible refine and_same ?_)
      | (with_reducible refine and_side ?_ ?_)
      | (with_reducible refine Br.mk (fun _ => ?_) (fun _ => ?_))
      | ((with_reducible apply NOut.own) ; (focus assumption))
      | (with_reducible refine NOut.lit ?_)
      ))
      )
    all_goals (conv => whnf)
    all_goals (try dsimp only)
    · refine line_val _ t false i (by omega) (by omega) (by omega) _ ?_
      skip
      all_goals (conv => whnf)
      all_goals (try dsimp only)
      refine line_val _ s false i (by omega) (by omega) (by omega) _ ?_
      skip
      all_goals (conv => whnf)
      all_goals (try dsimp only)
      refine bytes_Equal_val _ _ _ _ _ _ (fun he => ?_) (fun he => ?_)
      · repeat' (first
          | ((conv => whnf) <;> (first
          | (with_reducible refine and_same ?_)
          | ((with_reducible apply Br.yes) ; (focus omega))
          ))
          )
        all_goals (conv => whnf)
        all_goals (try dsimp only)
        refine ⟨(i + 1, σ, acc), rfl, rfl, ⟨by omega, ?_⟩, by omega⟩
        have he' : ln s i = ln t i := by
          have e1 : ((i : Int) * 64).toNat = i * 64 := by omega
          have e2 : (((i : Int) + 1) * 64).toNat = (i + 1) * 64 := by omega
          rw [e1, e2] at he
          exact he
        dsimp only
        rw [diffs_succ, if_neg (by simpa using he'), List.append_nil]
        exact hacc
      · skip
        all_goals (conv => whnf)
        all_goals (try dsimp only)
        refine (bytes_Clone_ok _ (by simp only [List.length_drop, List.length_take]; omega)).call (.cons (.bs _ _ _) .nil) ?_
        rintro _ x σ1 rfl hg hG
        obtain ⟨hx, hxb⟩ := hG.sl_inv
        rcases hx with ⟨rfl, hnil⟩ | ⟨id, gen, sp, rfl, hb⟩
        · have := congrArg List.length hnil
          simp only [bs_length, List.length_drop, List.length_take, List.length_nil] at this
          omega
        · repeat' (first
            | ((with_reducible refine Side.intro ?_) <;> (first
            | omega
            | exact Nat.le_of_ble_eq_true rfl
            | (simp only [bs_length, List.length_append, List.length_cons, List.length_nil, List.length_take, List.length_drop, List.length_set, List.length_replicate]; omega)
            | exact rfl
            ))
            | ((conv => whnf) <;> (first
            | (with_reducible refine and_same ?_)
            | (with_reducible refine and_side ?_ ?_)
            | ((with_reducible apply blkAt_intro) ; (focus (first
            | ((repeat (first
            | assumption
            | exact get_new
            | apply get_old
            )); done)
            )) ; (focus (first | rfl | assumption | omega)) ; (try dsimp only))
            | (with_reducible refine AppC.frz ?_)
            | (with_reducible refine rowsR_rsl ?_)
            ))
            )
          all_goals (conv => whnf)
          all_goals (try dsimp only)
          have hlt : (diffs s t i).length ≤ i := diffs_le s t i
          have e1 : ((i : Int) * 64).toNat = i * 64 := by omega
          have e2 : (((i : Int) + 1) * 64).toNat = (i + 1) * 64 := by omega
          rw [e1, e2] at hb he ⊢
          refine appendR_own (rows := chg true (diffs s t i)) ?_ ?_ ?_
          · refine Own.keep (o := some id) ?_ hacc ?_
            · exact ((hg.trans (Gr.append _ _)).anyO _).trans (Gr.set _ _ _)
            · refine .inr fun e => ?_
              have h1 := hacc.lt e.symm
              have h2 := hxb _ rfl
              omega
          · rw [chg_length]
            simp only [List.length_cons, List.length_nil]
            omega
          · intro acc' σ' ho' hg' hb'
            repeat' (first
              | ((conv => whnf) <;> (first
              | (with_reducible refine and_same ?_)
              | ((with_reducible apply Br.yes) ; (focus omega))
              ))
              )
            all_goals (conv => whnf)
            all_goals (try dsimp only)
            refine ⟨(i + 1, σ', acc'), rfl, rfl, ⟨by omega, ?_⟩, by omega⟩
            dsimp only
            rw [diffs_succ, if_pos (by exact he), chg_append]
            simpa [chg, ln] using ho'
    · have hi' : i = s.length / 64 := by omega
      exact ret_same (by rw [if_neg (by omega), hi'])
end
theorem fits_ok (n i : Int) (s : List UInt8) : AOKn Try.prog F.lines_fits [.int .i64 n, .agg [.int .i64 i, .sl 1 (bs s) false]] fun y => y = .bool (decide (0 ≤ i ∧ i < n ∧ s.length = 64)) := by
  have hn := bs_length s
  refine AOKn.by_steps mixed fc_lines_fits_ok (by simp [fc_lines_fits]) ?_
  repeat' (first
    | ((with_reducible refine Side.intro ?_) <;> (first
    | (simp only [List.append_nil, List.nil_append, List.map_nil]; first | exact List.nodup_nil | exact nodup_bid1 _ | exact nodup_bid2 (by assumption))
    | ((first | refine fresh_tup ?_ | skip); (repeat (first | exact fresh_chg _ |  exact FreshA.sl _ _ FreshA_bs | exact FreshA.sl _ _ FreshA_is | exact FreshA.nils | exact FreshA.nilp | exact FreshA.int _ _ | exact FreshA.bool _ | exact FreshA.str _ | exact fresh_nil | refine fresh_cons ?_ ?_ | with_reducible refine fresh_aggR ?_ | with_reducible refine fresh_agg ?_ | with_reducible exact fresh_nilA | with_reducible refine fresh_consA ?_ ?_)); done)
    | exact rfl
    ))
    | ((conv => whnf) <;> (first
    | (with_reducible refine and_same ?_)
    | (with_reducible refine and_side ?_ ?_)
    | (with_reducible refine Br.mk (fun _ => ?_) (fun _ => ?_))
    | ((with_reducible apply blkAt_intro) ; (focus (first
    | exact rfl
    )) ; (focus (first | rfl | assumption | omega)) ; (try dsimp only))
    | (with_reducible refine NOut.lit ?_)
    | (with_reducible refine lenR_sl ?_)
    ))
    )
  all_goals (conv => whnf)
  all_goals (try dsimp only)
  all_goals exact ret_same (by simp; omega)
/-- A change that fits. -/
def Fits (n : Nat) (p : Int × List UInt8) : Prop := 0 ≤ p.1 ∧ p.1 < n ∧ p.2.length = 64
instance (n : Nat) (p : Int × List UInt8) : Decidable (Fits n p) := by unfold Fits; infer_instance
def lay1 (s : List UInt8) (p : Int × List UInt8) : List UInt8 := s.take (p.1.toNat * 64) ++ p.2 ++ s.drop (p.1.toNat * 64 + 64)
def layL (s : List UInt8) (l : List (Int × List UInt8)) : List UInt8 := l.foldl lay1 s
theorem lay1_length {s : List UInt8} {p : Int × List UInt8} (h : Fits (s.length / 64) p) : (lay1 s p).length = s.length := by
  obtain ⟨h1, h2, h3⟩ := h
  simp only [lay1, List.length_append, List.length_take, List.length_drop, h3]
  omega
theorem layL_length {s : List UInt8} : ∀ {l : List (Int × List UInt8)} {t : List UInt8}, t.length = s.length → (∀ p, p ∈ l → Fits (s.length / 64) p) → (layL t l).length = s.length
  | [], t, ht, _ => ht
  | p :: l, t, ht, h => by
    refine layL_length (l := l) (t := lay1 t p) ?_ (fun q hq => h q (by simp [hq]))
    rw [lay1_length (by rw [ht]; exact h p (by simp)), ht]
theorem nthR_chg {fr : Bool} {l : List (Int × List UInt8)} {n : Nat} {K : List AV → Prop} (hn : n < l.length) (hk : ∀ p, l[n]? = some p → K [.int .i64 p.1, .sl 1 (bs p.2) fr]) : nthR (chg fr l) n K := by
  have h := List.getElem?_eq_getElem hn
  exact nthR_intro (x := [.int .i64 l[n].1, .sl 1 (bs l[n].2) fr]) (by simp [chg, h]) (hk _ h)
theorem looks_chg1 (σ : AH) (i : Int) (s : List UInt8) (fr : Bool) : Looks σ (.agg [.int .i64 i, .sl 1 (bs s) fr]) (.agg [.int .i64 i, .sl 1 (bs s) false]) := by
  refine .same ?_
  simp [derefV, derefCs, derefC, AV.flat, untag, untagLL_bs]
theorem line_own (σ : AH) (id gen n : Nat) (b : Blk) (i : Int) (h0 : 0 ≤ i) (h1 : (i+1)*64 ≤ n) (hl: n ≤ 4611686018427387904) (hb : σ[id]? = some b) (hg : b.gen = gen) (hs : b.sz = 1) (Q : AV → AH → Prop) (h : Q (.rsl id gen (i*64).toNat 64 none) σ) : CallS Try.prog F.lines_line [.rsl id gen 0 n none, .int .i64 i] σ Q := by
  refine call_of_body mixed fc_lines_line_ok (by simp [fc_lines_line]) ?_
  repeat' (first
    | ((with_reducible refine Side.intro ?_) <;> (first
    | omega
    ))
    | ((conv => whnf) <;> (first
    | (with_reducible refine and_same ?_)
    | (with_reducible refine and_side ?_ ?_)
    | ((with_reducible apply Br.yes) ; (focus omega))
    | ((with_reducible apply blkAt_intro) ; (focus (first
    | ((repeat (first
    | assumption
    )); done)
    )) ; (focus (first | rfl | assumption | omega)) ; (try dsimp only))
    | (with_reducible refine SliceW.of ?_)
    ))
    )
  all_goals (conv => whnf)
  all_goals (try dsimp only)
  have e : ((i + 1) * 64).toNat - (i * 64).toNat = 64 := by omega
  simpa only [packA, e, Nat.zero_add, Option.map_none] using h
theorem lay_rows (s : List UInt8) (p : Int × List UInt8) (sp : List (List AV)) (h : (p.1 * 64).toNat + 64 ≤ s.length) (h3 : p.2.length = 64) :
    (bs s ++ sp).take (p.1 * 64).toNat ++ (bs p.2).take 64 ++ (bs s ++ sp).drop ((p.1 * 64).toNat + 64) = bs (lay1 s p) ++ sp := by
  have e : (p.1 * 64).toNat = p.1.toNat * 64 := by omega
  have hl := bs_length s
  rw [e] at h ⊢
  rw [List.take_append_of_le_length (by omega), List.drop_append_of_le_length (by omega), List.take_of_length_le (l := bs p.2) (by rw [bs_length]; omega), bs_take, bs_drop, ← List.append_assoc, bs_append, bs_append]
  rfl
theorem lines_Apply_ok (s : List UInt8) (L : List (Int × List UInt8)) (hs : s.length ≤ 4611686018427) (hL : L.length ≤ 4611686018427) : AOKn Try.prog F.lines_Apply [.sl 1 (bs s) false, .sl 2 (chg false L) false]
    fun y => y = if s.length % 64 = 0 ∧ ∀ p, p ∈ L → Fits (s.length / 64) p then .tup [.sl 1 (bs (layL s L)) true, .int .i64 0] else .tup [.nils, .int .i64 1] := by
  have hn := bs_length s
  have hm := chg_length false L
  refine AOKn.by_steps mixed fc_lines_Apply_ok (by simp [fc_lines_Apply]) ?_
  repeat' (first
    | ((with_reducible refine Side.intro ?_) <;> (first
    | omega
    | (simp only [List.append_nil, List.nil_append, List.map_nil]; first | exact List.nodup_nil | exact nodup_bid1 _ | exact nodup_bid2 (by assumption))
    | ((first | refine fresh_tup ?_ | skip); (repeat (first | exact fresh_chg _ |  exact FreshA.sl _ _ FreshA_bs | exact FreshA.sl _ _ FreshA_is | exact FreshA.nils | exact FreshA.nilp | exact FreshA.int _ _ | exact FreshA.bool _ | exact FreshA.str _ | exact fresh_nil | refine fresh_cons ?_ ?_ | with_reducible refine fresh_aggR ?_ | with_reducible refine fresh_agg ?_ | with_reducible exact fresh_nilA | with_reducible refine fresh_consA ?_ ?_)); done)
    ))
    | ((conv => whnf) <;> (first
    | (with_reducible refine and_same ?_)
    | (with_reducible refine and_side ?_ ?_)
    | ((with_reducible apply Br.yes) ; (focus omega))
    | (with_reducible refine Br.mk (fun _ => ?_) (fun _ => ?_))
    | (with_reducible refine NOut.lit ?_)
    | (with_reducible refine lenR_sl ?_)
    ))
    )
  all_goals (conv => whnf)
  all_goals (try dsimp only)
  · rename_i h
    exact ret_same (by rw [if_neg (by omega)])
  · rename_i h64
    refine (bytes_Clone_ok s (by omega)).call (.cons (.bs _ _ _) .nil) ?_
    rintro _ x σ1 rfl hg hG
    obtain ⟨hx, hxb⟩ := hG.sl_inv
    repeat' (first
      | ((conv => whnf) <;> (first
      | (with_reducible refine lenR_sl ?_)
      ))
      )
    all_goals (conv => whnf)
    all_goals (try dsimp only)
    refine loop_by (α := Nat × AH) (fun a => [(0, .sl 1 (bs s) false), (6, x), (15, .sl 2 (chg false L) false), (16, .int .i64 L.length), (17, .int .i64 a.1)]) (fun a => a.2)
      (fun a => a.1 ≤ L.length ∧ (∀ p, p ∈ L.take a.1 → Fits (s.length / 64) p) ∧ Own a.2 1 x (bs (layL s (L.take a.1)))) (fun a => L.length - a.1) ?_ (0, σ1) ⟨by omega, by simp, by simpa [layL] using hx⟩ (by rw [hm]; rfl) rfl
    rintro ⟨k, σ⟩ ⟨hk, hfit, hown⟩
    dsimp only at hk hfit hown ⊢
    repeat' (first
      | ((with_reducible refine Side.intro ?_) <;> (first
      | omega
      | (simp only [List.append_nil, List.nil_append, List.map_nil]; first | exact List.nodup_nil | exact nodup_bid1 _ | exact nodup_bid2 (by assumption))
      | ((first | refine fresh_tup ?_ | skip); (repeat (first | exact fresh_chg _ |  exact FreshA.sl _ _ FreshA_bs | exact FreshA.sl _ _ FreshA_is | exact FreshA.nils | exact FreshA.nilp | exact FreshA.int _ _ | exact FreshA.bool _ | exact FreshA.str _ | exact fresh_nil | refine fresh_cons ?_ ?_ | with_reducible refine fresh_aggR ?_ | with_reducible refine fresh_agg ?_ | with_reducible exact fresh_nilA | with_reducible refine fresh_consA ?_ ?_)); done)
      ))
      | ((conv => whnf) <;> (first
      | (with_reducible refine and_same ?_)
      | (with_reducible refine and_side ?_ ?_)
      | (with_reducible refine Br.mk (fun _ => ?_) (fun _ => ?_))
      | (with_reducible refine ia_sl ?_ ?_)
      | ((with_reducible apply NOut.own) ; (focus assumption))
      | (with_reducible refine NOut.lit ?_)
      ))
      )
    all_goals (conv => whnf)
    all_goals (try dsimp only)
    · refine nthR_chg (by omega) fun p hp => ?_
      repeat' (first
        | ((with_reducible refine Side.intro ?_) <;> (first
        | omega
        | exact Nat.le_of_ble_eq_true rfl
        | exact rfl
        ))
        | ((conv => whnf) <;> (first
        | (with_reducible refine and_same ?_)
        | (with_reducible refine and_side ?_ ?_)
        | ((with_reducible apply Br.yes) ; (focus omega))
        | ((with_reducible apply blkAt_intro) ; (focus (first
        | ((repeat (first
        | exact get_new
        | exact get_set get_new
        )); done)
        )) ; (focus (first | rfl | assumption | omega)) ; (try dsimp only))
        | (with_reducible refine lenR_sl ?_)
        ))
        )
      all_goals (conv => whnf)
      all_goals (try dsimp only)
      have hpk : L[k]? = some p := by simpa using hp
      refine (fits_ok ((s.length / 64 : Nat) : Int) p.1 p.2).call (.cons (by rw [hn]; exact Looks.int _ _ _) (.cons (looks_chg1 _ _ _ _) .nil)) ?_
      rintro _ y σ2 rfl hg2 hG2
      obtain rfl := hG2.flat_inv rfl (by intros; simp)
      by_cases hf : Fits (s.length / 64) p
      · rw [decide_eq_true (by obtain ⟨h1, h2, h3⟩ := hf; exact ⟨h1, by omega, h3⟩)]
        have hlen : (layL s (L.take k)).length = s.length := layL_length rfl hfit
        have hown2 := hown.keepN ((Gr.box σ _ _).trans hg2)
        rcases hown2 with ⟨rfl, h0⟩ | ⟨id, gen, sp, rfl, hb⟩
        · exfalso
          have := congrArg List.length h0
          obtain ⟨q1, q2, q3⟩ := hf
          simp only [bs_length, List.length_nil] at this
          omega
        · have hc : σ2[σ.length]? = some { sz := 2, els := [[AV.int .i64 p.1, .sl 1 (bs p.2) false]], gen := 0, wr := true, pure := true } := hg2.2 _ _ (get_set get_new) (by simp)
          repeat' (first
            | ((conv => whnf) <;> (first
            | ((with_reducible apply blkAt_intro) ; (focus (first
            | ((repeat (first
            | assumption
            )); done)
            )) ; (focus (first | rfl | assumption | omega)) ; (try dsimp only))
            ))
            )
          all_goals (conv => whnf)
          all_goals (try dsimp only)
          obtain ⟨q1, q2, q3⟩ := hf
          have hl1 : ((bs (layL s (L.take k))).length) = s.length := by rw [bs_length, hlen]
          refine line_own σ2 id gen _ _ p.1 q1 (by omega) (by omega) hb rfl rfl _ ?_
          repeat' (first
            | ((with_reducible apply Gr.side) ; (repeat (first | exact Gr.refl _ _ | assumption | with_reducible refine Gr.trans ?_ (Gr.boxN _ _ _ _ _) | refine Gr.setNew ?_ (by first | exact Nat.le_refl _ | (simp only [newB_length, List.length_set, List.length_append, List.length_singleton]; omega) | omega) _ | refine Gr.addN ?_ _ | refine Gr.newN ?_ _ _ _ | exact Gr.trans (by assumption) (by assumption) | refine Gr.trans ?_ (by assumption) | refine Gr.trans (by assumption) ?_)) ; (first | done | fail))
            | ((with_reducible refine Side.intro ?_) <;> (first
            | (simp only [bs_length, List.length_append, List.length_cons, List.length_nil, List.length_take, List.length_drop, List.length_set, List.length_replicate]; omega)
            ))
            | ((conv => whnf) <;> (first
            | (with_reducible refine and_same ?_)
            | (with_reducible refine and_side ?_ ?_)
            | ((with_reducible apply Br.yes) ; (focus omega))
            | ((with_reducible apply blkAt_intro) ; (focus (first
            | ((repeat (first
            | assumption
            )); done)
            )) ; (focus (first | rfl | assumption | omega)) ; (try dsimp only))
            | (with_reducible refine CopyW.of ?_)
            | (with_reducible refine rowsR_sl ?_)
            ))
            )
          all_goals (conv => whnf)
          all_goals (try dsimp only)
          refine ⟨(k + 1, _), rfl, rfl, ⟨by omega, ?_, ?_⟩, by omega⟩
          · intro q hq
            rw [List.take_add_one, hpk] at hq
            simp only [Option.toList_some, List.mem_append, List.mem_singleton] at hq
            rcases hq with hq | rfl
            · exact hfit q hq
            · exact ⟨q1, q2, q3⟩
          · dsimp only
            have e1 : (layL s (L.take (k + 1))) = lay1 (layL s (L.take k)) p := by
              rw [List.take_add_one, hpk]
              simp [layL]
            have e2 := lay_rows (layL s (L.take k)) p sp (by omega) q3
            rw [e1]
            have e3 : (bs (layL s (L.take k))).length = (bs (lay1 (layL s (L.take k)) p)).length := by
              rw [bs_length, bs_length, lay1_length (by rw [hlen]; exact ⟨q1, q2, q3⟩)]
            have e4 : (bs p.2).length = 64 := by rw [bs_length, q3]
            rw [e4, Nat.min_self, e2, e3]
            exact .inr ⟨id, gen, sp, rfl, get_set hb⟩
      · rw [decide_eq_false (by intro q; exact hf ⟨q.1, by omega, q.2.2⟩)]
        repeat' (first
          | ((with_reducible refine Side.intro ?_) <;> (first
          | (simp only [List.append_nil, List.nil_append, List.map_nil]; first | exact List.nodup_nil | exact nodup_bid1 _ | exact nodup_bid2 (by assumption))
          | ((first | refine fresh_tup ?_ | skip); (repeat (first | exact fresh_chg _ |  exact FreshA.sl _ _ FreshA_bs | exact FreshA.sl _ _ FreshA_is | exact FreshA.nils | exact FreshA.nilp | exact FreshA.int _ _ | exact FreshA.bool _ | exact FreshA.str _ | exact fresh_nil | refine fresh_cons ?_ ?_ | with_reducible refine fresh_aggR ?_ | with_reducible refine fresh_agg ?_ | with_reducible exact fresh_nilA | with_reducible refine fresh_consA ?_ ?_)); done)
          ))
          | ((conv => whnf) <;> (first
          | (with_reducible refine and_side ?_ ?_)
          | (with_reducible refine NOut.lit ?_)
          ))
          )
        all_goals (conv => whnf)
        all_goals (try dsimp only)
        exact ret_same (by rw [if_neg (fun q => hf (q.2 p (List.mem_of_getElem? hpk)))])
    · have hkL : k = L.length := by omega
      subst hkL
      rw [List.take_length] at hfit hown
      exact ret_same (by rw [if_pos ⟨by omega, hfit⟩, List.take_length])
/-- Is the change at a place right? -/
def okAt (n : Int) (L : List (Int × List UInt8)) (j : Nat) : Bool :=
  match L[j]? with
  | none => true
  | some p => decide (0 ≤ p.1 ∧ p.1 < n ∧ p.2.length = 64) && (match j with | 0 => true | i + 1 => match L[i]? with | some q => decide (q.1 < p.1) | none => true)
def rightB (n : Int) (L : List (Int × List UInt8)) : Bool := (List.range L.length).all (okAt n L)
theorem rightB_true {n : Int} {L : List (Int × List UInt8)} (h : ∀ j, j < L.length → okAt n L j = true) : rightB n L = true := List.all_eq_true.2 fun j hj => h j (List.mem_range.1 hj)
theorem rightB_false {n : Int} {L : List (Int × List UInt8)} {j : Nat} (hj : j < L.length) (h : okAt n L j = false) : rightB n L = false := by
  cases e : rightB n L
  · rfl
  · rw [List.all_eq_true.1 e j (List.mem_range.2 hj)] at h; cases h
theorem lines_Right_ok (n : Int) (L : List (Int × List UInt8)) (hL : L.length ≤ 4611686018427) : AOKn Try.prog F.lines_Right [.int .i64 n, .sl 2 (chg false L) false] fun y => y = .bool (rightB n L) := by
  have hm := chg_length false L
  refine AOKn.by_steps mixed fc_lines_Right_ok (by simp [fc_lines_Right]) ?_
  repeat' (first
    | ((conv => whnf) <;> (first
    | (with_reducible refine lenR_sl ?_)
    ))
    )
  all_goals (conv => whnf)
  all_goals (try dsimp only)
  refine loop_by (α := Nat × AH) (fun a => [(0, .int .i64 n), (1, .sl 2 (chg false L) false), (7, .sl 2 (chg false L) false), (8, .int .i64 L.length), (9, .int .i64 a.1)]) (fun a => a.2)
      (fun a => a.1 ≤ L.length ∧ ∀ j, j < a.1 → okAt n L j = true) (fun a => L.length - a.1) ?_ (0, []) ⟨by omega, by simp⟩ (by rw [hm]; rfl) rfl
  rintro ⟨k, σ⟩ ⟨hk, hok⟩
  dsimp only at hk hok ⊢
  repeat' (first
    | ((with_reducible refine Side.intro ?_) <;> (first
    | omega
    | (simp only [List.append_nil, List.nil_append, List.map_nil]; first | exact List.nodup_nil | exact nodup_bid1 _ | exact nodup_bid2 (by assumption))
    | ((first | refine fresh_tup ?_ | skip); (repeat (first | exact fresh_chg _ |  exact FreshA.sl _ _ FreshA_bs | exact FreshA.sl _ _ FreshA_is | exact FreshA.nils | exact FreshA.nilp | exact FreshA.int _ _ | exact FreshA.bool _ | exact FreshA.str _ | exact fresh_nil | refine fresh_cons ?_ ?_ | with_reducible refine fresh_aggR ?_ | with_reducible refine fresh_agg ?_ | with_reducible exact fresh_nilA | with_reducible refine fresh_consA ?_ ?_)); done)
    ))
    | ((conv => whnf) <;> (first
    | (with_reducible refine and_same ?_)
    | (with_reducible refine and_side ?_ ?_)
    | (with_reducible refine Br.mk (fun _ => ?_) (fun _ => ?_))
    | (with_reducible refine ia_sl ?_ ?_)
    | (with_reducible refine NOut.lit ?_)
    ))
    )
  all_goals (conv => whnf)
  all_goals (try dsimp only)
  · refine nthR_chg (by omega) fun p hp => ?_
    have hpk : L[k]? = some p := by simpa using hp
    repeat' (first
      | ((with_reducible refine Side.intro ?_) <;> (first
      | exact Nat.le_of_ble_eq_true rfl
      | exact rfl
      ))
      | ((conv => whnf) <;> (first
      | (with_reducible refine and_same ?_)
      | (with_reducible refine and_side ?_ ?_)
      | ((with_reducible apply blkAt_intro) ; (focus (first
      | ((repeat (first
      | exact get_new
      | exact get_set get_new
      )); done)
      )) ; (focus (first | rfl | assumption | omega)) ; (try dsimp only))
      ))
      )
    all_goals (conv => whnf)
    all_goals (try dsimp only)
    refine (fits_ok n p.1 p.2).call (.cons (Looks.int _ _ _) (.cons (looks_chg1 _ _ _ _) .nil)) ?_
    rintro _ y σ2 rfl hg2 hG2
    obtain rfl := hG2.flat_inv rfl (by intros; simp)
    have hc : σ2[σ.length]? = some { sz := 2, els := [[AV.int .i64 p.1, .sl 1 (bs p.2) false]], gen := 0, wr := true, pure := true } := hg2.2 _ _ (get_set get_new) (by simp)
    by_cases hf : 0 ≤ p.1 ∧ p.1 < n ∧ p.2.length = 64
    · rw [decide_eq_true hf]
      repeat' (first
        | ((with_reducible refine Side.intro ?_) <;> (first
        | omega
        ))
        | ((conv => whnf) <;> (first
        | (with_reducible refine and_same ?_)
        | ((with_reducible apply Br.yes) ; (focus omega))
        | (with_reducible refine Br.mk (fun _ => ?_) (fun _ => ?_))
        | ((with_reducible apply blkAt_intro) ; (focus (first
        | ((repeat (first
        | assumption
        )); done)
        )) ; (focus (first | rfl | assumption | omega)) ; (try dsimp only))
        | (with_reducible refine ia_sl ?_ ?_)
        ))
        )
      all_goals (conv => whnf)
      all_goals (try dsimp only)
      · refine nthR_chg (by omega) fun q hq => ?_
        have e1 : ((k : Int) - 1).toNat = k - 1 := by omega
        rw [e1] at hq
        have hok1 : okAt n L k = decide (q.1 < p.1) := by
          cases k with
          | zero => omega
          | succ i => simp only [Nat.add_sub_cancel] at hq; simp [okAt, hpk, hf, hq]
        repeat' (first
          | ((with_reducible refine Side.intro ?_) <;> (first
          | (simp only [List.append_nil, List.nil_append, List.map_nil]; first | exact List.nodup_nil | exact nodup_bid1 _ | exact nodup_bid2 (by assumption))
          | ((first | refine fresh_tup ?_ | skip); (repeat (first | exact fresh_chg _ |  exact FreshA.sl _ _ FreshA_bs | exact FreshA.sl _ _ FreshA_is | exact FreshA.nils | exact FreshA.nilp | exact FreshA.int _ _ | exact FreshA.bool _ | exact FreshA.str _ | exact fresh_nil | refine fresh_cons ?_ ?_ | with_reducible refine fresh_aggR ?_ | with_reducible refine fresh_agg ?_ | with_reducible exact fresh_nilA | with_reducible refine fresh_consA ?_ ?_)); done)
          ))
          | ((conv => whnf) <;> (first
          | (with_reducible refine and_same ?_)
          | (with_reducible refine and_side ?_ ?_)
          | ((with_reducible apply Br.yes) ; (focus omega))
          | (with_reducible refine Br.mk (fun _ => ?_) (fun _ => ?_))
          | (with_reducible refine NOut.lit ?_)
          ))
          )
        all_goals (conv => whnf)
        all_goals (try dsimp only)
        · exact ret_same (by rw [rightB_false (j := k) (by omega) (by rw [hok1]; simpa using ‹p.1 ≤ q.1›)])
        · refine ⟨(k + 1, σ2), rfl, rfl, ⟨by omega, fun j hj => ?_⟩, by omega⟩
          by_cases e : j = k
          · subst e; rw [hok1]; simp only [decide_eq_true_eq]; omega
          · exact hok j (by omega)
      · refine ⟨(k + 1, σ2), rfl, rfl, ⟨by omega, fun j hj => ?_⟩, by omega⟩
        by_cases e : j = k
        · subst e
          have hk0 : j = 0 := by omega
          subst hk0
          simp [okAt, hpk, hf]
        · exact hok j (by omega)
    · rw [decide_eq_false hf]
      repeat' (first
        | ((with_reducible refine Side.intro ?_) <;> (first
        | (simp only [List.append_nil, List.nil_append, List.map_nil]; first | exact List.nodup_nil | exact nodup_bid1 _ | exact nodup_bid2 (by assumption))
        | ((first | refine fresh_tup ?_ | skip); (repeat (first | exact fresh_chg _ |  exact FreshA.sl _ _ FreshA_bs | exact FreshA.sl _ _ FreshA_is | exact FreshA.nils | exact FreshA.nilp | exact FreshA.int _ _ | exact FreshA.bool _ | exact FreshA.str _ | exact fresh_nil | refine fresh_cons ?_ ?_ | with_reducible refine fresh_aggR ?_ | with_reducible refine fresh_agg ?_ | with_reducible exact fresh_nilA | with_reducible refine fresh_consA ?_ ?_)); done)
        ))
        | ((conv => whnf) <;> (first
        | (with_reducible refine and_side ?_ ?_)
        | (with_reducible refine NOut.lit ?_)
        ))
        )
      all_goals (conv => whnf)
      all_goals (try dsimp only)
      all_goals exact ret_same (by rw [rightB_false (j := k) (by omega) (by simp [okAt, hpk, hf])])
  · exact ret_same (by rw [rightB_true (fun j hj => hok j (by omega))])
theorem nthR_chg1 {fr : Bool} {l : List (Int × List UInt8)} {n : Nat} {K : List AV → Prop} {p : Int × List UInt8} (h : l[n]? = some p) (hk : K [.int .i64 p.1, .sl 1 (bs p.2) fr]) : nthR (chg fr l) n K :=
  nthR_intro (x := [.int .i64 p.1, .sl 1 (bs p.2) fr]) (by simp [chg, h]) hk
theorem Same1_ok (p q : Int × List UInt8) : AOKn Try.prog F.lines_Same_1 [.agg [.int .i64 p.1, .sl 1 (bs p.2) false], .agg [.int .i64 q.1, .sl 1 (bs q.2) false]] fun y => y = .bool (decide (p = q)) := by
  refine AOKn.by_steps mixed fc_lines_Same_1_ok (by simp [fc_lines_Same_1]) ?_
  repeat' (first
    | ((with_reducible refine Side.intro ?_) <;> (first
    | (simp only [List.append_nil, List.nil_append, List.map_nil]; first | exact List.nodup_nil | exact nodup_bid1 _ | exact nodup_bid2 (by assumption))
    | ((first | refine fresh_tup ?_ | skip); (repeat (first | exact fresh_chg _ |  exact FreshA.sl _ _ FreshA_bs | exact FreshA.sl _ _ FreshA_is | exact FreshA.nils | exact FreshA.nilp | exact FreshA.int _ _ | exact FreshA.bool _ | exact FreshA.str _ | exact fresh_nil | refine fresh_cons ?_ ?_ | with_reducible refine fresh_aggR ?_ | with_reducible refine fresh_agg ?_ | with_reducible exact fresh_nilA | with_reducible refine fresh_consA ?_ ?_)); done)
    | exact rfl
    ))
    | ((conv => whnf) <;> (first
    | (with_reducible refine and_same ?_)
    | (with_reducible refine and_side ?_ ?_)
    | (with_reducible refine Br.mk (fun _ => ?_) (fun _ => ?_))
    | ((with_reducible apply blkAt_intro) ; (focus (first
    | exact rfl
    )) ; (focus (first | rfl | assumption | omega)) ; (try dsimp only))
    | (with_reducible refine NOut.lit ?_)
    ))
    )
  all_goals (conv => whnf)
  all_goals (try dsimp only)
  · rename_i h1
    refine bytes_Equal_val _ _ _ _ _ _ (fun h2 => ?_) (fun h2 => ?_)
    · repeat' (first
        | ((with_reducible refine Side.intro ?_) <;> (first
        | (simp only [List.append_nil, List.nil_append, List.map_nil]; first | exact List.nodup_nil | exact nodup_bid1 _ | exact nodup_bid2 (by assumption))
        | ((first | refine fresh_tup ?_ | skip); (repeat (first | exact fresh_chg _ |  exact FreshA.sl _ _ FreshA_bs | exact FreshA.sl _ _ FreshA_is | exact FreshA.nils | exact FreshA.nilp | exact FreshA.int _ _ | exact FreshA.bool _ | exact FreshA.str _ | exact fresh_nil | refine fresh_cons ?_ ?_ | with_reducible refine fresh_aggR ?_ | with_reducible refine fresh_agg ?_ | with_reducible exact fresh_nilA | with_reducible refine fresh_consA ?_ ?_)); done)
        ))
        | ((conv => whnf) <;> (first
        | (with_reducible refine and_side ?_ ?_)
        | (with_reducible refine NOut.lit ?_)
        ))
        )
      all_goals (conv => whnf)
      all_goals (try dsimp only)
      exact ret_bool (decide_eq_true (Prod.ext h1 h2)).symm
    · repeat' (first
        | ((with_reducible refine Side.intro ?_) <;> (first
        | (simp only [List.append_nil, List.nil_append, List.map_nil]; first | exact List.nodup_nil | exact nodup_bid1 _ | exact nodup_bid2 (by assumption))
        | ((first | refine fresh_tup ?_ | skip); (repeat (first | exact fresh_chg _ |  exact FreshA.sl _ _ FreshA_bs | exact FreshA.sl _ _ FreshA_is | exact FreshA.nils | exact FreshA.nilp | exact FreshA.int _ _ | exact FreshA.bool _ | exact FreshA.str _ | exact fresh_nil | refine fresh_cons ?_ ?_ | with_reducible refine fresh_aggR ?_ | with_reducible refine fresh_agg ?_ | with_reducible exact fresh_nilA | with_reducible refine fresh_consA ?_ ?_)); done)
        ))
        | ((conv => whnf) <;> (first
        | (with_reducible refine and_side ?_ ?_)
        | (with_reducible refine NOut.lit ?_)
        ))
        )
      all_goals (conv => whnf)
      all_goals (try dsimp only)
      exact ret_bool (decide_eq_false fun e => h2 (by rw [e])).symm
  · rename_i h1
    exact ret_bool (decide_eq_false fun e => h1 (by rw [e])).symm
theorem EqualFunc_val (σ : AH) (L M : List (Int × List UInt8)) (f g : Bool) (hL : L.length ≤ 4611686018427) (hM : M.length ≤ 4611686018427) (Q : AV → AH → Prop) (h : ∀ σ', Gr σ σ' none → Q (.bool (decide (L = M))) σ') :
    CallS Try.prog F.slices_EqualFunc [.sl 2 (chg f L) false, .sl 2 (chg g M) false, .fn F.lines_Same_1 []] σ Q := by
  have hm := chg_length f L
  have hn := chg_length g M
  refine call_of_body mixed fc_slices_EqualFunc_ok (by simp [fc_slices_EqualFunc]) ?_
  repeat' (first
    | ((conv => whnf) <;> (first
    | (with_reducible refine and_same ?_)
    | (with_reducible refine Br.mk (fun _ => ?_) (fun _ => ?_))
    | (with_reducible refine lenR_sl ?_)
    ))
    )
  all_goals (conv => whnf)
  all_goals (try dsimp only)
  · rename_i hne
    have := h σ (Gr.refl _ _)
    rwa [decide_eq_false (fun e => hne (by rw [hm, hn, e]))] at this
  refine loop_at (α := Nat × AH) (fun a => [(17, .int .i64 a.1)]) (fun a => a.2)
      (fun a => a.1 ≤ L.length ∧ (∀ j, j < a.1 → L[j]? = M[j]?) ∧ Gr σ a.2 none) (fun a => L.length - a.1) (0, σ) ⟨by omega, by simp, Gr.refl _ _⟩ rfl rfl ?_
  rintro ⟨k, σ1⟩ ⟨hk, hok, hg⟩
  dsimp only at hk hok hg ⊢
  repeat' (first
    | ((with_reducible refine Side.intro ?_) <;> (first
    | omega
    ))
    | ((conv => whnf) <;> (first
    | (with_reducible refine and_same ?_)
    | (with_reducible refine Br.mk (fun _ => ?_) (fun _ => ?_))
    | (with_reducible refine ia_sl ?_ ?_)
    ))
    )
  all_goals (conv => whnf)
  all_goals (try dsimp only)
  · obtain ⟨p, hp, hpk⟩ := getN (l := L) (k := k) (by omega)
    obtain ⟨q, hq, hqk⟩ := getN (l := M) (k := k) (by omega)
    repeat' (first
      | ((with_reducible refine Side.intro ?_) <;> (first
      | omega
      | exact Nat.le_of_ble_eq_true rfl
      | exact rfl
      ))
      | ((conv => whnf) <;> (first
      | (with_reducible refine and_same ?_)
      | (with_reducible refine and_side ?_ ?_)
      | ((with_reducible apply blkAt_intro) ; (focus (first
      | ((repeat (first
      | exact get_new
      | exact get_set get_new
      | apply get_old
      | (apply get_set_ne; (focus (first | omega | (simp only [newB_length, List.length_set, List.length_append, List.length_singleton, List.length_nil]; omega))))
      )); done)
      )) ; (focus (first | rfl | assumption | omega)) ; (try dsimp only))
      | ((with_reducible apply nthR_chg1) ; (focus assumption))
      | (with_reducible refine ia_sl ?_ ?_)
      ))
      )
    all_goals (conv => whnf)
    all_goals (try dsimp only)
    refine (Same1_ok p q).call (.cons (looks_chg1 _ _ _ _) (.cons (looks_chg1 _ _ _ _) .nil)) ?_
    rintro _ y σ2 rfl hg2 hG2
    obtain rfl := hG2.flat_inv rfl (by intros; simp)
    have hg3 : Gr σ σ2 none := hg.trans (Gr.trans (by (repeat (first
          | exact Gr.refl _ _
          | refine Gr.setNew ?_ (by first | exact Nat.le_refl _ | (simp only [newB_length, List.length_set, List.length_append, List.length_singleton]; omega) | omega) _
          | refine Gr.addN ?_ _
          ))) hg2)
    by_cases e : p = q
    · rw [decide_eq_true e]
      repeat' (first
        | ((conv => whnf) <;> (first
        | (with_reducible refine and_same ?_)
        | ((with_reducible apply Br.yes) ; (focus omega))
        ))
        )
      all_goals (conv => whnf)
      all_goals (try dsimp only)
      refine ⟨(k + 1, σ2), rfl, rfl, ⟨by omega, fun j hj => ?_, hg3⟩, by omega⟩
      by_cases e2 : j = k
      · subst e2; rw [hpk, hqk, e]
      · exact hok j (by omega)
    · rw [decide_eq_false e]
      skip
      all_goals (conv => whnf)
      all_goals (try dsimp only)
      have := h σ2 hg3
      rwa [decide_eq_false (fun e2 => e (by subst e2; rw [hpk] at hqk; cases hqk; rfl))] at this
  · have := h σ1 hg
    rwa [decide_eq_true] at this
    apply List.ext_getElem?
    intro j
    by_cases hj : j < k
    · exact hok j hj
    · rw [List.getElem?_eq_none (by omega), List.getElem?_eq_none (by omega)]
theorem lines_Same_val (σ : AH) (L M : List (Int × List UInt8)) (f g : Bool) (hL : L.length ≤ 4611686018427) (hM : M.length ≤ 4611686018427) (Q : AV → AH → Prop) (h : ∀ σ', Gr σ σ' none → Q (.bool (decide (L = M))) σ') :
    CallS Try.prog F.lines_Same [.sl 2 (chg f L) false, .sl 2 (chg g M) false] σ Q := by
  refine call_of_body mixed fc_lines_Same_ok (by simp [fc_lines_Same]) ?_
  skip
  all_goals (conv => whnf)
  all_goals (try dsimp only)
  refine EqualFunc_val σ L M f g hL hM _ fun σ' hg => ?_
  skip
  all_goals (conv => whnf)
  all_goals (try dsimp only)
  exact h σ' hg
/-- What Apply tells. -/
def applyR (s : List UInt8) (L : List (Int × List UInt8)) : List UInt8 := if s.length % 64 = 0 ∧ ∀ p, p ∈ L → Fits (s.length / 64) p then layL s L else []
def applyE (s : List UInt8) (L : List (Int × List UInt8)) : Int := if s.length % 64 = 0 ∧ ∀ p, p ∈ L → Fits (s.length / 64) p then 0 else 1
theorem apply_up {f : Nat} {s : List UInt8} {L : List (Int × List UInt8)} {args : List AV} (h : AOKn Try.prog f args fun y => y = if s.length % 64 = 0 ∧ ∀ p, p ∈ L → Fits (s.length / 64) p then .tup [.sl 1 (bs (layL s L)) true, .int .i64 0] else .tup [.nils, .int .i64 1]) :
    AOKn Try.prog f args fun y => y = .tup [.sl 1 (bs (applyR s L)) true, .int .i64 (applyE s L)] := by
  refine h.monoN fun y hy => ?_
  subst hy
  unfold applyR applyE
  by_cases hc : s.length % 64 = 0 ∧ ∀ p, p ∈ L → Fits (s.length / 64) p
  · simp only [if_pos hc]; exact ret_same rfl
  · simp only [if_neg hc]; exact ret_nilt rfl
end Go.Proofs.Ytlhogahibillpaa
