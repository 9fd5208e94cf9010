import Derived.Test.YtjbfdhnfdehdeaaPtags3
import Derived.Test.YtjbfdhnfdehdeaaPwcalls
namespace Go.Proofs.Ytjbfdhnfdehdeaa
open Go Go.Proofs.Ytjbfdhnfdehdeaa.V
set_option maxRecDepth 20000
attribute [local irreducible] CallS AOK AOKn ALoop Side Ref.ok
theorem nxt_first {G : List (Int × Int)} {k i : Nat} {g x : Int × Int} (hg : G[k]? = some g) (hki : k < i) (h : ∀ j y, k < j → j < i → G[j]? = some y → lw y.2 ≠ lw g.2) (hx : G[i]? = some x) (hc : lw x.2 = lw g.2) : nxt G k = x.1 + 1 := by
  unfold nxt; rw [hg]
  refine nxL_first (m := i - (k + 1)) (fun j y hj hy => ?_) ?_ hc
  · rw [List.getElem?_drop] at hy
    exact h _ y (by omega) (by omega) hy
  · rw [List.getElem?_drop, show k + 1 + (i - (k + 1)) = i from by omega]; exact hx
theorem nxt_none {G : List (Int × Int)} {k : Nat} {g : Int × Int} (hg : G[k]? = some g) (h : ∀ j y, k < j → G[j]? = some y → lw y.2 ≠ lw g.2) : nxt G k = 0 := by
  unfold nxt; rw [hg]
  refine nxL_none fun y hy => ?_
  obtain ⟨j, hj⟩ := List.mem_iff_getElem?.1 hy
  rw [List.getElem?_drop] at hj
  exact h _ y (by omega) hj
theorem prv_first {G : List (Int × Int)} {k i : Nat} {g x : Int × Int} (hg : G[k]? = some g) (hki : i < k) (h : ∀ j y, i < j → j < k → G[j]? = some y → lw y.2 ≠ lw g.2) (hx : G[i]? = some x) (hc : lw x.2 = lw g.2) : prv G k = x.1 + 1 := by
  have hkl : k < G.length := (List.getElem?_eq_some_iff.1 hg).1
  have hm : min k G.length = k := by omega
  unfold prv; rw [hg]
  refine nxL_first (m := k - 1 - i) (fun j y hj hy => ?_) ?_ hc
  · rw [List.getElem?_reverse (by rw [List.length_take]; omega), List.length_take, hm, List.getElem?_take_of_lt (by omega)] at hy
    exact h _ y (by omega) (by omega) hy
  · rw [List.getElem?_reverse (by rw [List.length_take]; omega), List.length_take, hm, List.getElem?_take_of_lt (by omega), show k - 1 - (k - 1 - i) = i from by omega]; exact hx
theorem prv_none {G : List (Int × Int)} {k : Nat} {g : Int × Int} (hg : G[k]? = some g) (h : ∀ j y, j < k → G[j]? = some y → lw y.2 ≠ lw g.2) : prv G k = 0 := by
  unfold prv; rw [hg]
  refine nxL_none fun y hy => ?_
  rw [List.mem_reverse] at hy
  have hy' : y ∈ (G.take k).drop 0 := by simpa using hy
  obtain ⟨m, h1, h2, h3⟩ := mem_take_drop.1 hy'
  exact h _ y h2 h3
theorem beside_up (G : List (Int × Int)) (hG : G.length ≤ 4611686) (hg : gOk G) (k : Nat) (hk : k < G.length) : AOKn Try.prog F.joistref11_beside [.sl 2 (sp G) false, .int .i64 k, .int .i64 1] fun y => y = .int .i64 (nxt G k) := by
  have hn := sp_length G
  obtain ⟨g, hgk, hgk'⟩ := getN hk
  have hgb := hg g (List.mem_of_getElem? hgk')
  refine AOKn.by_steps mixed fc_joistref11_beside_ok (by simp [fc_joistref11_beside]) ?_
  repeat' (first
    | ((with_reducible refine Side.intro ?_) <;> (first
    | omega
    ))
    | ((conv => whnf) <;> (first
    | ((with_reducible apply nthR_sp) ; (focus assumption))
    | (with_reducible refine ia_sl ?_ ?_)
    ))
    )
  all_goals (conv => whnf)
  all_goals (try dsimp only)
  refine RList_call g.2 fun H1 hg1 => ?_
  rw [lsV, if_pos hgb.2.2]
  repeat' (first
    | ((conv => whnf) <;> (first
    | (with_reducible refine and_same ?_)
    | ((with_reducible apply Br.yes) ; (focus omega))
    ))
    )
  all_goals (conv => whnf)
  all_goals (try dsimp only)
  refine loop_at (α := Nat × AH) (fun a => [(9, .int .i64 ((k : Int) + 1 + a.1))]) (fun a => a.2) (fun a => k + 1 + a.1 ≤ G.length ∧ ∀ j y, k < j → j < k + 1 + a.1 → G[j]? = some y → lw y.2 ≠ lw g.2) (fun a => G.length - a.1) (0, H1) ⟨by dsimp only; omega, fun j y h1 h2 => by dsimp only at h2; omega⟩ (by simp; rfl) rfl ?_
  rintro ⟨m, σ⟩ ⟨hm, hno⟩
  dsimp only at hm hno ⊢
  by_cases hlt : k + 1 + m < G.length
  · obtain ⟨x, hx, hx'⟩ := getN hlt
    have hxe : G[((k : Int) + 1 + m).toNat]? = some x := by rw [show ((k : Int) + 1 + m).toNat = k + 1 + m from by omega]; exact hx'
    have hxb := hg x (List.mem_of_getElem? hx')
    repeat' (first
      | ((with_reducible refine Side.intro ?_) <;> (first
      | omega
      ))
      | ((conv => whnf) <;> (first
      | (with_reducible refine and_same ?_)
      | ((with_reducible apply Br.yes) ; (focus omega))
      | ((with_reducible apply nthR_sp) ; (focus assumption))
      | (with_reducible refine ia_sl ?_ ?_)
      | (with_reducible refine lenR_sl ?_)
      ))
      )
    all_goals (conv => whnf)
    all_goals (try dsimp only)
    refine RList_call x.2 fun H2 hg2 => ?_
    rw [lsV, if_pos hxb.2.2]
    by_cases hc : lw x.2 = lw g.2
    · rw [nxt_first hgk' (by omega) hno hx' hc, hc]
      repeat' (first
        | ((with_reducible refine Side.intro ?_) <;> (first
        | omega
        | (simp only [List.append_nil, List.nil_append, List.map_nil]; first | exact List.nodup_nil | exact nodup_bid1 _ | exact nodup_bid2 (by assumption))
        | ((first | refine fresh_tup ?_ | skip); (repeat (first | exact fresh_sp _ |  exact FreshA.sl _ _ FreshA_bs | exact FreshA.sl _ _ FreshA_is | exact FreshA.nils | exact FreshA.nilp | exact FreshA.int _ _ | exact FreshA.bool _ | exact FreshA.str _ | exact fresh_nil | refine fresh_cons ?_ ?_ | with_reducible refine fresh_aggR ?_ | with_reducible refine fresh_agg ?_ | with_reducible exact fresh_nilA | with_reducible refine fresh_consA ?_ ?_)); done)
        ))
        | ((conv => whnf) <;> (first
        | (with_reducible refine and_same ?_)
        | (with_reducible refine and_side ?_ ?_)
        | (with_reducible refine Br.yes rfl ?_)
        | ((with_reducible apply Br.yes) ; (focus omega))
        | ((with_reducible apply nthR_sp) ; (focus assumption))
        | (with_reducible refine ia_sl ?_ ?_)
        | (with_reducible refine NOut.lit ?_)
        ))
        )
      all_goals (conv => whnf)
      all_goals (try dsimp only)
      exact ret_same rfl
    · repeat' (first
        | ((conv => whnf) <;> (first
        | (with_reducible refine and_same ?_)
        | ((with_reducible apply Br.yes) ; (focus omega))
        | ((with_reducible apply Br.no) ; (focus omega))
        ))
        )
      all_goals (conv => whnf)
      all_goals (try dsimp only)
      refine ⟨(m + 1, H2), by show _ = _; rw [show (k : Int) + 1 + m + 1 = (k : Int) + 1 + ((m + 1 : Nat) : Int) from by omega]; rfl, rfl, ⟨by dsimp only; omega, fun j y h1 h2 hy => ?_⟩, by dsimp only; omega⟩
      by_cases e : j = k + 1 + m
      · subst e
        rw [hx'] at hy; cases hy
        exact hc
      · exact hno j y h1 (by dsimp only at h2; omega) hy
  · rw [nxt_none hgk' (fun j y hj hy => hno j y hj (by have := (List.getElem?_eq_some_iff.1 hy).1; omega) hy)]
    repeat' (first
      | ((with_reducible refine Side.intro ?_) <;> (first
      | (simp only [List.append_nil, List.nil_append, List.map_nil]; first | exact List.nodup_nil | exact nodup_bid1 _ | exact nodup_bid2 (by assumption))
      | ((first | refine fresh_tup ?_ | skip); (repeat (first | exact fresh_sp _ |  exact FreshA.sl _ _ FreshA_bs | exact FreshA.sl _ _ FreshA_is | exact FreshA.nils | exact FreshA.nilp | exact FreshA.int _ _ | exact FreshA.bool _ | exact FreshA.str _ | exact fresh_nil | refine fresh_cons ?_ ?_ | with_reducible refine fresh_aggR ?_ | with_reducible refine fresh_agg ?_ | with_reducible exact fresh_nilA | with_reducible refine fresh_consA ?_ ?_)); done)
      ))
      | ((conv => whnf) <;> (first
      | (with_reducible refine and_same ?_)
      | (with_reducible refine and_side ?_ ?_)
      | ((with_reducible apply Br.yes) ; (focus omega))
      | ((with_reducible apply Br.no) ; (focus omega))
      | (with_reducible refine NOut.lit ?_)
      | (with_reducible refine lenR_sl ?_)
      ))
      )
    all_goals (conv => whnf)
    all_goals (try dsimp only)
    exact ret_same rfl
theorem beside_down (G : List (Int × Int)) (hG : G.length ≤ 4611686) (hg : gOk G) (k : Nat) (hk : k < G.length) : AOKn Try.prog F.joistref11_beside [.sl 2 (sp G) false, .int .i64 k, .int .i64 (-1)] fun y => y = .int .i64 (prv G k) := by
  have hn := sp_length G
  obtain ⟨g, hgk, hgk'⟩ := getN hk
  have hgb := hg g (List.mem_of_getElem? hgk')
  refine AOKn.by_steps mixed fc_joistref11_beside_ok (by simp [fc_joistref11_beside]) ?_
  repeat' (first
    | ((with_reducible refine Side.intro ?_) <;> (first
    | omega
    ))
    | ((conv => whnf) <;> (first
    | ((with_reducible apply nthR_sp) ; (focus assumption))
    | (with_reducible refine ia_sl ?_ ?_)
    ))
    )
  all_goals (conv => whnf)
  all_goals (try dsimp only)
  refine RList_call g.2 fun H1 hg1 => ?_
  rw [lsV, if_pos hgb.2.2]
  repeat' (first
    | ((conv => whnf) <;> (first
    | (with_reducible refine and_same ?_)
    | ((with_reducible apply Br.yes) ; (focus omega))
    ))
    )
  all_goals (conv => whnf)
  all_goals (try dsimp only)
  refine loop_at (α := Nat × AH) (fun a => [(9, .int .i64 ((k : Int) + (-1) - a.1))]) (fun a => a.2) (fun a => a.1 ≤ k ∧ ∀ j y, j < k → k ≤ j + a.1 → G[j]? = some y → lw y.2 ≠ lw g.2) (fun a => k - a.1) (0, H1) ⟨by dsimp only; omega, fun j y h1 h2 => by dsimp only at h2; omega⟩ (by simp; rfl) rfl ?_
  rintro ⟨m, σ⟩ ⟨hm, hno⟩
  dsimp only at hm hno ⊢
  by_cases hlt : m < k
  · obtain ⟨x, hx, hx'⟩ := getN (l := G) (k := k - 1 - m) (by omega)
    have hxe : G[((k : Int) + (-1) - m).toNat]? = some x := by rw [show ((k : Int) + (-1) - m).toNat = k - 1 - m from by omega]; exact hx'
    have hxb := hg x (List.mem_of_getElem? hx')
    repeat' (first
      | ((with_reducible refine Side.intro ?_) <;> (first
      | omega
      ))
      | ((conv => whnf) <;> (first
      | (with_reducible refine and_same ?_)
      | ((with_reducible apply Br.yes) ; (focus omega))
      | ((with_reducible apply nthR_sp) ; (focus assumption))
      | (with_reducible refine ia_sl ?_ ?_)
      | (with_reducible refine lenR_sl ?_)
      ))
      )
    all_goals (conv => whnf)
    all_goals (try dsimp only)
    refine RList_call x.2 fun H2 hg2 => ?_
    rw [lsV, if_pos hxb.2.2]
    by_cases hc : lw x.2 = lw g.2
    · rw [prv_first hgk' (by omega) (fun j y h1 h2 hy => hno j y h2 (by omega) hy) hx' hc, hc]
      repeat' (first
        | ((with_reducible refine Side.intro ?_) <;> (first
        | omega
        | (simp only [List.append_nil, List.nil_append, List.map_nil]; first | exact List.nodup_nil | exact nodup_bid1 _ | exact nodup_bid2 (by assumption))
        | ((first | refine fresh_tup ?_ | skip); (repeat (first | exact fresh_sp _ |  exact FreshA.sl _ _ FreshA_bs | exact FreshA.sl _ _ FreshA_is | exact FreshA.nils | exact FreshA.nilp | exact FreshA.int _ _ | exact FreshA.bool _ | exact FreshA.str _ | exact fresh_nil | refine fresh_cons ?_ ?_ | with_reducible refine fresh_aggR ?_ | with_reducible refine fresh_agg ?_ | with_reducible exact fresh_nilA | with_reducible refine fresh_consA ?_ ?_)); done)
        ))
        | ((conv => whnf) <;> (first
        | (with_reducible refine and_same ?_)
        | (with_reducible refine and_side ?_ ?_)
        | (with_reducible refine Br.yes rfl ?_)
        | ((with_reducible apply Br.yes) ; (focus omega))
        | ((with_reducible apply nthR_sp) ; (focus assumption))
        | (with_reducible refine ia_sl ?_ ?_)
        | (with_reducible refine NOut.lit ?_)
        ))
        )
      all_goals (conv => whnf)
      all_goals (try dsimp only)
      exact ret_same rfl
    · repeat' (first
        | ((conv => whnf) <;> (first
        | (with_reducible refine and_same ?_)
        | ((with_reducible apply Br.yes) ; (focus omega))
        | ((with_reducible apply Br.no) ; (focus omega))
        ))
        )
      all_goals (conv => whnf)
      all_goals (try dsimp only)
      refine ⟨(m + 1, H2), by show _ = _; rw [show (k : Int) + (-1) - m + (-1) = (k : Int) + (-1) - ((m + 1 : Nat) : Int) from by omega]; rfl, rfl, ⟨by dsimp only; omega, fun j y h1 h2 hy => ?_⟩, by dsimp only; omega⟩
      by_cases e : j = k - 1 - m
      · subst e
        rw [hx'] at hy; cases hy
        exact hc
      · exact hno j y h1 (by dsimp only at h2; omega) hy
  · have hmk : m = k := by omega
    subst hmk
    rw [prv_none hgk' (fun j y hj hy => hno j y hj (by omega) hy)]
    repeat' (first
      | ((with_reducible refine Side.intro ?_) <;> (first
      | (simp only [List.append_nil, List.nil_append, List.map_nil]; first | exact List.nodup_nil | exact nodup_bid1 _ | exact nodup_bid2 (by assumption))
      | ((first | refine fresh_tup ?_ | skip); (repeat (first | exact fresh_sp _ |  exact FreshA.sl _ _ FreshA_bs | exact FreshA.sl _ _ FreshA_is | exact FreshA.nils | exact FreshA.nilp | exact FreshA.int _ _ | exact FreshA.bool _ | exact FreshA.str _ | exact fresh_nil | refine fresh_cons ?_ ?_ | with_reducible refine fresh_aggR ?_ | with_reducible refine fresh_agg ?_ | with_reducible exact fresh_nilA | with_reducible refine fresh_consA ?_ ?_)); done)
      ))
      | ((conv => whnf) <;> (first
      | (with_reducible refine and_same ?_)
      | (with_reducible refine and_side ?_ ?_)
      | ((with_reducible apply Br.no) ; (focus omega))
      | (with_reducible refine NOut.lit ?_)
      ))
      )
    all_goals (conv => whnf)
    all_goals (try dsimp only)
    exact ret_same rfl
theorem beside_up_call (G : List (Int × Int)) (hG : G.length ≤ 4611686) (hg : gOk G) (k : Nat) (hk : k < G.length) {σ : AH} {x : AV} (hx : Looks σ x (.sl 2 (Go.Proofs.Ytjbfdhnfdehdeaa.sp G) false)) {Q : AV → AH → Prop} (h : ∀ σ', Gr σ σ' none → Q (.int .i64 (nxt G k)) σ') : CallS Try.prog F.joistref11_beside [x, .int .i64 k, .int .i64 1] σ Q :=
  call_one (beside_up G hG hg k hk) (.cons hx (.cons (.int _ _ _) (.cons (.int _ _ _) .nil))) rfl h
theorem beside_down_call (G : List (Int × Int)) (hG : G.length ≤ 4611686) (hg : gOk G) (k : Nat) (hk : k < G.length) {σ : AH} {x : AV} (hx : Looks σ x (.sl 2 (Go.Proofs.Ytjbfdhnfdehdeaa.sp G) false)) {Q : AV → AH → Prop} (h : ∀ σ', Gr σ σ' none → Q (.int .i64 (prv G k)) σ') : CallS Try.prog F.joistref11_beside [x, .int .i64 k, .int .i64 (-1)] σ Q :=
  call_one (beside_down G hG hg k hk) (.cons hx (.cons (.int _ _ _) (.cons (.int _ _ _) .nil))) rfl h
theorem free_ok (fr to : Int) (U : List (Int × Int × Int)) (hU : U.length ≤ 4611686) : AOKn Try.prog F.joistref11_free [.int .i64 fr, .int .i64 to, .sl 3 (bk U) false] fun y => y = .sl 2 (sp (gapR fr to (spo U))) true := by
  refine AOKn.by_steps mixed fc_joistref11_free_ok (by simp [fc_joistref11_free]) ?_
  skip
  all_goals (conv => whnf)
  all_goals (try dsimp only)
  refine spans_call U hU (Looks.bk _ _ _) fun H1 y hg1 hy hyn => ?_
  skip
  all_goals (conv => whnf)
  all_goals (try dsimp only)
  refine call_sl1 (ref10_Gaps_ok fr to (spo U) (by rw [spo_length]; exact hU)) (.cons (.int _ _ _) (.cons (.int _ _ _) (.cons (Looks.ownsp hy) .nil))) rfl fun H2 z hg2 hz hzn => ?_
  skip
  all_goals (conv => whnf)
  all_goals (try dsimp only)
  exact outNR_own hz (fresh_sp _) rfl
theorem free_call (fr to : Int) (U : List (Int × Int × Int)) (hU : U.length ≤ 4611686) {σ : AH} {x : AV} (hx : Looks σ x (.sl 3 (Go.Proofs.Ytjbfdhnfdehdeaa.bk U) false)) {Q : AV → AH → Prop} (h : ∀ σ' y, Gr σ σ' none → Own σ' 2 y (sp (gapR fr to (spo U))) → New σ y → Q y σ') : CallS Try.prog F.joistref11_free [.int .i64 fr, .int .i64 to, x] σ Q :=
  call_sl (free_ok fr to U hU) (.cons (.int _ _ _) (.cons (.int _ _ _) (.cons hx .nil))) h
/-! ### A block's bytes -/
def pc (s x : Int) (d : List UInt8) : List UInt8 := le 8 (64 * s + x).toNat ++ d ++ List.replicate (8 * (s - 2).toNat - d.length) 0 ++ le 8 (64 * s + x).toNat
theorem pc_length {s x : Int} {d : List UInt8} (hs : 2 ≤ s) (hd : (d.length : Int) ≤ (s - 2) * 8) : (pc s x d).length = 8 * s.toNat := by
  simp only [pc, List.length_append, le_length, List.length_replicate]
  omega
def pt (p : List UInt8) (a : Nat) (d : List UInt8) : List UInt8 := p.take a ++ d ++ p.drop (a + d.length)
theorem pt_length {p : List UInt8} {a : Nat} {d : List UInt8} (h : a + d.length ≤ p.length) : (pt p a d).length = p.length := by
  simp only [pt, List.length_append, List.length_take, List.length_drop]
  omega
theorem pc_pts {t d : List UInt8} (ht : t.length = 8) {n : Nat} (h : 16 + d.length ≤ n) : pt (pt (pt (List.replicate n 0) 0 t) 8 d) (n - 8) t = t ++ d ++ List.replicate (n - 16 - d.length) 0 ++ t := by
  have e1 : pt (List.replicate n 0) 0 t = t ++ List.replicate (n - 8) 0 := by
    simp only [pt, List.take_zero, List.nil_append, List.drop_replicate]
    rw [show n - (0 + t.length) = n - 8 from by omega]
  have e2 : pt (t ++ List.replicate (n - 8) 0) 8 d = t ++ d ++ List.replicate (n - 8 - d.length) 0 := by
    simp only [pt]
    rw [List.take_append_of_le_length (by omega), List.take_of_length_le (by omega), List.drop_append, List.drop_of_length_le (by omega), List.nil_append, List.drop_replicate, show n - 8 - (8 + d.length - t.length) = n - 8 - d.length from by omega]
  rw [e1, e2]
  have hl : (t ++ d ++ List.replicate (n - 8 - d.length) (0 : UInt8)).length = n := by simp; omega
  simp only [pt]
  rw [List.drop_of_length_le (by rw [hl]; omega), List.append_nil, List.take_append, List.take_of_length_le (by simp; omega), List.take_replicate]
  congr 3
  simp
  omega
theorem copy_bs {σ : AH} {id gen off len : Nat} {cap : Option Nat} {p d : List UInt8} {sp ys : List (List AV)} {K : AV → AH → Prop} (hb : σ[id]? = some { sz := 1, els := bs p ++ sp, gen := gen, wr := true, pure := true }) (hy : ys = bs d) (h : off + len ≤ p.length) (hd : d.length ≤ len)
    (hk : ∀ σ', σ' = σ.set id { sz := 1, els := bs (pt p off d) ++ sp, gen := gen, wr := true, pure := true } → K (.int .i64 d.length) σ') : CopyW σ 1 (.rsl id gen off len cap) ys K := by
  subst hy
  have hpl := bs_length p
  have hdl := bs_length d
  refine ⟨blkAt_intro hb rfl ⟨rfl, rfl, by rw [List.length_append]; omega, ?_⟩⟩
  have e1 : min (bs d).length len = d.length := by omega
  dsimp only
  rw [e1, List.take_of_length_le (by omega : (bs d).length ≤ d.length)]
  have e2 : (bs p ++ sp).take off ++ bs d ++ (bs p ++ sp).drop (off + d.length) = bs (pt p off d) ++ sp := by
    rw [List.take_append_of_le_length (by omega), List.drop_append_of_le_length (by omega), bs_take, bs_drop, ← List.append_assoc, bs_append, bs_append]; rfl
  rw [e2]
  exact hk _ rfl
theorem piece_ok (s x : Int) (d : List UInt8) (hs : 2 ≤ s) (hs2 : s ≤ 2048) (hx : 0 ≤ x) (hx2 : x < 64) (hd : (d.length : Int) ≤ (s - 2) * 8) : AOKn Try.prog F.tags_piece [.int .i64 s, .int .i64 x, .sl 1 (bs d) false] fun y => y = .sl 1 (bs (pc s x d)) true := by
  have hdl := bs_length d
  refine AOKn.by_steps mixed fc_tags_piece_ok (by simp [fc_tags_piece]) ?_
  repeat' (first
    | ((with_reducible refine Side.intro ?_) <;> (first
    | omega
    | exact Nat.le_of_ble_eq_true rfl
    | exact rfl
    ))
    | ((conv => whnf) <;> (first
    | (with_reducible refine and_same ?_)
    | (with_reducible refine and_side ?_ ?_)
    | ((with_reducible apply Br.yes) ; (focus omega))
    ))
    )
  all_goals (conv => whnf)
  all_goals (try dsimp only)
  refine Of_call [s * 64 + x] (by simp) (Looks.ownis (.mk' (sp := []) (by (first
        | exact rfl
        )) rfl rfl)) fun H1 y hg1 hy hyn => ?_
  have hR : ofR [s * 64 + x] = le 8 (64 * s + x).toNat := by
    have hmay : ([s * 64 + x] : List Int).all mayW = true := by simp [mayW]; omega
    rw [ofR, hmay, if_pos rfl, cat_one, Int.mul_comm s 64]
  rw [hR] at hy
  have h8 := le_length 8 (64 * s + x).toNat
  generalize ht : le 8 (64 * s + x).toNat = t at *
  have htl := bs_length t
  obtain ⟨id, gen, sp', rfl, hb⟩ := hy.ne (fun e => by rw [e] at htl; simp at htl; omega)
  clear hy
  repeat' (first
    | ((with_reducible refine Side.intro ?_) <;> (first
    | omega
    | (simp only [bs_length, List.length_append, List.length_cons, List.length_nil, List.length_take, List.length_drop, List.length_set, List.length_replicate]; omega)
    ))
    | ((conv => whnf) <;> (first
    | (with_reducible refine and_same ?_)
    | (with_reducible refine and_side ?_ ?_)
    | ((with_reducible apply Br.yes) ; (focus omega))
    | ((with_reducible apply blkAt_intro) ; (focus (first
    | ((repeat (first
    | assumption
    | apply get_old
    )); done)
    )) ; (focus (first | rfl | assumption | omega)) ; (try dsimp only))
    | (with_reducible refine rowsR_rsl ?_)
    ))
    )
  all_goals (conv => whnf)
  all_goals (try dsimp only)
  rw [List.drop_zero, List.take_left]
  refine copy_bs (p := List.replicate (s * 8).toNat 0) (d := t) (sp := []) (by rw [bs_replicate, List.append_nil]; exact get_new) rfl (by rw [List.length_replicate]; omega) (by omega) fun σ1 e1 => ?_
  have hb1 : σ1[H1.length]? = some { sz := 1, els := bs (pt (List.replicate (s * 8).toNat 0) 0 t) ++ [], gen := 0, wr := true, pure := true } := by rw [e1]; exact get_set get_new
  have hbt : σ1[id]? = some { sz := 1, els := bs t ++ sp', gen := gen, wr := true, pure := true } := by
    have hne : H1.length ≠ id := fun e => by have := (List.getElem?_eq_some_iff.1 hb).1; omega
    rw [e1]; exact get_set_ne hne (get_old hb)
  have hl1 := pt_length (p := List.replicate (s * 8).toNat 0) (a := 0) (d := t) (by rw [List.length_replicate]; omega)
  rw [List.length_replicate] at hl1
  rw [List.append_nil] at hb1
  generalize hq1 : pt (List.replicate (s * 8).toNat 0) 0 t = q1 at *
  have hq1l := bs_length q1
  clear e1
  repeat' (first
    | ((with_reducible refine Side.intro ?_) <;> (first
    | omega
    ))
    | ((conv => whnf) <;> (first
    | (with_reducible refine and_same ?_)
    | (with_reducible refine and_side ?_ ?_)
    | ((with_reducible apply blkAt_intro) ; (focus (first
    | ((repeat (first
    | assumption
    )); done)
    )) ; (focus (first | rfl | assumption | omega)) ; (try dsimp only))
    | (with_reducible refine SliceW.of ?_)
    | (with_reducible refine rowsR_sl ?_)
    ))
    )
  all_goals (conv => whnf)
  all_goals (try dsimp only)
  refine copy_bs (p := q1) (d := d) (sp := []) (by rw [List.append_nil]; exact hb1) rfl (by omega) (by omega) fun σ2 e2 => ?_
  have hb2 : σ2[H1.length]? = some { sz := 1, els := bs (pt q1 (0 + Int.toNat 8) d) ++ [], gen := 0, wr := true, pure := true } := by rw [e2]; exact get_set hb1
  have hbt2 : σ2[id]? = some { sz := 1, els := bs t ++ sp', gen := gen, wr := true, pure := true } := by
    have hne : H1.length ≠ id := fun e => by have := (List.getElem?_eq_some_iff.1 hb).1; omega
    rw [e2]; exact get_set_ne hne hbt
  have hl2 := pt_length (p := q1) (a := 0 + Int.toNat 8) (d := d) (by omega)
  rw [List.append_nil] at hb2
  generalize hq2 : pt q1 (0 + Int.toNat 8) d = q2 at *
  have hq2l := bs_length q2
  clear e2
  repeat' (first
    | ((with_reducible refine Side.intro ?_) <;> (first
    | omega
    | (simp only [bs_length, List.length_append, List.length_cons, List.length_nil, List.length_take, List.length_drop, List.length_set, List.length_replicate]; omega)
    ))
    | ((conv => whnf) <;> (first
    | (with_reducible refine and_same ?_)
    | (with_reducible refine and_side ?_ ?_)
    | ((with_reducible apply Br.yes) ; (focus omega))
    | ((with_reducible apply blkAt_intro) ; (focus (first
    | ((repeat (first
    | assumption
    )); done)
    )) ; (focus (first | rfl | assumption | omega)) ; (try dsimp only))
    | (with_reducible refine SliceW.of ?_)
    | (with_reducible refine lenR_rsl ?_)
    | (with_reducible refine rowsR_rsl ?_)
    ))
    )
  all_goals (conv => whnf)
  all_goals (try dsimp only)
  rw [List.drop_zero, List.take_left]
  refine copy_bs (p := q2) (d := t) (sp := []) (by rw [List.append_nil]; exact hb2) rfl (by omega) (by omega) fun σ3 e3 => ?_
  have e8 : 0 + ((((s * 8).toNat : Nat) : Int) - 8).toNat = (s * 8).toNat - 8 := by omega
  have hb3 : σ3[H1.length]? = some { sz := 1, els := bs (pt q2 ((s * 8).toNat - 8) t) ++ [], gen := 0, wr := true, pure := true } := by
    rw [e3, e8]; exact get_set hb2
  have e9 : pt q2 ((s * 8).toNat - 8) t = pc s x d := by
    rw [← hq2, ← hq1, show 0 + Int.toNat 8 = 8 from rfl, pc_pts h8 (by omega)]
    simp only [pc, ht]
    rw [show (s * 8).toNat - 16 - d.length = 8 * (s - 2).toNat - d.length from by omega]
  rw [e9, List.append_nil] at hb3
  have pl := pc_length (x := x) hs hd
  have pbl := bs_length (pc s x d)
  generalize pc s x d = P at *
  clear e3
  repeat' (first
    | ((with_reducible refine Side.intro ?_) <;> (first
    | omega
    | (simp; done)
    ))
    | ((conv => whnf) <;> (first
    | (with_reducible refine and_same ?_)
    | (with_reducible refine and_side ?_ ?_)
    | ((with_reducible apply blkAt_intro) ; (focus (first
    | ((repeat (first
    | assumption
    )); done)
    )) ; (focus (first | rfl | assumption | omega)) ; (try dsimp only))
    | (with_reducible refine NOut.lit ?_)
    ))
    )
  all_goals (conv => whnf)
  all_goals (try dsimp only)
  all_goals rw [List.take_of_length_le (by omega)]
  all_goals first
    | exact ret_same rfl
    | exact Side.intro (fresh_bs _)
    | trace_state
theorem piece_call (s x : Int) (d : List UInt8) (hs : 2 ≤ s) (hs2 : s ≤ 2048) (hx : 0 ≤ x) (hx2 : x < 64) (hd : (d.length : Int) ≤ (s - 2) * 8) {σ : AH} {y : AV} (hy : Looks σ y (.sl 1 (bs d) false)) {Q : AV → AH → Prop} (h : ∀ σ' z, Gr σ σ' none → Own σ' 1 z (bs (pc s x d)) → New σ z → Q z σ') : CallS Try.prog F.tags_piece [.int .i64 s, .int .i64 x, y] σ Q :=
  call_sl (piece_ok s x d hs hs2 hx hx2 hd) (.cons (.int _ _ _) (.cons (.int _ _ _) (.cons hy .nil))) h
end Go.Proofs.Ytjbfdhnfdehdeaa
