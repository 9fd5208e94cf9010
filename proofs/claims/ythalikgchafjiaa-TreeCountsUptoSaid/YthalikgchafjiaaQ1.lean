import Derived.Test.YthalikgchafjiaaI
import Derived.Test.YthalikgchafjiaaVI
import Derived.Test.YthalikgchafjiaaVL
namespace Go.Proofs.Ythalikgchafjiaa
open Go Go.Proofs.Ythalikgchafjiaa.V
set_option maxRecDepth 20000
attribute [local irreducible] CallS AOK AOKn ALoop Side Ref.ok
theorem Gives.plain_inv {σ : AH} {n : Nat} {y x : AV} (h : Gives σ n y x) (hy : y.plain = true) : x = y := by
  cases h with
  | one h hb => exact h.same_inv hy
  | tup h => cases hy
theorem call_one {f : Nat} {xs vs : List AV} {σ : AH} {Q : AV → AH → Prop} {y0 : AV} (h : AOKn Try.prog f vs fun y => y = y0) (hs : LooksL σ xs vs) (hf : y0.plain = true) (hQ : ∀ σ', Gr σ σ' none → Q y0 σ') : CallS Try.prog f xs σ Q := by
  refine h.call hs ?_
  rintro _ x σ1 rfl hg hG
  obtain rfl := Gives.plain_inv hG hf
  exact hQ σ1 hg
theorem call_two {f : Nat} {xs vs : List AV} {σ : AH} {Q : AV → AH → Prop} {y1 y2 : AV} (h : AOKn Try.prog f vs fun y => y = .tup [y1, y2]) (hs : LooksL σ xs vs) (h1 : y1.plain = true) (h2 : y2.plain = true) (hQ : ∀ σ', Gr σ σ' none → Q (.tup [y1, y2]) σ') : CallS Try.prog f xs σ Q := by
  refine h.call hs ?_
  rintro _ x σ1 rfl hg hG
  obtain ⟨_, _, rfl, a1, a2, _⟩ := hG.two
  obtain rfl := a1.same_inv h1
  obtain rfl := a2.same_inv h2
  exact hQ σ1 hg
def New (σ : AH) (y : AV) : Prop := ∀ id, y.bid = some id → σ.length ≤ id
/-- One slice of one's own comes back. -/
theorem call_sl {f : Nat} {xs vs : List AV} {σ : AH} {Q : AV → AH → Prop} {sz : Nat} {rows : List (List AV)} (h : AOKn Try.prog f vs fun y => y = .sl sz rows true) (hs : LooksL σ xs vs) (hQ : ∀ σ' y, Gr σ σ' none → Own σ' sz y rows → New σ y → Q y σ') : CallS Try.prog f xs σ Q := by
  refine h.call hs ?_
  rintro _ x σ1 rfl hg hG
  obtain ⟨h1, h2⟩ := hG.sl_inv
  exact hQ σ1 x hg h1 h2
/-- A slice and a plain value. -/
theorem call_sl1 {f : Nat} {xs vs : List AV} {σ : AH} {Q : AV → AH → Prop} {sz : Nat} {rows : List (List AV)} {y2 : AV} (h : AOKn Try.prog f vs fun y => y = .tup [.sl sz rows true, y2]) (hs : LooksL σ xs vs) (h2 : y2.plain = true) (hQ : ∀ σ' y, Gr σ σ' none → Own σ' sz y rows → New σ y → Q (.tup [y, y2]) σ') : CallS Try.prog f xs σ Q := by
  refine h.call hs ?_
  rintro _ x σ1 rfl hg hG
  obtain ⟨_, _, rfl, a1, a2, hn, _⟩ := hG.two
  obtain rfl := a2.same_inv h2
  exact hQ σ1 _ hg a1.own_inv hn
/-- A slice and two plain values. -/
theorem call_sl2 {f : Nat} {xs vs : List AV} {σ : AH} {Q : AV → AH → Prop} {sz : Nat} {rows : List (List AV)} {y2 y3 : AV} (h : AOKn Try.prog f vs fun y => y = .tup [.sl sz rows true, y2, y3]) (hs : LooksL σ xs vs) (h2 : y2.plain = true) (h3 : y3.plain = true) (hQ : ∀ σ' y, Gr σ σ' none → Own σ' sz y rows → New σ y → Q (.tup [y, y2, y3]) σ') : CallS Try.prog f xs σ Q := by
  refine h.call hs ?_
  rintro _ x σ1 rfl hg hG
  obtain ⟨_, _, _, rfl, a1, a2, a3, hn, _⟩ := hG.three
  obtain rfl := a2.same_inv h2
  obtain rfl := a3.same_inv h3
  exact hQ σ1 _ hg a1.own_inv hn
theorem disj_new {σ : AH} {sz : Nat} {x y : AV} {rows : List (List AV)} (hx : Own σ sz x rows) (hy : New σ y) : x.bid = none ∨ x.bid ≠ y.bid := by
  cases hb : x.bid with
  | none => exact .inl rfl
  | some id =>
    refine .inr fun e => ?_
    have h1 := hx.lt hb
    have h2 := hy id e.symm
    omega
theorem disj_symm {x y : AV} (h : x.bid = none ∨ x.bid ≠ y.bid) : y.bid = none ∨ y.bid ≠ x.bid := by
  rcases h with h | h
  · cases hy : y.bid with
    | none => exact .inl rfl
    | some a => right; rw [h]; simp
  · exact .inr fun e => h e.symm
theorem not_new {σ : AH} {sz : Nat} {x : AV} {rows : List (List AV)} (hx : Own σ sz x rows) : x.bid ≠ some σ.length := fun e => by
  have := hx.lt e
  omega
end Go.Proofs.Ythalikgchafjiaa

namespace Go.Proofs.Ythalikgchafjiaa
open Go Go.Proofs.Ythalikgchafjiaa.V
/-! Rows of rows of bytes. -/
def dat (D : List (List UInt8)) : List (List AV) := D.map fun d => [.sl 1 (bs d) false]
theorem dat_length (D : List (List UInt8)) : (dat D).length = D.length := by simp [dat]
theorem nthR_dat {D : List (List UInt8)} {k : Nat} {K : List AV → Prop} {d : List UInt8} (h : D[k]? = some d) (hk : K [.sl 1 (bs d) false]) : nthR (dat D) k K :=
  nthR_intro (x := [.sl 1 (bs d) false]) (by simp [dat, h]) hk
def datT (D : List (List UInt8)) : List (List AV) := D.map fun d => [.sl 1 (bs d) true]
theorem datT_length (D : List (List UInt8)) : (datT D).length = D.length := by simp [datT]
theorem datT_append (D E : List (List UInt8)) : datT (D ++ E) = datT D ++ datT E := by simp [datT]
theorem fresh_datT (D : List (List UInt8)) : FreshA (.sl 1 (datT D) true) := by
  refine FreshA.sl _ _ fun x hx => ?_
  simp only [datT, List.mem_flatten, List.mem_map] at hx
  obtain ⟨r, ⟨p, _, rfl⟩, hx⟩ := hx
  simp only [List.mem_singleton] at hx
  subst hx
  exact .sl _ _ FreshA_bs
theorem untag_datT (D : List (List UInt8)) : untagLL (datT D) = dat D := by
  induction D with
  | nil => rfl
  | cons d D ih =>
    have e1 : datT (d :: D) = [.sl 1 (bs d) true] :: datT D := rfl
    have e2 : dat (d :: D) = [.sl 1 (bs d) false] :: dat D := rfl
    rw [e1, e2, untagLL, ih]
    simp [untagL, untag, untagLL_bs]
theorem untag_dat (D : List (List UInt8)) : untagLL (dat D) = dat D := by
  induction D with
  | nil => rfl
  | cons d D ih =>
    have e2 : dat (d :: D) = [.sl 1 (bs d) false] :: dat D := rfl
    rw [e2, untagLL, ih]
    simp [untagL, untag, untagLL_bs]
theorem Looks.dat (σ : AH) (D : List (List UInt8)) (fr : Bool) : Looks σ (.sl 1 (Go.Proofs.Ythalikgchafjiaa.dat D) fr) (.sl 1 (Go.Proofs.Ythalikgchafjiaa.dat D) false) := by
  refine .same ?_
  simp [derefV, derefC, AV.flat, untag, untag_dat]
theorem Looks.owndat {σ : AH} {x : AV} {D : List (List UInt8)} (h : Own σ 1 x (datT D)) : Looks σ x (.sl 1 (Go.Proofs.Ythalikgchafjiaa.dat D) false) := by
  have := Looks.own h
  rwa [untag_datT] at this
theorem nthR_datT {D : List (List UInt8)} {k : Nat} {K : List AV → Prop} {d : List UInt8} (h : D[k]? = some d) (hk : K [.sl 1 (bs d) true]) : nthR (datT D) k K :=
  nthR_intro (x := [.sl 1 (bs d) true]) (by simp [datT, h]) hk
theorem looks_xs {σ : AH} {d : AV} {xs : List AV} {D : List (List UInt8)} (h : NestS σ d xs) (hs : Sep σ xs D) : Looks σ d (.sl 1 (Go.Proofs.Ythalikgchafjiaa.dat D) false) := NestS.looks h hs
/-! Rows of two, of three whole numbers. -/
def sp (L : List (Int × Int)) : List (List AV) := L.map fun p => [.int .i64 p.1, .int .i64 p.2]
theorem sp_length (L : List (Int × Int)) : (sp L).length = L.length := by simp [sp]
theorem sp_append (L M : List (Int × Int)) : sp (L ++ M) = sp L ++ sp M := by simp [sp]
theorem nthR_sp {L : List (Int × Int)} {k : Nat} {K : List AV → Prop} {p : Int × Int} (h : L[k]? = some p) (hk : K [.int .i64 p.1, .int .i64 p.2]) : nthR (sp L) k K :=
  nthR_intro (x := [.int .i64 p.1, .int .i64 p.2]) (by simp [sp, h]) hk
theorem fresh_sp (L : List (Int × Int)) : FreshA (.sl 2 (sp L) true) := by
  refine FreshA.sl _ _ fun x hx => ?_
  simp only [sp, List.mem_flatten, List.mem_map] at hx
  obtain ⟨r, ⟨p, _, rfl⟩, hx⟩ := hx
  simp only [List.mem_cons, List.not_mem_nil, or_false] at hx
  rcases hx with rfl | rfl <;> exact .int _ _
theorem untag_sp (L : List (Int × Int)) : untagLL (sp L) = sp L := by
  induction L with
  | nil => rfl
  | cons d D ih =>
    have e2 : sp (d :: D) = [.int .i64 d.1, .int .i64 d.2] :: sp D := rfl
    rw [e2, untagLL, ih]; rfl
theorem Looks.sp (σ : AH) (L : List (Int × Int)) (fr : Bool) : Looks σ (.sl 2 (Go.Proofs.Ythalikgchafjiaa.sp L) fr) (.sl 2 (Go.Proofs.Ythalikgchafjiaa.sp L) false) := by
  refine .same ?_
  simp [derefV, derefC, AV.flat, untag, untag_sp]
theorem Looks.ownsp {σ : AH} {x : AV} {L : List (Int × Int)} (h : Own σ 2 x (Go.Proofs.Ythalikgchafjiaa.sp L)) : Looks σ x (.sl 2 (Go.Proofs.Ythalikgchafjiaa.sp L) false) := by
  have := Looks.own h
  rwa [untag_sp] at this
def bk (U : List (Int × Int × Int)) : List (List AV) := U.map fun p => [.int .i64 p.1, .int .i64 p.2.1, .int .i64 p.2.2]
theorem bk_length (L : List (Int × Int × Int)) : (bk L).length = L.length := by simp [bk]
theorem bk_append (L M : List (Int × Int × Int)) : bk (L ++ M) = bk L ++ bk M := by simp [bk]
theorem nthR_bk {L : List (Int × Int × Int)} {k : Nat} {K : List AV → Prop} {p : Int × Int × Int} (h : L[k]? = some p) (hk : K [.int .i64 p.1, .int .i64 p.2.1, .int .i64 p.2.2]) : nthR (bk L) k K :=
  nthR_intro (x := [.int .i64 p.1, .int .i64 p.2.1, .int .i64 p.2.2]) (by simp [bk, h]) hk
theorem fresh_bk (L : List (Int × Int × Int)) : FreshA (.sl 3 (bk L) true) := by
  refine FreshA.sl _ _ fun x hx => ?_
  simp only [bk, List.mem_flatten, List.mem_map] at hx
  obtain ⟨r, ⟨p, _, rfl⟩, hx⟩ := hx
  simp only [List.mem_cons, List.not_mem_nil, or_false] at hx
  rcases hx with rfl | rfl | rfl <;> exact .int _ _
theorem untag_bk (L : List (Int × Int × Int)) : untagLL (bk L) = bk L := by
  induction L with
  | nil => rfl
  | cons d D ih =>
    have e2 : bk (d :: D) = [.int .i64 d.1, .int .i64 d.2.1, .int .i64 d.2.2] :: bk D := rfl
    rw [e2, untagLL, ih]; rfl
theorem Looks.bk (σ : AH) (L : List (Int × Int × Int)) (fr : Bool) : Looks σ (.sl 3 (Go.Proofs.Ythalikgchafjiaa.bk L) fr) (.sl 3 (Go.Proofs.Ythalikgchafjiaa.bk L) false) := by
  refine .same ?_
  simp [derefV, derefC, AV.flat, untag, untag_bk]
theorem Looks.ownbk {σ : AH} {x : AV} {L : List (Int × Int × Int)} (h : Own σ 3 x (Go.Proofs.Ythalikgchafjiaa.bk L)) : Looks σ x (.sl 3 (Go.Proofs.Ythalikgchafjiaa.bk L) false) := by
  have := Looks.own h
  rwa [untag_bk] at this
theorem outNR_own {σ : AH} {sz : Nat} {x : AV} {rows : List (List AV)} {post : AV → Prop} (h : Own σ sz x rows) (hf : FreshR (.sl sz rows true)) (hp : post (.sl sz rows true)) : outNR σ x fun z => ∃ y0, NilR z y0 ∧ post y0 := by
  have key : NOut σ x fun y ids => ids.Nodup ∧ FreshR y ∧ ∃ y0, NilR y y0 ∧ post y0 := NOut.own h ⟨nodup_bid1 x, hf, _, .one (.refl _), hp⟩
  rcases h with ⟨rfl, rfl⟩ | ⟨i, g, sp, rfl, h⟩ <;> exact key
theorem gr_get {σ σ' : AH} (h : Gr σ σ' none) {id : Nat} {b : Blk} (hb : σ[id]? = some b) : σ'[id]? = some b := h.2 id b hb (by simp)
theorem getI {α : Type} {l : List α} {k : Int} (h0 : 0 ≤ k) (h : k < l.length) : ∃ p, l[k.toNat]? = some p := ⟨l[k.toNat]'(by omega), by simp⟩
end Go.Proofs.Ythalikgchafjiaa

namespace Go.Proofs.Ythalikgchafjiaa
open Go Go.Proofs.Ythalikgchafjiaa.V
set_option maxRecDepth 20000
attribute [local irreducible] CallS AOK AOKn ALoop Side Ref.ok
/-! How many nodes. -/
def hol (n : Nat) : Nat := (n + 6) / 7
def ndT (n : Nat) : Nat := if h : n ≤ 1 then 0 else hol n + ndT (hol n)
  termination_by n
  decreasing_by unfold hol; omega
theorem ndT_one {n : Nat} (h : n ≤ 1) : ndT n = 0 := by rw [ndT, dif_pos h]
theorem ndT_more {n : Nat} (h : 1 < n) : ndT n = hol n + ndT (hol n) := by rw [ndT, dif_neg (by omega)]
theorem ndT_le (n : Nat) : ndT n ≤ n := by
  induction n using Nat.strongRecOn with
  | ind n ih =>
    by_cases h : n ≤ 1
    · rw [ndT_one h]; omega
    · rw [ndT_more (by omega)]
      have := ih (hol n) (by unfold hol; omega)
      unfold hol at *
      omega
def hol1 (n : Nat) : Nat := max 1 (hol n)
def ndN (n : Nat) : Nat := hol1 n + ndT (hol1 n)
def ndI (n : Int) : Int := if n < 0 then 0 else (ndN n.toNat : Nat)
theorem holders_ok (n : Int) (h0 : 0 ≤ n) (hn : n ≤ 9223372036854775807) : AOKn Try.prog F.tree_holders [.int .i64 n] fun y => y = .int .i64 (hol1 n.toNat : Nat) := by
  refine AOKn.by_steps mixed fc_tree_holders_ok (by simp [fc_tree_holders]) ?_
  have hh : (hol1 n.toNat : Nat) = max 1 ((n.toNat + 6) / 7) := rfl
  repeat' (first
    | ((with_reducible refine Side.intro ?_) <;> (first
    | omega
    | (simp only [List.append_nil, List.nil_append, List.map_nil]; first | exact List.nodup_nil | exact nodup_bid1 _ | exact nodup_bid2 (by assumption))
    | ((first | refine fresh_tup ?_ | skip); (repeat (first | exact fresh_bk _ |  exact FreshA.sl _ _ FreshA_bs | exact FreshA.sl _ _ FreshA_is | exact FreshA.nils | exact FreshA.nilp | exact FreshA.int _ _ | exact FreshA.bool _ | exact FreshA.str _ | exact fresh_nil | refine fresh_cons ?_ ?_ | with_reducible refine fresh_aggR ?_ | with_reducible refine fresh_agg ?_ | with_reducible exact fresh_nilA | with_reducible refine fresh_consA ?_ ?_)); done)
    ))
    | ((conv => whnf) <;> (first
    | (with_reducible refine and_same ?_)
    | (with_reducible refine and_side ?_ ?_)
    | ((with_reducible apply Br.yes) ; (focus omega))
    | (with_reducible refine Br.mk (fun _ => ?_) (fun _ => ?_))
    | (with_reducible refine NOut.lit ?_)
    ))
    )
  all_goals (conv => whnf)
  all_goals (try dsimp only)
  all_goals exact ret_same (by congr 1; omega)
theorem Nodes_ok (n : Int) (hn : n ≤ 9223372036854775807) : AOKn Try.prog F.tree_Nodes [.int .i64 n] fun y => y = .int .i64 (ndI n) := by
  refine AOKn.by_steps mixed fc_tree_Nodes_ok (by simp [fc_tree_Nodes]) ?_
  repeat' (first
    | ((with_reducible refine Side.intro ?_) <;> (first
    | (simp only [List.append_nil, List.nil_append, List.map_nil]; first | exact List.nodup_nil | exact nodup_bid1 _ | exact nodup_bid2 (by assumption))
    | ((first | refine fresh_tup ?_ | skip); (repeat (first | exact fresh_bk _ |  exact FreshA.sl _ _ FreshA_bs | exact FreshA.sl _ _ FreshA_is | exact FreshA.nils | exact FreshA.nilp | exact FreshA.int _ _ | exact FreshA.bool _ | exact FreshA.str _ | exact fresh_nil | refine fresh_cons ?_ ?_ | with_reducible refine fresh_aggR ?_ | with_reducible refine fresh_agg ?_ | with_reducible exact fresh_nilA | with_reducible refine fresh_consA ?_ ?_)); done)
    ))
    | ((conv => whnf) <;> (first
    | (with_reducible refine and_same ?_)
    | (with_reducible refine and_side ?_ ?_)
    | (with_reducible refine Br.mk (fun _ => ?_) (fun _ => ?_))
    | (with_reducible refine NOut.lit ?_)
    ))
    )
  all_goals (conv => whnf)
  all_goals (try dsimp only)
  · exact ret_same (by rw [ndI, if_pos (by omega)])
  · refine (holders_ok n (by omega) hn).call (.cons (Looks.int _ _ _) .nil) ?_
    rintro _ y σ1 rfl hg hG
    obtain rfl := hG.flat_inv rfl (by intros; simp)
    have hN : ndI n = ((hol1 n.toNat + ndT (hol1 n.toNat) : Nat) : Int) := by rw [ndI, if_neg (by omega), ndN]
    have hb : hol1 n.toNat ≤ 1317624576693539402 := by unfold hol1 hol; omega
    have h1 : 1 ≤ hol1 n.toNat := by unfold hol1; omega
    rw [hN]
    generalize hol1 n.toNat = h at *
    skip
    all_goals (conv => whnf)
    all_goals (try dsimp only)
    refine loop_at (α := Nat × Nat × AH) (fun a => [(0, .int .i64 a.1), (3, .int .i64 a.2.1)]) (fun a => a.2.2) (fun a => 1 ≤ a.1 ∧ a.1 ≤ 1317624576693539402 ∧ a.2.1 + ndT a.1 = h + ndT h ∧ a.2.1 ≤ 2635249153387078804) (fun a => a.1) (h, h, σ1) ⟨by omega, by omega, rfl, by dsimp only; omega⟩ rfl rfl ?_
    rintro ⟨m, t, σ⟩ ⟨hm1, hm2, ht, ht2⟩
    dsimp only at hm1 hm2 ht ht2 ⊢
    have hle := ndT_le h
    by_cases hlt : 1 < m
    · rw [ndT_more hlt] at ht
      have hle2 := ndT_le (hol m)
      have hm3 : hol1 m = hol m := by unfold hol1 hol; omega
      have hm4 : hol m < m := by unfold hol; omega
      have hm5 : 1 ≤ hol m := by unfold hol; omega
      repeat' (first
        | ((conv => whnf) <;> (first
        | (with_reducible refine and_same ?_)
        | ((with_reducible apply Br.yes) ; (focus omega))
        ))
        )
      all_goals (conv => whnf)
      all_goals (try dsimp only)
      refine (holders_ok m (by omega) (by omega)).call (.cons (Looks.int _ _ _) .nil) ?_
      rintro _ y σ2 rfl hg hG
      obtain rfl := hG.flat_inv rfl (by intros; simp)
      rw [Int.toNat_natCast, hm3]
      repeat' (first
        | ((conv => whnf) <;> (first
        | (with_reducible refine and_same ?_)
        | ((with_reducible apply Br.yes) ; (focus omega))
        ))
        )
      all_goals (conv => whnf)
      all_goals (try dsimp only)
      exact ⟨(hol m, t + hol m, σ2), by simp only [Int.natCast_add]; rfl, rfl, ⟨by omega, by omega, by dsimp only; omega, by dsimp only; omega⟩, by omega⟩
    · repeat' (first
        | ((with_reducible refine Side.intro ?_) <;> (first
        | (simp only [List.append_nil, List.nil_append, List.map_nil]; first | exact List.nodup_nil | exact nodup_bid1 _ | exact nodup_bid2 (by assumption))
        | ((first | refine fresh_tup ?_ | skip); (repeat (first | exact fresh_bk _ |  exact FreshA.sl _ _ FreshA_bs | exact FreshA.sl _ _ FreshA_is | exact FreshA.nils | exact FreshA.nilp | exact FreshA.int _ _ | exact FreshA.bool _ | exact FreshA.str _ | exact fresh_nil | refine fresh_cons ?_ ?_ | with_reducible refine fresh_aggR ?_ | with_reducible refine fresh_agg ?_ | with_reducible exact fresh_nilA | with_reducible refine fresh_consA ?_ ?_)); done)
        ))
        | ((conv => whnf) <;> (first
        | (with_reducible refine and_same ?_)
        | (with_reducible refine and_side ?_ ?_)
        | ((with_reducible apply Br.no) ; (focus omega))
        | (with_reducible refine NOut.lit ?_)
        ))
        )
      all_goals (conv => whnf)
      all_goals (try dsimp only)
      rw [ndT_one (by omega)] at ht
      exact ret_same (by congr 1; omega)
theorem RNodes_ok (n : Int) (hn : n ≤ 9223372036854775807) : AOKn Try.prog F.joistref14_Nodes [.int .i64 n] fun y => y = .int .i64 (ndI n) := by
  refine AOKn.by_steps mixed fc_joistref14_Nodes_ok (by simp [fc_joistref14_Nodes]) ?_
  have hh : (hol1 n.toNat : Nat) = max 1 ((n.toNat + 6) / 7) := rfl
  have hle := ndT_le (hol1 n.toNat)
  have hN : ¬ n < 0 → ndI n = ((hol1 n.toNat + ndT (hol1 n.toNat) : Nat) : Int) := fun q => by rw [ndI, if_neg q, ndN]
  repeat' (first
    | ((with_reducible refine Side.intro ?_) <;> (first
    | omega
    | (simp only [List.append_nil, List.nil_append, List.map_nil]; first | exact List.nodup_nil | exact nodup_bid1 _ | exact nodup_bid2 (by assumption))
    | ((first | refine fresh_tup ?_ | skip); (repeat (first | exact fresh_bk _ |  exact FreshA.sl _ _ FreshA_bs | exact FreshA.sl _ _ FreshA_is | exact FreshA.nils | exact FreshA.nilp | exact FreshA.int _ _ | exact FreshA.bool _ | exact FreshA.str _ | exact fresh_nil | refine fresh_cons ?_ ?_ | with_reducible refine fresh_aggR ?_ | with_reducible refine fresh_agg ?_ | with_reducible exact fresh_nilA | with_reducible refine fresh_consA ?_ ?_)); done)
    ))
    | ((conv => whnf) <;> (first
    | (with_reducible refine and_same ?_)
    | (with_reducible refine and_side ?_ ?_)
    | ((with_reducible apply Br.yes) ; (focus omega))
    | ((with_reducible apply Br.no) ; (focus omega))
    | (with_reducible refine Br.mk (fun _ => ?_) (fun _ => ?_))
    | (with_reducible refine NOut.lit ?_)
    ))
    )
  all_goals (conv => whnf)
  all_goals (try dsimp only)
  · exact ret_same (by rw [ndI, if_pos (by omega)])
  · have e0 : ((hol1 n.toNat : Nat) : Int) = n / 7 + 1 := by omega
    refine loop_at (α := Nat × Nat × AH) (fun a => [(0, .int .i64 a.1), (3, .int .i64 a.2.1)]) (fun a => a.2.2) (fun a => 1 ≤ a.1 ∧ a.1 ≤ 1317624576693539402 ∧ a.2.1 + ndT a.1 = hol1 n.toNat + ndT (hol1 n.toNat) ∧ a.2.1 ≤ 2635249153387078804) (fun a => a.1) (hol1 n.toNat, hol1 n.toNat, []) ⟨by dsimp only; omega, by dsimp only; omega, rfl, by dsimp only; omega⟩ (by dsimp only; rw [e0]; rfl) rfl ?_
    rintro ⟨m, t, σ⟩ ⟨hm1, hm2, ht, ht2⟩
    dsimp only at hm1 hm2 ht ht2 ⊢
    by_cases hlt : 1 < m
    · rw [ndT_more hlt] at ht
      have hm4 : hol m < m := by unfold hol; omega
      have hm5 : 1 ≤ hol m := by unfold hol; omega
      have hm6 : hol m = (m + 6) / 7 := rfl
      have hle2 := ndT_le (hol m)
      repeat' (first
        | ((with_reducible refine Side.intro ?_) <;> (first
        | omega
        ))
        | ((conv => whnf) <;> (first
        | (with_reducible refine and_same ?_)
        | (with_reducible refine and_side ?_ ?_)
        | ((with_reducible apply Br.yes) ; (focus omega))
        | (with_reducible refine Br.mk (fun _ => ?_) (fun _ => ?_))
        ))
        )
      all_goals (conv => whnf)
      all_goals (try dsimp only)
      all_goals exact ⟨(hol m, t + hol m, σ), by dsimp only [Fr.upd, Fr.pick]; congr 3 <;> (congr 2; omega), rfl, ⟨by omega, by omega, by dsimp only; omega, by dsimp only; omega⟩, by omega⟩
    · repeat' (first
        | ((with_reducible refine Side.intro ?_) <;> (first
        | (simp only [List.append_nil, List.nil_append, List.map_nil]; first | exact List.nodup_nil | exact nodup_bid1 _ | exact nodup_bid2 (by assumption))
        | ((first | refine fresh_tup ?_ | skip); (repeat (first | exact fresh_bk _ |  exact FreshA.sl _ _ FreshA_bs | exact FreshA.sl _ _ FreshA_is | exact FreshA.nils | exact FreshA.nilp | exact FreshA.int _ _ | exact FreshA.bool _ | exact FreshA.str _ | exact fresh_nil | refine fresh_cons ?_ ?_ | with_reducible refine fresh_aggR ?_ | with_reducible refine fresh_agg ?_ | with_reducible exact fresh_nilA | with_reducible refine fresh_consA ?_ ?_)); done)
        ))
        | ((conv => whnf) <;> (first
        | (with_reducible refine and_same ?_)
        | (with_reducible refine and_side ?_ ?_)
        | ((with_reducible apply Br.no) ; (focus omega))
        | (with_reducible refine NOut.lit ?_)
        ))
        )
      all_goals (conv => whnf)
      all_goals (try dsimp only)
      rw [ndT_one (by omega)] at ht
      exact ret_same (by rw [hN (by omega)]; congr 1; omega)
  · have e0 : ((hol1 n.toNat : Nat) : Int) = 1 := by omega
    refine loop_at (α := Nat × Nat × AH) (fun a => [(0, .int .i64 a.1), (3, .int .i64 a.2.1)]) (fun a => a.2.2) (fun a => 1 ≤ a.1 ∧ a.1 ≤ 1317624576693539402 ∧ a.2.1 + ndT a.1 = hol1 n.toNat + ndT (hol1 n.toNat) ∧ a.2.1 ≤ 2635249153387078804) (fun a => a.1) (hol1 n.toNat, hol1 n.toNat, []) ⟨by dsimp only; omega, by dsimp only; omega, rfl, by dsimp only; omega⟩ (by dsimp only; rw [e0]; rfl) rfl ?_
    rintro ⟨m, t, σ⟩ ⟨hm1, hm2, ht, ht2⟩
    dsimp only at hm1 hm2 ht ht2 ⊢
    by_cases hlt : 1 < m
    · rw [ndT_more hlt] at ht
      have hm4 : hol m < m := by unfold hol; omega
      have hm5 : 1 ≤ hol m := by unfold hol; omega
      have hm6 : hol m = (m + 6) / 7 := rfl
      have hle2 := ndT_le (hol m)
      repeat' (first
        | ((with_reducible refine Side.intro ?_) <;> (first
        | omega
        ))
        | ((conv => whnf) <;> (first
        | (with_reducible refine and_same ?_)
        | (with_reducible refine and_side ?_ ?_)
        | ((with_reducible apply Br.yes) ; (focus omega))
        | (with_reducible refine Br.mk (fun _ => ?_) (fun _ => ?_))
        ))
        )
      all_goals (conv => whnf)
      all_goals (try dsimp only)
      all_goals exact ⟨(hol m, t + hol m, σ), by dsimp only [Fr.upd, Fr.pick]; congr 3 <;> (congr 2; omega), rfl, ⟨by omega, by omega, by dsimp only; omega, by dsimp only; omega⟩, by omega⟩
    · repeat' (first
        | ((with_reducible refine Side.intro ?_) <;> (first
        | (simp only [List.append_nil, List.nil_append, List.map_nil]; first | exact List.nodup_nil | exact nodup_bid1 _ | exact nodup_bid2 (by assumption))
        | ((first | refine fresh_tup ?_ | skip); (repeat (first | exact fresh_bk _ |  exact FreshA.sl _ _ FreshA_bs | exact FreshA.sl _ _ FreshA_is | exact FreshA.nils | exact FreshA.nilp | exact FreshA.int _ _ | exact FreshA.bool _ | exact FreshA.str _ | exact fresh_nil | refine fresh_cons ?_ ?_ | with_reducible refine fresh_aggR ?_ | with_reducible refine fresh_agg ?_ | with_reducible exact fresh_nilA | with_reducible refine fresh_consA ?_ ?_)); done)
        ))
        | ((conv => whnf) <;> (first
        | (with_reducible refine and_same ?_)
        | (with_reducible refine and_side ?_ ?_)
        | ((with_reducible apply Br.no) ; (focus omega))
        | (with_reducible refine NOut.lit ?_)
        ))
        )
      all_goals (conv => whnf)
      all_goals (try dsimp only)
      rw [ndT_one (by omega)] at ht
      exact ret_same (by rw [hN (by omega)]; congr 1; omega)
  · have e0 : ((hol1 n.toNat : Nat) : Int) = n / 7 + n % 7 := by omega
    refine loop_at (α := Nat × Nat × AH) (fun a => [(0, .int .i64 a.1), (3, .int .i64 a.2.1)]) (fun a => a.2.2) (fun a => 1 ≤ a.1 ∧ a.1 ≤ 1317624576693539402 ∧ a.2.1 + ndT a.1 = hol1 n.toNat + ndT (hol1 n.toNat) ∧ a.2.1 ≤ 2635249153387078804) (fun a => a.1) (hol1 n.toNat, hol1 n.toNat, []) ⟨by dsimp only; omega, by dsimp only; omega, rfl, by dsimp only; omega⟩ (by dsimp only; rw [e0]; rfl) rfl ?_
    rintro ⟨m, t, σ⟩ ⟨hm1, hm2, ht, ht2⟩
    dsimp only at hm1 hm2 ht ht2 ⊢
    by_cases hlt : 1 < m
    · rw [ndT_more hlt] at ht
      have hm4 : hol m < m := by unfold hol; omega
      have hm5 : 1 ≤ hol m := by unfold hol; omega
      have hm6 : hol m = (m + 6) / 7 := rfl
      have hle2 := ndT_le (hol m)
      repeat' (first
        | ((with_reducible refine Side.intro ?_) <;> (first
        | omega
        ))
        | ((conv => whnf) <;> (first
        | (with_reducible refine and_same ?_)
        | (with_reducible refine and_side ?_ ?_)
        | ((with_reducible apply Br.yes) ; (focus omega))
        | (with_reducible refine Br.mk (fun _ => ?_) (fun _ => ?_))
        ))
        )
      all_goals (conv => whnf)
      all_goals (try dsimp only)
      all_goals exact ⟨(hol m, t + hol m, σ), by dsimp only [Fr.upd, Fr.pick]; congr 3 <;> (congr 2; omega), rfl, ⟨by omega, by omega, by dsimp only; omega, by dsimp only; omega⟩, by omega⟩
    · repeat' (first
        | ((with_reducible refine Side.intro ?_) <;> (first
        | (simp only [List.append_nil, List.nil_append, List.map_nil]; first | exact List.nodup_nil | exact nodup_bid1 _ | exact nodup_bid2 (by assumption))
        | ((first | refine fresh_tup ?_ | skip); (repeat (first | exact fresh_bk _ |  exact FreshA.sl _ _ FreshA_bs | exact FreshA.sl _ _ FreshA_is | exact FreshA.nils | exact FreshA.nilp | exact FreshA.int _ _ | exact FreshA.bool _ | exact FreshA.str _ | exact fresh_nil | refine fresh_cons ?_ ?_ | with_reducible refine fresh_aggR ?_ | with_reducible refine fresh_agg ?_ | with_reducible exact fresh_nilA | with_reducible refine fresh_consA ?_ ?_)); done)
        ))
        | ((conv => whnf) <;> (first
        | (with_reducible refine and_same ?_)
        | (with_reducible refine and_side ?_ ?_)
        | ((with_reducible apply Br.no) ; (focus omega))
        | (with_reducible refine NOut.lit ?_)
        ))
        )
      all_goals (conv => whnf)
      all_goals (try dsimp only)
      rw [ndT_one (by omega)] at ht
      exact ret_same (by rw [hN (by omega)]; congr 1; omega)
end Go.Proofs.Ythalikgchafjiaa

namespace Go.Proofs.Ythalikgchafjiaa
open Go Go.Proofs.Ythalikgchafjiaa.V
set_option maxRecDepth 20000
attribute [local irreducible] CallS AOK AOKn ALoop Side Ref.ok
theorem Same14_ok (L M : List (Int × Int × Int)) (hL : L.length ≤ 4611686018427) (hM : M.length ≤ 4611686018427) : AOKn Try.prog F.joistref14_Same [.sl 3 (bk L) false, .sl 3 (bk M) false] fun y => y = .bool (decide (L = M)) := by
  have hn := bk_length L
  have hm := bk_length M
  refine AOKn.by_steps mixed fc_joistref14_Same_ok (by simp [fc_joistref14_Same]) ?_
  repeat' (first
    | ((with_reducible refine Side.intro ?_) <;> (first
    | (simp only [List.append_nil, List.nil_append, List.map_nil]; first | exact List.nodup_nil | exact nodup_bid1 _ | exact nodup_bid2 (by assumption))
    | ((first | refine fresh_tup ?_ | skip); (repeat (first | exact fresh_bk _ |  exact FreshA.sl _ _ FreshA_bs | exact FreshA.sl _ _ FreshA_is | exact FreshA.nils | exact FreshA.nilp | exact FreshA.int _ _ | exact FreshA.bool _ | exact FreshA.str _ | exact fresh_nil | refine fresh_cons ?_ ?_ | with_reducible refine fresh_aggR ?_ | with_reducible refine fresh_agg ?_ | with_reducible exact fresh_nilA | with_reducible refine fresh_consA ?_ ?_)); done)
    ))
    | ((conv => whnf) <;> (first
    | (with_reducible refine and_same ?_)
    | (with_reducible refine and_side ?_ ?_)
    | (with_reducible refine Br.mk (fun _ => ?_) (fun _ => ?_))
    | (with_reducible refine NOut.lit ?_)
    | (with_reducible refine lenR_sl ?_)
    ))
    )
  all_goals (conv => whnf)
  all_goals (try dsimp only)
  · exact ret_bool (decide_eq_false fun e => by subst e; omega).symm
  · refine loop_at (α := Nat) (fun a => [(5, .int .i64 a)]) (fun a => []) (fun a => a ≤ L.length ∧ ∀ j, j < a → L[j]? = M[j]?) (fun a => L.length - a) 0 ⟨by omega, by simp⟩ rfl rfl ?_
    rintro i ⟨hi, hsame⟩
    by_cases hlt : i < L.length
    · obtain ⟨x, hx, hx'⟩ := getN (l := L) (k := i) hlt
      obtain ⟨y, hy, hy'⟩ := getN (l := M) (k := i) (by omega)
      repeat' (first
        | ((with_reducible refine Side.intro ?_) <;> (first
        | omega
        | exact Nat.le_of_ble_eq_true rfl
        | (simp only [List.append_nil, List.nil_append, List.map_nil]; first | exact List.nodup_nil | exact nodup_bid1 _ | exact nodup_bid2 (by assumption))
        | ((first | refine fresh_tup ?_ | skip); (repeat (first | exact fresh_bk _ |  exact FreshA.sl _ _ FreshA_bs | exact FreshA.sl _ _ FreshA_is | exact FreshA.nils | exact FreshA.nilp | exact FreshA.int _ _ | exact FreshA.bool _ | exact FreshA.str _ | exact fresh_nil | refine fresh_cons ?_ ?_ | with_reducible refine fresh_aggR ?_ | with_reducible refine fresh_agg ?_ | with_reducible exact fresh_nilA | with_reducible refine fresh_consA ?_ ?_)); done)
        ))
        | ((conv => whnf) <;> (first
        | (with_reducible refine and_same ?_)
        | (with_reducible refine and_side ?_ ?_)
        | ((with_reducible apply Br.yes) ; (focus omega))
        | (with_reducible refine Br.mk (fun _ => ?_) (fun _ => ?_))
        | ((with_reducible apply nthR_bk) ; (focus assumption))
        | (with_reducible refine ia_sl ?_ ?_)
        | (with_reducible refine NOut.lit ?_)
        | (with_reducible refine lenR_sl ?_)
        ))
        )
      all_goals (conv => whnf)
      all_goals (try dsimp only)
      · rename_i he
        have hxy : x = y := by
          obtain ⟨x1, x2, x3⟩ := x
          obtain ⟨y1, y2, y3⟩ := y
          obtain ⟨h1, h2, h3, _⟩ := he
          dsimp only at h1 h2 h3
          rw [h1, h2, h3]
        refine ⟨i + 1, rfl, rfl, ⟨by omega, fun j hj => ?_⟩, by omega⟩
        by_cases e : j = i
        · subst e; rw [hx', hy', hxy]
        · exact hsame j (by omega)
      · rename_i he
        refine ret_bool (decide_eq_false fun e => he ?_).symm
        subst e
        rw [hx'] at hy'
        cases hy'
        exact ⟨rfl, rfl, rfl, trivial⟩
    · repeat' (first
        | ((with_reducible refine Side.intro ?_) <;> (first
        | (simp only [List.append_nil, List.nil_append, List.map_nil]; first | exact List.nodup_nil | exact nodup_bid1 _ | exact nodup_bid2 (by assumption))
        | ((first | refine fresh_tup ?_ | skip); (repeat (first | exact fresh_bk _ |  exact FreshA.sl _ _ FreshA_bs | exact FreshA.sl _ _ FreshA_is | exact FreshA.nils | exact FreshA.nilp | exact FreshA.int _ _ | exact FreshA.bool _ | exact FreshA.str _ | exact fresh_nil | refine fresh_cons ?_ ?_ | with_reducible refine fresh_aggR ?_ | with_reducible refine fresh_agg ?_ | with_reducible exact fresh_nilA | with_reducible refine fresh_consA ?_ ?_)); done)
        ))
        | ((conv => whnf) <;> (first
        | (with_reducible refine and_same ?_)
        | (with_reducible refine and_side ?_ ?_)
        | ((with_reducible apply Br.no) ; (focus omega))
        | (with_reducible refine NOut.lit ?_)
        | (with_reducible refine lenR_sl ?_)
        ))
        )
      all_goals (conv => whnf)
      all_goals (try dsimp only)
      exact ret_bool (decide_eq_true (List.ext_getElem? fun j => by
        by_cases hj : j < i
        · exact hsame j hj
        · rw [List.getElem?_eq_none (by omega), List.getElem?_eq_none (by omega)])).symm
theorem extent_ok (a b : Int) (h0 : 0 ≤ b) (h1 : b ≤ 9223372036854775807) : AOKn Try.prog F.tree_extent [.agg [.int .i64 a, .int .i64 b]] fun y => y = .agg [.int .i64 a, .int .i64 (b / 4), .int .i64 (b % 4)] := by
  refine AOKn.by_steps mixed fc_tree_extent_ok (by simp [fc_tree_extent]) ?_
  repeat' (first
    | ((with_reducible refine Side.intro ?_) <;> (first
    | omega
    | exact Nat.le_of_ble_eq_true rfl
    | (simp only [List.append_nil, List.nil_append, List.map_nil]; first | exact List.nodup_nil | exact nodup_bid1 _ | exact nodup_bid2 (by assumption))
    | ((first | refine fresh_tup ?_ | skip); (repeat (first | exact fresh_bk _ |  exact FreshA.sl _ _ FreshA_bs | exact FreshA.sl _ _ FreshA_is | exact FreshA.nils | exact FreshA.nilp | exact FreshA.int _ _ | exact FreshA.bool _ | exact FreshA.str _ | exact fresh_nil | refine fresh_cons ?_ ?_ | with_reducible refine fresh_aggR ?_ | with_reducible refine fresh_agg ?_ | with_reducible exact fresh_nilA | with_reducible refine fresh_consA ?_ ?_)); done)
    | exact rfl
    ))
    | ((conv => whnf) <;> (first
    | (with_reducible refine and_same ?_)
    | (with_reducible refine and_side ?_ ?_)
    | ((with_reducible apply Br.yes) ; (focus omega))
    | ((with_reducible apply blkAt_step) ; (focus (first
    | exact rfl
    )) ; (focus (first | rfl | assumption | omega)) ; (focus (first | rfl | assumption)) ; (try dsimp only))
    | (with_reducible refine NOut.lit ?_)
    ))
    )
  all_goals (conv => whnf)
  all_goals (try dsimp only)
  exact ret_same rfl
theorem above_ok (n : Nat) (hn : n ≤ 4611686018427) : AOKn Try.prog F.joistref14_above [.int .i64 n] fun y => y = .int .i64 (hol1 n : Nat) := by
  refine AOKn.by_steps mixed fc_joistref14_above_ok (by simp [fc_joistref14_above]) ?_
  have hh : (hol1 n : Nat) = max 1 ((n + 6) / 7) := rfl
  repeat' (first
    | ((with_reducible refine Side.intro ?_) <;> (first
    | omega
    | (simp only [List.append_nil, List.nil_append, List.map_nil]; first | exact List.nodup_nil | exact nodup_bid1 _ | exact nodup_bid2 (by assumption))
    | ((first | refine fresh_tup ?_ | skip); (repeat (first | exact fresh_bk _ |  exact FreshA.sl _ _ FreshA_bs | exact FreshA.sl _ _ FreshA_is | exact FreshA.nils | exact FreshA.nilp | exact FreshA.int _ _ | exact FreshA.bool _ | exact FreshA.str _ | exact fresh_nil | refine fresh_cons ?_ ?_ | with_reducible refine fresh_aggR ?_ | with_reducible refine fresh_agg ?_ | with_reducible exact fresh_nilA | with_reducible refine fresh_consA ?_ ?_)); done)
    ))
    | ((conv => whnf) <;> (first
    | (with_reducible refine and_same ?_)
    | (with_reducible refine and_side ?_ ?_)
    | ((with_reducible apply Br.yes) ; (focus omega))
    | (with_reducible refine Br.mk (fun _ => ?_) (fun _ => ?_))
    | (with_reducible refine NOut.lit ?_)
    ))
    )
  all_goals (conv => whnf)
  all_goals (try dsimp only)
  all_goals exact ret_same (by congr 1; omega)
end Go.Proofs.Ythalikgchafjiaa

namespace Go.Proofs.Ythalikgchafjiaa
open Go Go.Proofs.Ythalikgchafjiaa.V
set_option maxRecDepth 20000
attribute [local irreducible] CallS AOK AOKn ALoop Side Ref.ok
theorem fresh_bs (s : List UInt8) : FreshR (.sl 1 (bs s) true) := FreshA.sl _ _ FreshA_bs
theorem bytes_Equal_val (σ : AH) (a b : Bool) (s t : List UInt8) (Q : AV → AH → Prop) (h1 : s = t → Q (.bool true) σ) (h2 : s ≠ t → Q (.bool false) σ) : CallS Try.prog F.bytes_Equal [.sl 1 (bs s) a, .sl 1 (bs t) b] σ Q := by
  refine call_of_body mixed fc_bytes_Equal_ok (by simp [fc_bytes_Equal]) ?_
  repeat' (first
    | ((conv => whnf) <;> (first
    | (with_reducible refine Br.mk (fun _ => ?_) (fun _ => ?_))
    | (with_reducible refine rowsR_sl ?_)
    | ((with_reducible apply bytesR_intro) ; (focus (first | rfl | (simp only [bs_take, bs_drop, bs_append]; rfl))))
    ))
    )
  all_goals (conv => whnf)
  all_goals (try dsimp only)
  · exact h1 ‹_›
  · exact h2 ‹_›
end Go.Proofs.Ythalikgchafjiaa

namespace Go.Proofs.Ythalikgchafjiaa
open Go Go.Proofs.Ythalikgchafjiaa.V
set_option maxRecDepth 20000
attribute [local irreducible] CallS AOK AOKn ALoop Side Ref.ok
theorem lent_rows (s : List UInt8) : List.take 0 (List.replicate ((s.length : Int) + 1).toNat [AV.int .u8 0]) ++ List.take (min s.length (s.length : Int).toNat) (bs s) ++ List.drop (0 + min s.length (s.length : Int).toNat) (List.replicate ((s.length : Int) + 1).toNat [AV.int .u8 0]) = bs (s ++ [0]) := by
  have e1 : ((s.length : Int) + 1).toNat = s.length + 1 := by omega
  have e2 : min s.length (s.length : Int).toNat = s.length := by omega
  rw [e1, e2, List.take_zero, List.nil_append, Nat.zero_add, List.drop_replicate, List.take_of_length_le (by rw [bs_length]; exact Nat.le_refl _), show s.length + 1 - s.length = 1 from by omega]
  simp [bs]
theorem Lent_val (σ : AH) (s : List UInt8) (fr : Bool) (hs : s.length ≤ 4611686018427) (Q : AV → AH → Prop) (h : Q (.rsl σ.length 0 0 s.length none) (σ ++ [{ sz := 1, els := bs (s ++ [77]), gen := 0, wr := true, pure := true }])) : CallS Try.prog F.joistlaw01_Lent [.sl 1 (bs s) fr] σ Q := by
  have hn := bs_length s
  refine call_of_body mixed fc_joistlaw01_Lent_ok (by simp [fc_joistlaw01_Lent]) ?_
  repeat' (first
    | ((with_reducible refine Side.intro ?_) <;> (first
    | omega
    | (simp only [bs_length, List.length_append, List.length_cons, List.length_nil, List.length_take, List.length_drop, List.length_set, List.length_replicate]; omega)
    | exact .inr (.inl ⟨rfl, by (simp only [bs_length, List.length_append, List.length_cons, List.length_nil, List.length_take, List.length_drop, List.length_set, List.length_replicate]; omega)⟩)
    | exact rfl
    ))
    | ((conv => whnf) <;> (first
    | (with_reducible refine and_same ?_)
    | (with_reducible refine and_side ?_ ?_)
    | ((with_reducible apply Br.yes) ; (focus omega))
    | ((with_reducible apply blkAt_step) ; (focus (first
    | ((repeat (first
    | exact get_new
    | exact get_set get_new
    )); done)
    )) ; (focus (first | rfl | assumption | omega)) ; (focus (first | rfl | assumption)) ; (try dsimp only))
    | (with_reducible refine IaW.of ?_)
    | (with_reducible refine SliceW.of ?_)
    | (with_reducible refine CopyW.of ?_)
    | (with_reducible refine lenR_sl ?_)
    | (with_reducible refine rowsR_sl ?_)
    ))
    )
  all_goals (conv => whnf)
  all_goals (try dsimp only)
  try rw [bs_length]
  rw [lent_rows]
  repeat' (first
    | ((with_reducible refine Side.intro ?_) <;> (first
    | exact Nat.le_of_ble_eq_true rfl
    ))
    | ((conv => whnf) <;> (first
    | (with_reducible refine and_side ?_ ?_)
    | ((with_reducible apply nthR_bs) ; (focus (first | omega | (simp only [List.length_append, List.length_cons, List.length_nil, List.length_take, List.length_drop, bs_length]; omega))))
    | (with_reducible intro _)
    ))
    )
  all_goals (conv => whnf)
  all_goals (try dsimp only)
  have e : (bs (s ++ [0])).set (0 + Int.toNat 0 + (s.length : Int).toNat) [.int .u8 77] = bs (s ++ [77]) := by
    have := bs_set (s ++ [0]) s.length 77
    simpa [Int.toNat_natCast] using this
  have e4 : ∀ (b b1 b2 : Blk), ((σ ++ [b]).set σ.length b1).set σ.length b2 = σ ++ [b2] := by
    intro b b1 b2
    simp
  unfold newB
  rw [e4]
  rw [e]
  exact h
theorem Kept_val (σ : AH) (s : List UInt8) (id gen : Nat) (sp : List UInt8) (fr : Bool) (hs : s.length ≤ 4611686018427) (hb : σ[id]? = some { sz := 1, els := bs (s ++ 77 :: sp), gen := gen, wr := true, pure := true }) (Q : AV → AH → Prop) (h : Q (.bool true) σ) : CallS Try.prog F.joistlaw01_Kept [.rsl id gen 0 s.length none, .sl 1 (bs s) fr] σ Q := by
  have hn := bs_length s
  refine call_of_body mixed fc_joistlaw01_Kept_ok (by simp [fc_joistlaw01_Kept]) ?_
  repeat' (first
    | ((with_reducible refine Side.intro ?_) <;> (first
    | omega
    | (simp only [bs_length, List.length_append, List.length_cons, List.length_nil, List.length_take, List.length_drop, List.length_set, List.length_replicate]; omega)
    | exact .inr (.inl ⟨rfl, by (simp only [bs_length, List.length_append, List.length_cons, List.length_nil, List.length_take, List.length_drop, List.length_set, List.length_replicate]; omega)⟩)
    ))
    | ((conv => whnf) <;> (first
    | (with_reducible refine and_same ?_)
    | (with_reducible refine and_side ?_ ?_)
    | ((with_reducible apply Br.yes) ; (focus omega))
    | (with_reducible refine Br.mk (fun _ => ?_) (fun _ => ?_))
    | ((with_reducible apply blkAt_step) ; (focus (first
    | ((repeat (first
    | assumption
    )); done)
    )) ; (focus (first | rfl | assumption | omega)) ; (focus (first | rfl | assumption)) ; (try dsimp only))
    | (with_reducible refine IaW.of ?_)
    | (with_reducible refine SliceW.of ?_)
    | (with_reducible refine lenR_sl ?_)
    | (with_reducible refine rowsR_sl ?_)
    | (with_reducible refine rowsR_rsl ?_)
    | ((with_reducible apply bytesR_intro) ; (focus (first | rfl | (simp only [bs_take, bs_drop, bs_append]; rfl))))
    | ((with_reducible apply nthR_bs) ; (focus (first | omega | (simp only [List.length_append, List.length_cons, List.length_nil, List.length_take, List.length_drop, bs_length]; omega))))
    | (with_reducible intro _)
    ))
    )
  all_goals (conv => whnf)
  all_goals (try dsimp only)
  · exact h
  · rename_i b hl hx hne
    refine absurd ?_ hne
    rw [show 0 + Int.toNat 0 + ((bs s).length : Int).toNat = s.length from by omega] at hl
    have hb : b = 77 := by simpa using hl.symm
    rw [hb]; rfl
  · rename_i hne
    exact absurd (by simp) hne
/-- A slice whose block's whole room is told. -/
def OwnF (σ : AH) (x : AV) (els : List (List AV)) : Prop :=
  (x = .nils ∧ els = []) ∨ ∃ id gen len, x = .rsl id gen 0 len none ∧ len ≤ els.length ∧ (∀ r, r ∈ els → r.length = 1) ∧ σ[id]? = some { sz := 1, els := els, gen := gen, wr := true, pure := true, full := true }
/-- Rows all of one byte. -/
def allOf (n : Nat) (v : Int) : List (List AV) := List.replicate n [.int .u8 (v % 256)]
/-- Blocks that are none of these stand. -/
def Els (σ σ' : AH) (xs : List AV) : Prop := σ.length ≤ σ'.length ∧ ∀ id b, σ[id]? = some b → (∀ (j : Nat) (x : AV), xs[j]? = some x → x.bid ≠ some id) → σ'[id]? = some b
structure OwnedI (σ σ1 : AH) (xs : List AV) (ns : Nat → Nat) (i : Nat) : Prop where
  els : Els σ σ1 xs
  le : i ≤ xs.length
  own : ∀ (j : Nat) (x : AV), xs[j]? = some x → ∃ els, els.length = ns j ∧ (j < i → els = allOf (ns j) (j + 1)) ∧ OwnF σ1 x els
theorem OwnF.set {σ : AH} {y : AV} {e : List (List AV)} (h : OwnF σ y e) {id : Nat} (hb : y.bid ≠ some id) (B : Blk) : OwnF (σ.set id B) y e := by
  rcases h with h | ⟨id', gen, len, rfl, h1, h2, h3⟩
  · exact .inl h
  · refine .inr ⟨id', gen, len, rfl, h1, h2, ?_⟩
    exact get_set_ne (fun e => hb (by rw [e]; rfl)) h3
theorem OwnedI.next {σ σ1 : AH} {xs : List AV} {ns : Nat → Nat} {i : Nat} (h : OwnedI σ σ1 xs ns i) {id gen len : Nat} {b : Blk} (hxi : xs[i]? = some (.rsl id gen 0 len none)) (hle : len ≤ ns i) (hb : σ1[id]? = some b)
    (hd : ∀ (j k : Nat) (x y : AV), xs[j]? = some x → xs[k]? = some y → j ≠ k → x.bid = none ∨ x.bid ≠ y.bid) :
    OwnedI σ (σ1.set id { sz := 1, els := allOf (ns i) (i + 1), gen := gen, wr := true, pure := true, full := true }) xs ns (i + 1) := by
  refine ⟨⟨by simpa using h.els.1, fun id' b' hb' hne => get_set_ne (fun e => hne i _ hxi (by rw [← e]; rfl)) (h.els.2 id' b' hb' hne)⟩, (List.getElem?_eq_some_iff.1 hxi).1, ?_⟩
  intro j x hj
  by_cases e : j = i
  · subst e
    rw [hxi] at hj; cases hj
    refine ⟨allOf (ns j) (j + 1), by simp [allOf], fun _ => rfl, .inr ⟨id, gen, len, rfl, by simpa [allOf] using hle, ?_, get_set hb⟩⟩
    intro r hr
    rw [(List.mem_replicate.1 hr).2]; rfl
  · obtain ⟨els, h1, h2, h3⟩ := h.own j x hj
    refine ⟨els, h1, fun hlt => h2 (by omega), h3.set ?_ _⟩
    rcases hd j i _ _ hj hxi e with q | q
    · rw [q]; simp
    · exact q
theorem OwnedI.nil {σ σ1 : AH} {xs : List AV} {ns : Nat → Nat} {i : Nat} (h : OwnedI σ σ1 xs ns i) (hxi : xs[i]? = some .nils) (hn : ns i = 0) : OwnedI σ σ1 xs ns (i + 1) := by
  refine ⟨h.els, (List.getElem?_eq_some_iff.1 hxi).1, ?_⟩
  intro j x hj
  obtain ⟨els, h1, h2, h3⟩ := h.own j x hj
  refine ⟨els, h1, fun hlt => ?_, h3⟩
  by_cases e : j = i
  · subst e
    rw [hn] at h1 ⊢
    rw [List.length_eq_zero_iff.1 h1]; rfl
  · exact h2 (by omega)
theorem set_same {σ : AH} {id : Nat} {b : Blk} (h : σ[id]? = some b) : σ = σ.set id b := by
  apply List.ext_getElem?
  intro j
  by_cases e : id = j
  · subst e; rw [h]; exact (get_set h).symm
  · rw [List.getElem?_set_ne e]
theorem nthR_xs {xs : List AV} {i : Nat} {x : AV} {K : List AV → Prop} (h : xs[i]? = some x) (hk : K [x]) : nthR (xs.map fun x => [x]) (i : Int).toNat K :=
  nthR_intro (x := [x]) (by simp [h]) hk
theorem Owned_val (σ : AH) (xs : List AV) (idr gr : Nat) (pu wr fu : Bool) (hr : σ[idr]? = some { sz := 1, els := xs.map fun x => [x], gen := gr, wr := wr, pure := pu, full := fu })
    (ns : Nat → Nat) (hx : ∀ (j : Nat) (x : AV), xs[j]? = some x → ∃ els, els.length = ns j ∧ OwnF σ x els)
    (hd : ∀ (j k : Nat) (x y : AV), xs[j]? = some x → xs[k]? = some y → j ≠ k → x.bid = none ∨ x.bid ≠ y.bid) (hd0 : ∀ (j : Nat) (x : AV), xs[j]? = some x → x.bid ≠ some idr) (hl : xs.length ≤ 4611686018427) (hns : ∀ j, j < xs.length → ns j ≤ 9223372036854775807)
    (Q : AV → AH → Prop) (h : ∀ σ', Els σ σ' xs → Q (.bool true) σ') : CallS Try.prog F.joistlaw01_Owned [.rsl idr gr 0 xs.length none] σ Q := by
  refine call_of_body mixed fc_joistlaw01_Owned_ok (by simp [fc_joistlaw01_Owned]) ?_
  skip
  all_goals (conv => whnf)
  all_goals (try dsimp only)
  refine loop_by (α := Nat × AH) (fun a => [(0, .rsl idr gr 0 xs.length none), (3, .int .i64 a.1)]) (fun a => a.2) (fun a => OwnedI σ a.2 xs ns a.1) (fun a => xs.length - a.1) ?_ (0, σ)
    ⟨⟨Nat.le_refl _, fun _ _ h _ => h⟩, by simp, fun j x hj => by obtain ⟨els, h1, h2⟩ := hx j x hj; exact ⟨els, h1, by omega, h2⟩⟩ rfl rfl
  rintro ⟨i, σ1⟩ hI
  dsimp only at hI ⊢
  have hr1 : σ1[idr]? = some { sz := 1, els := xs.map fun x => [x], gen := gr, wr := wr, pure := pu, full := fu } := hI.els.2 _ _ hr hd0
  have hi := hI.le
  repeat' (first
    | ((with_reducible refine Side.intro ?_) <;> (first
    | omega
    ))
    | ((conv => whnf) <;> (first
    | (with_reducible refine and_same ?_)
    | (with_reducible refine and_side ?_ ?_)
    | (with_reducible refine Br.mk (fun _ => ?_) (fun _ => ?_))
    | ((with_reducible apply blkAt_step) ; (focus (first
    | ((repeat (first
    | assumption
    )); done)
    )) ; (focus (first | rfl | assumption | omega)) ; (focus (first | rfl | assumption)) ; (try dsimp only))
    | (with_reducible refine IaW.of ?_)
    | (with_reducible refine nthR_z ?_)
    | (with_reducible refine lenR_rsl ?_)
    ))
    )
  all_goals (conv => whnf)
  all_goals (try dsimp only)
  · have hil : i < xs.length := by omega
    have hxi : xs[i]? = some xs[i] := List.getElem?_eq_getElem hil
    have hni := hns i hil
    obtain ⟨els, hel, _, ho⟩ := hI.own i _ hxi
    generalize xs[i] = x at *
    refine nthR_xs hxi ?_
    repeat' (first
      | ((with_reducible refine Side.intro ?_) <;> (first
      | omega
      ))
      | ((conv => whnf) <;> (first
      | (with_reducible refine and_same ?_)
      | (with_reducible refine and_side ?_ ?_)
      | ((with_reducible apply blkAt_step) ; (focus (first
      | ((repeat (first
      | assumption
      )); done)
      )) ; (focus (first | rfl | assumption | omega)) ; (focus (first | rfl | assumption)) ; (try dsimp only))
      | (with_reducible refine IaW.of ?_)
      | (with_reducible refine nthR_z ?_)
      ))
      )
    all_goals (conv => whnf)
    all_goals (try dsimp only)
    refine nthR_xs hxi ?_
    rcases ho with ⟨rfl, rfl⟩ | ⟨id, gen, len, rfl, hle, hone, hb⟩
    · repeat' (first
        | ((with_reducible refine Side.intro ?_) <;> (first
        | omega
        ))
        | ((conv => whnf) <;> (first
        | (with_reducible refine and_same ?_)
        | (with_reducible refine and_side ?_ ?_)
        | (with_reducible refine SliceW.of ?_)
        ))
        )
      all_goals (conv => whnf)
      all_goals (try dsimp only)
      refine loop_by (α := Unit) (fun a => [(0, .rsl idr gr 0 xs.length none), (3, .int .i64 i), (4, .nils), (5, .int .i64 0)]) (fun a => σ1) (fun a => True) (fun a => 0) ?_ () trivial rfl rfl
      rintro ⟨⟩ _
      repeat' (first
        | ((conv => whnf) <;> (first
        | (with_reducible refine and_same ?_)
        | ((with_reducible apply Br.yes) ; (focus omega))
        | ((with_reducible apply Br.no) ; (focus omega))
        | (with_reducible refine lenR_nils ?_)
        ))
        )
      all_goals (conv => whnf)
      all_goals (try dsimp only)
      exact ⟨(i + 1, σ1), rfl, rfl, hI.nil hxi hel.symm, by dsimp only; omega⟩
    · repeat' (first
        | ((with_reducible refine Side.intro ?_) <;> (first
        | omega
        | (simp; done)
        ))
        | ((conv => whnf) <;> (first
        | (with_reducible refine and_same ?_)
        | (with_reducible refine and_side ?_ ?_)
        | ((with_reducible apply blkAt_step) ; (focus (first
        | ((repeat (first
        | assumption
        )); done)
        )) ; (focus (first | rfl | assumption | omega)) ; (focus (first | rfl | assumption)) ; (try dsimp only))
        | (with_reducible refine SliceW.of ?_)
        ))
        )
      all_goals (conv => whnf)
      all_goals (try dsimp only)
      refine loop_by (α := Nat × List (List AV)) (fun a => [(0, .rsl idr gr 0 xs.length none), (3, .int .i64 i), (4, .rsl id gen 0 (ns i) none), (5, .int .i64 a.1)])
        (fun a => σ1.set id { sz := 1, els := a.2, gen := gen, wr := true, pure := true, full := true })
        (fun a => a.1 ≤ ns i ∧ a.2.length = ns i ∧ (∀ r, r ∈ a.2 → r.length = 1) ∧ a.2.take a.1 = allOf a.1 (i + 1)) (fun a => ns i - a.1) ?_ (0, els) ⟨by omega, hel, hone, rfl⟩ (by simp [hel]) ?_
      · rintro ⟨k, e2⟩ ⟨hk, hl2, hone2, htk⟩
        dsimp only at hk hl2 hone2 htk ⊢
        have hb2 : (σ1.set id { sz := 1, els := e2, gen := gen, wr := true, pure := true, full := true })[id]? = some { sz := 1, els := e2, gen := gen, wr := true, pure := true, full := true } := get_set hb
        repeat' (first
          | ((with_reducible refine Side.intro ?_) <;> (first
          | omega
          | exact rfl
          ))
          | ((conv => whnf) <;> (first
          | (with_reducible refine and_same ?_)
          | (with_reducible refine and_side ?_ ?_)
          | ((with_reducible apply Br.yes) ; (focus omega))
          | (with_reducible refine Br.mk (fun _ => ?_) (fun _ => ?_))
          | ((with_reducible apply blkAt_step) ; (focus (first
          | ((repeat (first
          | assumption
          )); done)
          )) ; (focus (first | rfl | assumption | omega)) ; (focus (first | rfl | assumption)) ; (try dsimp only))
          | (with_reducible refine IaW.of ?_)
          | (with_reducible refine nthR_z ?_)
          | (with_reducible refine lenR_rsl ?_)
          ))
          )
        all_goals (conv => whnf)
        all_goals (try dsimp only)
        · have hkl : k < e2.length := by omega
          refine nthR_intro (x := e2[k]) (by simp [hkl]) ?_
          have hr1 := hone2 e2[k] (by simp)
          repeat' (first
            | ((conv => whnf) <;> (first
            | (with_reducible refine and_side ?_ ?_)
            ))
            )
          all_goals (conv => whnf)
          all_goals (try dsimp only)
          have elay : lay e2[k] 0 (AV.int .u8 (((i : Int) + 1) % 256)).cells = [.int .u8 (((i : Int) + 1) % 256)] := by
            unfold lay
            rw [List.take_zero, List.nil_append, List.drop_of_length_le (by rw [hr1]; exact Nat.le_refl _)]
            rfl
          rotate_left
          · rw [hr1]; exact Side.intro (Nat.le_refl _)
          rw [layK_eq, elay]
          repeat' (first
            | ((conv => whnf) <;> (first
            | (with_reducible refine and_same ?_)
            | ((with_reducible apply Br.yes) ; (focus omega))
            ))
            )
          all_goals (conv => whnf)
          all_goals (try dsimp only)
          refine ⟨(k + 1, e2.set k [.int .u8 (((i : Int) + 1) % 256)]), rfl, ?_, ⟨by dsimp only; omega, by simpa using hl2, ?_, ?_⟩, by dsimp only; omega⟩
          · rw [List.set_set, show 0 + (k : Int).toNat = k from by omega]
            rfl
          · intro r hr
            rcases List.mem_or_eq_of_mem_set hr with q | q
            · exact hone2 r q
            · rw [q]; rfl
          · dsimp only
            rw [List.take_add_one, List.take_set_of_le (Nat.le_refl _), htk]
            simp [hkl, allOf, List.replicate_succ']
        · have hkn : k = ns i := by omega
          have he2 : e2 = allOf (ns i) (i + 1) := by
            rw [hkn, List.take_of_length_le (by omega)] at htk
            exact htk
          refine ⟨(i + 1, _), rfl, rfl, ?_, by dsimp only; omega⟩
          dsimp only
          rw [he2]
          exact hI.next hxi (by omega) hb hd
      · exact set_same hb
  have hix : i = xs.length := by omega
  refine loop_by (α := Nat) (fun a => [(0, .rsl idr gr 0 xs.length none), (6, .int .i64 a)]) (fun a => σ1) (fun a => a ≤ xs.length) (fun a => xs.length - a) ?_ 0 (by omega) rfl rfl
  intro m hm
  repeat' (first
    | ((with_reducible refine Side.intro ?_) <;> (first
    | omega
    ))
    | ((conv => whnf) <;> (first
    | (with_reducible refine and_same ?_)
    | (with_reducible refine and_side ?_ ?_)
    | (with_reducible refine Br.mk (fun _ => ?_) (fun _ => ?_))
    | ((with_reducible apply blkAt_step) ; (focus (first
    | ((repeat (first
    | assumption
    )); done)
    )) ; (focus (first | rfl | assumption | omega)) ; (focus (first | rfl | assumption)) ; (try dsimp only))
    | (with_reducible refine IaW.of ?_)
    | (with_reducible refine nthR_z ?_)
    | (with_reducible refine lenR_rsl ?_)
    ))
    )
  all_goals (conv => whnf)
  all_goals (try dsimp only)
  · have hml : m < xs.length := by omega
    have hxm : xs[m]? = some xs[m] := List.getElem?_eq_getElem hml
    have hnm := hns m hml
    obtain ⟨els, hel, hall, ho⟩ := hI.own m _ hxm
    generalize xs[m] = x at *
    have hall := hall (by omega)
    refine nthR_xs hxm ?_
    repeat' (first
      | ((with_reducible refine Side.intro ?_) <;> (first
      | omega
      ))
      | ((conv => whnf) <;> (first
      | (with_reducible refine and_same ?_)
      | (with_reducible refine and_side ?_ ?_)
      | ((with_reducible apply blkAt_step) ; (focus (first
      | ((repeat (first
      | assumption
      )); done)
      )) ; (focus (first | rfl | assumption | omega)) ; (focus (first | rfl | assumption)) ; (try dsimp only))
      | (with_reducible refine IaW.of ?_)
      | (with_reducible refine nthR_z ?_)
      ))
      )
    all_goals (conv => whnf)
    all_goals (try dsimp only)
    refine nthR_xs hxm ?_
    rcases ho with ⟨rfl, rfl⟩ | ⟨id, gen, len, rfl, hle, hone, hb⟩
    · repeat' (first
        | ((with_reducible refine Side.intro ?_) <;> (first
        | omega
        ))
        | ((conv => whnf) <;> (first
        | (with_reducible refine and_same ?_)
        | (with_reducible refine and_side ?_ ?_)
        | (with_reducible refine SliceW.of ?_)
        ))
        )
      all_goals (conv => whnf)
      all_goals (try dsimp only)
      refine loop_by (α := Unit) (fun a => [(0, .rsl idr gr 0 xs.length none), (6, .int .i64 m), (7, .nils), (8, .int .i64 0)]) (fun a => σ1) (fun a => True) (fun a => 0) ?_ () trivial rfl rfl
      rintro ⟨⟩ _
      repeat' (first
        | ((conv => whnf) <;> (first
        | (with_reducible refine and_same ?_)
        | ((with_reducible apply Br.yes) ; (focus omega))
        | ((with_reducible apply Br.no) ; (focus omega))
        | (with_reducible refine lenR_nils ?_)
        ))
        )
      all_goals (conv => whnf)
      all_goals (try dsimp only)
      exact ⟨m + 1, rfl, rfl, hml, by omega⟩
    · repeat' (first
        | ((with_reducible refine Side.intro ?_) <;> (first
        | omega
        | (simp; done)
        ))
        | ((conv => whnf) <;> (first
        | (with_reducible refine and_same ?_)
        | (with_reducible refine and_side ?_ ?_)
        | ((with_reducible apply blkAt_step) ; (focus (first
        | ((repeat (first
        | assumption
        )); done)
        )) ; (focus (first | rfl | assumption | omega)) ; (focus (first | rfl | assumption)) ; (try dsimp only))
        | (with_reducible refine SliceW.of ?_)
        ))
        )
      all_goals (conv => whnf)
      all_goals (try dsimp only)
      refine loop_by (α := Nat) (fun a => [(0, .rsl idr gr 0 xs.length none), (6, .int .i64 m), (7, .rsl id gen 0 (ns m) none), (8, .int .i64 a)]) (fun a => σ1)
        (fun a => a ≤ ns m) (fun a => ns m - a) ?_ 0 (by omega) (by simp [hel]) rfl
      intro k hk
      repeat' (first
        | ((with_reducible refine Side.intro ?_) <;> (first
        | omega
        ))
        | ((conv => whnf) <;> (first
        | (with_reducible refine and_same ?_)
        | (with_reducible refine and_side ?_ ?_)
        | ((with_reducible apply Br.yes) ; (focus omega))
        | (with_reducible refine Br.mk (fun _ => ?_) (fun _ => ?_))
        | ((with_reducible apply blkAt_step) ; (focus (first
        | ((repeat (first
        | assumption
        )); done)
        )) ; (focus (first | rfl | assumption | omega)) ; (focus (first | rfl | assumption)) ; (try dsimp only))
        | (with_reducible refine IaW.of ?_)
        | (with_reducible refine nthR_z ?_)
        | (with_reducible refine lenR_rsl ?_)
        ))
        )
      all_goals (conv => whnf)
      all_goals (try dsimp only)
      · refine nthR_intro (x := [.int .u8 (((m : Int) + 1) % 256)]) (by rw [hall]; simp [allOf, List.getElem?_replicate]; omega) ?_
        repeat' (first
          | ((conv => whnf) <;> (first
          | (with_reducible refine and_same ?_)
          | ((with_reducible apply Br.yes) ; (focus omega))
          | ((with_reducible apply Br.no) ; (focus omega))
          ))
          )
        all_goals (conv => whnf)
        all_goals (try dsimp only)
        exact ⟨k + 1, rfl, rfl, by omega, by omega⟩
      · exact ⟨m + 1, rfl, rfl, hml, by omega⟩
  · exact h _ hI.els
theorem Els.refl (σ : AH) (xs : List AV) : Els σ σ xs := ⟨Nat.le_refl _, fun _ _ h _ => h⟩
/-- The state while rooms are shown one after another. -/
structure RvI (σ σ1 : AH) (xs : List AV) (k : Nat) : Prop where
  els : Els σ σ1 xs
  full : ∀ (j : Nat) (x : AV), xs[j]? = some x → j < k → ∃ els, els.length ≤ 9223372036854775807 ∧ OwnF σ1 x els
  rest : ∀ (j : Nat) (x : AV), xs[j]? = some x → k ≤ j → ∃ rows, Own σ1 1 x rows
theorem Owned_own (σ : AH) (xs : List AV) (idr gr : Nat) (pu wr fu : Bool) (hr : σ[idr]? = some { sz := 1, els := xs.map fun x => [x], gen := gr, wr := wr, pure := pu, full := fu })
    (ho : ∀ (j : Nat) (x : AV), xs[j]? = some x → ∃ rows, Own σ 1 x rows)
    (hd : ∀ (j k : Nat) (x y : AV), xs[j]? = some x → xs[k]? = some y → j ≠ k → x.bid = none ∨ x.bid ≠ y.bid) (hd0 : ∀ (j : Nat) (x : AV), xs[j]? = some x → x.bid ≠ some idr) (hl : xs.length ≤ 4611686018427)
    (Q : AV → AH → Prop) (h : ∀ σ', Els σ σ' xs → Q (.bool true) σ') : CallS Try.prog F.joistlaw01_Owned [.rsl idr gr 0 xs.length none] σ Q := by
  have key : ∀ (m k : Nat) (σ1 : AH), m = xs.length - k → k ≤ xs.length → RvI σ σ1 xs k → CallS Try.prog F.joistlaw01_Owned [.rsl idr gr 0 xs.length none] σ1 Q := by
    intro m
    induction m with
    | zero =>
      intro k σ1 hm hk hI
      have hkl : k = xs.length := by omega
      have hch : ∀ j : Nat, ∃ n : Nat, ∀ x, xs[j]? = some x → n ≤ 9223372036854775807 ∧ ∃ els, els.length = n ∧ OwnF σ1 x els := by
        intro j
        cases hj : xs[j]? with
        | none => exact ⟨0, fun x hx => by cases hx⟩
        | some x =>
          obtain ⟨els, h1, h2⟩ := hI.full j x hj (by rw [hkl]; exact (List.getElem?_eq_some_iff.1 hj).1)
          exact ⟨els.length, fun y hy => by cases hy; exact ⟨h1, els, rfl, h2⟩⟩
      obtain ⟨ns, hns⟩ := Classical.axiomOfChoice hch
      refine Owned_val σ1 xs idr gr pu wr fu (hI.els.2 _ _ hr hd0) ns (fun j x hj => (hns j x hj).2) hd hd0 hl (fun j hj => (hns j _ (List.getElem?_eq_getElem hj)).1) Q ?_
      intro σ' hσ'
      exact h σ' ⟨Nat.le_trans hI.els.1 hσ'.1, fun id b hb hn => hσ'.2 id b (hI.els.2 id b hb hn) hn⟩
    | succ m ih =>
      intro k σ1 hm hk hI
      have hkl : k < xs.length := by omega
      have hxk : xs[k]? = some xs[k] := List.getElem?_eq_getElem hkl
      obtain ⟨rows, hrow⟩ := hI.rest k _ hxk (Nat.le_refl _)
      rcases hrow with ⟨hx, rfl⟩ | ⟨id, gen, sp, hx, hb⟩
      · refine ih (k + 1) σ1 (by omega) (by omega) ⟨hI.els, ?_, fun j x hj hkj => hI.rest j x hj (by omega)⟩
        intro j x hj hlt
        by_cases e : j = k
        · subst e
          rw [hxk] at hj; cases hj
          exact ⟨[], by simp, .inl ⟨hx, rfl⟩⟩
        · exact hI.full j x hj (by omega)
      · refine CallS.reveal (bodied_of fc_joistlaw01_Owned_ok) hb fun n hn hone => ih (k + 1) _ (by omega) (by omega) ⟨⟨by simpa using hI.els.1, ?_⟩, ?_, ?_⟩
        · intro i b hbi hne
          exact get_set_ne (fun e => hne k _ hxk (by rw [hx, ← e]; rfl)) (hI.els.2 i b hbi hne)
        · intro j x hj hlt
          by_cases e : j = k
          · subst e
            rw [hxk] at hj; cases hj
            refine ⟨_, ?_, .inr ⟨id, gen, _, hx, ?_, ?_, get_set hb⟩⟩
            · simp only [List.length_append, List.length_replicate] at hn ⊢; omega
            · simp
            · intro r hr
              rcases List.mem_append.1 hr with q | q
              · exact hone r q
              · rw [(List.mem_replicate.1 q).2]; rfl
          · obtain ⟨els, h1, h2⟩ := hI.full j x hj (by omega)
            refine ⟨els, h1, h2.set ?_ _⟩
            rcases hd j k _ _ hj hxk e with q | q
            · rw [q]; simp
            · rw [hx] at q; exact q
        · intro j x hj hkj
          obtain ⟨rows', h2⟩ := hI.rest j x hj (by omega)
          refine ⟨rows', h2.keep (Gr.set _ _ _) ?_⟩
          rcases hd j k _ _ hj hxk (by omega) with q | q
          · exact .inl q
          · rw [hx] at q; exact .inr fun e => q e.symm
  exact key _ 0 σ rfl (Nat.zero_le _) ⟨Els.refl _ _, fun j x hj hlt => by omega, fun j x hj _ => ho j x hj⟩
/-- What stands behind it. -/
theorem Own.els {σ σ' : AH} {xs : List AV} (h : Els σ σ' xs) {sz : Nat} {x : AV} {rows : List (List AV)} (ho : Own σ sz x rows) (hd : ∀ (j : Nat) (y : AV), xs[j]? = some y → x.bid = none ∨ y.bid ≠ x.bid) : Own σ' sz x rows := by
  rcases ho with ⟨rfl, h'⟩ | ⟨id, gen, sp, rfl, hb⟩
  · exact .inl ⟨rfl, h'⟩
  · refine .inr ⟨id, gen, sp, rfl, h.2 _ _ hb fun j y hj e => ?_⟩
    rcases hd j y hj with q | q
    · cases q
    · exact q e
end Go.Proofs.Ythalikgchafjiaa

namespace Go.Proofs.Ythalikgchafjiaa
open Go Go.Proofs.Ythalikgchafjiaa.V
set_option maxRecDepth 20000
attribute [local irreducible] CallS AOK AOKn ALoop Side Ref.ok
/-! ### Words, plain -/
def wd (s : List UInt8) (i : Nat) : List UInt8 := (s.drop (i * 8)).take 8
def val : List UInt8 → Nat
  | [] => 0
  | b :: w => b.toNat + 256 * val w
def okW (w : List UInt8) : Bool := decide ((w.getD 7 0).toNat < 64)
def le : Nat → Nat → List UInt8
  | 0, _ => []
  | k + 1, n => UInt8.ofNat n :: le k (n / 256)
theorem le_length : ∀ (k n : Nat), (le k n).length = k
  | 0, _ => rfl
  | k + 1, n => by simp [le, le_length k]
theorem le_get : ∀ (k n j : Nat), j < k → (le k n)[j]? = some (UInt8.ofNat (n / 256 ^ j))
  | 0, n, j, h => by omega
  | k + 1, n, 0, h => by simp [le]
  | k + 1, n, j + 1, h => by
    simp only [le, List.getElem?_cons_succ]
    rw [le_get k (n / 256) j (by omega), Nat.div_div_eq_div_mul, Nat.pow_succ, Nat.mul_comm]
theorem val_lt : ∀ w : List UInt8, val w < 256 ^ w.length
  | [] => by simp [val]
  | b :: w => by
    have h1 := val_lt w
    have h2 := b.toNat_lt
    simp only [val, List.length_cons, Nat.pow_succ]
    omega
theorem val_top : ∀ (w : List UInt8) (m : Nat), w.length = m + 1 → (w.getD m 0).toNat < 64 → val w < 64 * 256 ^ m
  | [b], 0, _, h => by simpa [val] using h
  | b :: c :: w, m + 1, hl, h => by
    have h1 := val_top (c :: w) m (by simpa using hl) (by simpa using h)
    have h2 := b.toNat_lt
    simp only [val, Nat.pow_succ] at h1 ⊢
    omega
theorem val_le : ∀ (k n : Nat), val (le k n) = n % 256 ^ k
  | 0, n => by simp [le, val, Nat.mod_one]
  | k + 1, n => by
    simp only [le, val, val_le k]
    rw [UInt8.toNat_ofNat', show 256 ^ (k + 1) = 256 * 256 ^ k from by rw [Nat.pow_succ, Nat.mul_comm], Nat.mod_mul]
theorem le_val : ∀ (w : List UInt8), le w.length (val w) = w
  | [] => rfl
  | b :: w => by
    have h := b.toNat_lt
    simp only [val, le, List.length_cons, List.cons.injEq]
    refine ⟨?_, ?_⟩
    · apply UInt8.toNat_inj.1
      rw [UInt8.toNat_ofNat']
      omega
    · rw [show (b.toNat + 256 * val w) / 256 = val w from by omega]
      exact le_val w
theorem byte_at (n i : Nat) (hi : i < 8) : ((n : Int).fdiv (2 ^ min (8 * (i : Int)).toNat IntKind.i64.bits) % 256) = ((UInt8.ofNat (n / 256 ^ i)).toNat : Int) := by
  have e1 : min (8 * (i : Int)).toNat IntKind.i64.bits = 8 * i := by
    show min (8 * (i : Int)).toNat 64 = 8 * i
    omega
  have e2 : (2 : Int) ^ (8 * i) = ((256 ^ i : Nat) : Int) := by
    rw [Int.pow_mul]; norm_cast
  rw [e1, e2, fdiv_nat, UInt8.toNat_ofNat']
  norm_cast
theorem set_mid {α : Type} (A B : List α) (k : Nat) (b c : α) (h : k = A.length) : (A ++ c :: B).set k b = A ++ b :: B := by
  subst h
  simp
theorem wr_step (s l : List UInt8) (off i : Nat) (b : UInt8) (hb : l[i]? = some b) (ho : off + i < s.length) : (s.take off ++ l.take i ++ s.drop (off + i)).set (off + i) b = s.take off ++ l.take (i + 1) ++ s.drop (off + (i + 1)) := by
  have hil := (List.getElem?_eq_some_iff.1 hb).1
  rw [List.drop_eq_getElem_cons ho, set_mid _ _ _ _ _ (by simp; omega), List.take_add_one, hb]
  simp [Nat.add_assoc]
theorem wd_length {s : List UInt8} {i : Nat} (h : i < s.length / 8) : (wd s i).length = 8 := by
  simp only [wd, List.length_take, List.length_drop]; omega
theorem val_drop {w : List UInt8} {j : Nat} {b : UInt8} (h : w[j]? = some b) : val (w.drop j) = b.toNat + 256 * val (w.drop (j + 1)) := by
  have hlt := (List.getElem?_eq_some_iff.1 h).1
  have e := (List.getElem?_eq_some_iff.1 h).2
  rw [List.drop_eq_getElem_cons hlt, e]
  rfl
def inR (s : List UInt8) (at' : Int) : Bool := decide (0 ≤ at' ∧ at' < (s.length : Int) / 8)
def getOk (s : List UInt8) (at' : Int) : Bool := inR s at' && okW (wd s at'.toNat)
def getV (s : List UInt8) (at' : Int) : Nat := if getOk s at' then val (wd s at'.toNat) else 0
def mayW (n : Int) : Bool := decide (0 ≤ n ∧ n ≤ 4611686018427387903)
def putE (s : List UInt8) (at' n : Int) : Int := if inR s at' then (if mayW n then 0 else 4) else 1
def put1 (s : List UInt8) (i n : Nat) : List UInt8 := s.take (i * 8) ++ le 8 n ++ s.drop (i * 8 + 8)
def putR (s : List UInt8) (at' n : Int) : List UInt8 := if putE s at' n = 0 then put1 s at'.toNat n.toNat else []
def cat (l : List Int) : List UInt8 := (l.map fun n => le 8 n.toNat).flatten
def ofE (l : List Int) : Int := if l.all mayW then 0 else 4
def ofR (l : List Int) : List UInt8 := if l.all mayW then cat l else []
def vals (s : List UInt8) (k : Nat) : List Int := (List.range k).map fun i => (val (wd s i) : Int)
def allOk (s : List UInt8) : Bool := decide (s.length % 8 = 0) && (List.range (s.length / 8)).all fun i => okW (wd s i)
def allR (s : List UInt8) : List Int := if allOk s then vals s (s.length / 8) else []
theorem put1_length (s : List UInt8) (i n : Nat) (h : i * 8 + 8 ≤ s.length) : (put1 s i n).length = s.length := by
  simp [put1, le_length]; omega
theorem cat_append (l m : List Int) : cat (l ++ m) = cat l ++ cat m := by simp [cat]
theorem cat_one (n : Int) : cat [n] = le 8 n.toNat := by simp [cat]
theorem cat_length : ∀ l : List Int, (cat l).length = l.length * 8
  | [] => rfl
  | n :: l => by
    have : cat (n :: l) = le 8 n.toNat ++ cat l := rfl
    rw [this, List.length_append, le_length, cat_length l, List.length_cons]; omega
/-- What stands after k of the words. -/
def ofK (l : List Int) (k : Nat) : List UInt8 := cat (l.take k) ++ List.replicate ((l.length - k) * 8) 0
theorem ofK_length (l : List Int) (k : Nat) (h : k ≤ l.length) : (ofK l k).length = l.length * 8 := by
  simp [ofK, cat_length]; omega
theorem ofK_succ (l : List Int) (k : Nat) (n : Int) (h : l[k]? = some n) : put1 (ofK l k) k n.toNat = ofK l (k + 1) := by
  have hk := (List.getElem?_eq_some_iff.1 h).1
  have e0 : (cat (l.take k)).length = k * 8 := by rw [cat_length, List.length_take]; omega
  unfold put1 ofK
  rw [List.take_append_of_le_length (by omega), List.take_of_length_le (by omega), List.drop_append, List.drop_of_length_le (by omega), List.take_add_one, h]
  simp only [Option.toList_some, cat_append, cat_one, List.nil_append, List.drop_replicate, e0]
  congr 2
  omega
/-! ### The functions -/
theorem may_val (σ : AH) (n : Int) (Q : AV → AH → Prop) (h1 : mayW n = true → Q (.bool true) σ) (h2 : mayW n = false → Q (.bool false) σ) : CallS Try.prog F.words_may [.int .i64 n] σ Q := by
  refine call_of_body mixed fc_words_may_ok (by simp [fc_words_may]) ?_
  repeat' (first
    | ((conv => whnf) <;> (first
    | (with_reducible refine and_same ?_)
    | (with_reducible refine Br.mk (fun _ => ?_) (fun _ => ?_))
    ))
    )
  all_goals (conv => whnf)
  all_goals (try dsimp only)
  all_goals first
    | exact h1 (by simp only [mayW, decide_eq_true_eq]; omega)
    | exact h2 (by simp only [mayW, decide_eq_false_iff_not]; omega)
theorem place_val (σ : AH) (s : List UInt8) (fr : Bool) (at' : Int) (hs : s.length ≤ 4611686018427) (Q : AV → AH → Prop) (h1 : (at' < 0 ∨ (s.length : Int) / 8 ≤ at') → Q .nils σ) (h2 : 0 ≤ at' → at' < (s.length : Int) / 8 → Q (.sl 1 (bs (wd s at'.toNat)) fr) σ) :
    CallS Try.prog F.words_place [.sl 1 (bs s) fr, .int .i64 at'] σ Q := by
  have hn := bs_length s
  refine call_of_body mixed fc_words_place_ok (by simp [fc_words_place]) ?_
  repeat' (first
    | ((with_reducible refine Side.intro ?_) <;> (first
    | omega
    ))
    | ((conv => whnf) <;> (first
    | (with_reducible refine and_same ?_)
    | (with_reducible refine and_side ?_ ?_)
    | ((with_reducible apply Br.yes) ; (focus omega))
    | (with_reducible refine Br.mk (fun _ => ?_) (fun _ => ?_))
    | (with_reducible refine SliceW.of ?_)
    | (with_reducible refine lenR_sl ?_)
    ))
    )
  all_goals (conv => whnf)
  all_goals (try dsimp only)
  · exact h1 (by omega)
  · exact h1 (by omega)
  · have := h2 (by omega) (by omega)
    have e1 : (at' * 8 + 8).toNat = at'.toNat * 8 + 8 := by omega
    have e2 : (at' * 8).toNat = at'.toNat * 8 := by omega
    rw [bs_take, bs_drop, e1, e2, List.drop_take, show at'.toNat * 8 + 8 - at'.toNat * 8 = 8 from by omega]
    exact this
theorem place_own (σ : AH) (id gen n : Nat) (b : Blk) (at' : Int) (h0 : 0 ≤ at') (h1 : at' < (n : Int) / 8) (hn : n ≤ 4611686018427) (hb : σ[id]? = some b) (hg : b.gen = gen) (hs : b.sz = 1) (hbe : b.ext = none) (Q : AV → AH → Prop) (h : Q (.rsl id gen (at'.toNat * 8) 8 none) σ) :
    CallS Try.prog F.words_place [.rsl id gen 0 n none, .int .i64 at'] σ Q := by
  refine call_of_body mixed fc_words_place_ok (by simp [fc_words_place]) ?_
  repeat' (first
    | ((with_reducible refine Side.intro ?_) <;> (first
    | omega
    ))
    | ((conv => whnf) <;> (first
    | (with_reducible refine and_same ?_)
    | (with_reducible refine and_side ?_ ?_)
    | ((with_reducible apply Br.yes) ; (focus omega))
    | ((with_reducible apply Br.no) ; (focus omega))
    | ((with_reducible apply blkAt_step) ; (focus (first
    | ((repeat (first
    | assumption
    )); done)
    )) ; (focus (first | rfl | assumption | omega)) ; (focus (first | rfl | assumption)) ; (try dsimp only))
    | (with_reducible refine SliceW.of ?_)
    | (with_reducible refine lenR_rsl ?_)
    ))
    )
  all_goals (conv => whnf)
  all_goals (try dsimp only)
  have e1 : (at' * 8 + 8).toNat - (at' * 8).toNat = 8 := by omega
  have e2 : 0 + (at' * 8).toNat = at'.toNat * 8 := by omega
  rw [e1, e2]
  exact h
theorem read_ok (w : List UInt8) (hw : w.length = 8) : AOKn Try.prog F.words_read [.sl 1 (bs w) false] fun y => y = .tup [.int .i64 (if okW w then val w else 0 : Nat), .bool (okW w)] := by
  have hn := bs_length w
  obtain ⟨b7, h7⟩ : ∃ b, w[Int.toNat 7]? = some b := ⟨w[7], by simp [hw]⟩
  have h7l := b7.toNat_lt
  have hk : okW w = decide (b7.toNat < 64) := by
    unfold okW
    rw [List.getD_eq_getElem?_getD]
    have : w[7]? = some b7 := h7
    rw [this]; rfl
  refine AOKn.by_steps mixed fc_words_read_ok (by simp [fc_words_read]) ?_
  repeat' (first
    | ((with_reducible refine Side.intro ?_) <;> (first
    | omega
    | (simp only [List.append_nil, List.nil_append, List.map_nil]; first | exact List.nodup_nil | exact nodup_bid1 _ | exact nodup_bid2 (by assumption))
    | ((first | refine fresh_tup ?_ | skip); (repeat (first |  exact FreshA.sl _ _ FreshA_bs | exact FreshA.sl _ _ FreshA_is | exact FreshA.nils | exact FreshA.nilp | exact FreshA.int _ _ | exact FreshA.bool _ | exact FreshA.str _ | exact fresh_nil | refine fresh_cons ?_ ?_ | with_reducible refine fresh_aggR ?_ | with_reducible refine fresh_agg ?_ | with_reducible exact fresh_nilA | with_reducible refine fresh_consA ?_ ?_)); done)
    ))
    | ((conv => whnf) <;> (first
    | (with_reducible refine and_same ?_)
    | (with_reducible refine and_side ?_ ?_)
    | (with_reducible refine Br.mk (fun _ => ?_) (fun _ => ?_))
    | ((with_reducible apply nthR_bs1) ; (focus assumption))
    | (with_reducible refine ia_sl ?_ ?_)
    | (with_reducible refine NOut.lit ?_)
    ))
    )
  all_goals (conv => whnf)
  all_goals (try dsimp only)
  · refine ret_same ?_
    rw [hk, decide_eq_false (by omega)]; rfl
  refine loop_at (α := Nat) (fun a => [(2, .int .i64 (val (w.drop (8 - a)))), (9, .int .i64 a)]) (fun a => []) (fun a => a ≤ 8) (fun a => 8 - a) 0 (by omega) (by simp [Fr.upd, Fr.pick, List.drop_of_length_le, hw, val]) rfl ?_
  intro i hi
  repeat' (first
    | ((with_reducible refine Side.intro ?_) <;> (first
    | omega
    | (simp only [List.append_nil, List.nil_append, List.map_nil]; first | exact List.nodup_nil | exact nodup_bid1 _ | exact nodup_bid2 (by assumption))
    | ((first | refine fresh_tup ?_ | skip); (repeat (first |  exact FreshA.sl _ _ FreshA_bs | exact FreshA.sl _ _ FreshA_is | exact FreshA.nils | exact FreshA.nilp | exact FreshA.int _ _ | exact FreshA.bool _ | exact FreshA.str _ | exact fresh_nil | refine fresh_cons ?_ ?_ | with_reducible refine fresh_aggR ?_ | with_reducible refine fresh_agg ?_ | with_reducible exact fresh_nilA | with_reducible refine fresh_consA ?_ ?_)); done)
    ))
    | ((conv => whnf) <;> (first
    | (with_reducible refine and_same ?_)
    | (with_reducible refine and_side ?_ ?_)
    | ((with_reducible apply Br.yes) ; (focus omega))
    | (with_reducible refine Br.mk (fun _ => ?_) (fun _ => ?_))
    | (with_reducible refine ia_sl ?_ ?_)
    | (with_reducible refine NOut.lit ?_)
    | ((with_reducible apply nthR_bs) ; (focus (first | omega | (simp only [List.length_append, List.length_cons, List.length_nil, List.length_take, List.length_drop, bs_length]; omega))))
    | (with_reducible intro _)
    ))
    )
  all_goals (conv => whnf)
  all_goals (try dsimp only)
  · rename_i b hb hbl
    have hb1 : w[7 - i]? = some b := by rw [show 7 - i = (7 - (i : Int)).toNat from by omega]; exact hb
    have e1 := val_drop hb1
    have e2 := val_top (w.drop (7 - i)) i (by rw [List.length_drop, hw]; omega) (by
      rw [List.getD_eq_getElem?_getD, List.getElem?_drop, show 7 - i + i = Int.toNat 7 from by omega, h7]
      show b7.toNat < 64
      omega)
    have e3 : 64 * 256 ^ i ≤ 64 * 256 ^ 7 := Nat.mul_le_mul_left _ (Nat.pow_le_pow_right (by omega) (by omega))
    have e4 : 64 * 256 ^ 7 = 4611686018427387904 := by decide
    rw [show 7 - i + 1 = 8 - i from by omega] at e1
    refine ⟨i + 1, ?_, rfl, by omega, by omega⟩
    rw [shl_or (c := b.toNat) (n := val (w.drop (8 - i))) rfl rfl hbl (by omega)]
    rw [show 8 - (i + 1) = 7 - i from by omega, e1, Nat.add_comm, Nat.mul_comm]
    rfl
  · refine ret_same ?_
    rw [hk, decide_eq_true (by omega), show 8 - i = 0 from by omega]; rfl
theorem write_own (σ : AH) (id gen off : Nat) (s : List UInt8) (sp : List (List AV)) (pu fu : Bool) (n : Nat) (hn : n < 4611686018427387904) (ho : off + 8 ≤ s.length) (hs : s.length ≤ 4611686018427) (hb : σ[id]? = some { sz := 1, els := bs s ++ sp, gen := gen, wr := true, pure := pu, full := fu }) (Q : AV → AH → Prop)
    (h : Q (.tup []) (σ.set id { sz := 1, els := bs (s.take off ++ le 8 n ++ s.drop (off + 8)) ++ sp, gen := gen, wr := true, pure := pu, full := fu })) :
    CallS Try.prog F.words_write [.rsl id gen off 8 none, .int .i64 n] σ Q := by
  refine call_of_body mixed fc_words_write_ok (by simp [fc_words_write]) ?_
  skip
  all_goals (conv => whnf)
  all_goals (try dsimp only)
  refine loop_at (α := Nat) (fun a => [(5, .int .i64 a)]) (fun a => σ.set id { sz := 1, els := bs (s.take off ++ (le 8 n).take a ++ s.drop (off + a)) ++ sp, gen := gen, wr := true, pure := pu, full := fu }) (fun a => a ≤ 8) (fun a => 8 - a) 0 (by omega) rfl (by (try dsimp only); rw [List.take_zero, List.append_nil, Nat.add_zero, List.take_append_drop]; exact set_same hb) ?_
  intro i hi
  have hl : (bs (s.take off ++ (le 8 n).take i ++ s.drop (off + i))).length = s.length := by
    simp [bs_length, le_length]; omega
  have hb2 : (σ.set id { sz := 1, els := bs (s.take off ++ (le 8 n).take i ++ s.drop (off + i)) ++ sp, gen := gen, wr := true, pure := pu, full := fu })[id]? = some { sz := 1, els := bs (s.take off ++ (le 8 n).take i ++ s.drop (off + i)) ++ sp, gen := gen, wr := true, pure := pu, full := fu } := get_set hb
  repeat' (first
    | ((with_reducible refine Side.intro ?_) <;> (first
    | omega
    | exact rfl
    ))
    | ((conv => whnf) <;> (first
    | (with_reducible refine and_same ?_)
    | (with_reducible refine and_side ?_ ?_)
    | ((with_reducible apply Br.yes) ; (focus omega))
    | (with_reducible refine Br.mk (fun _ => ?_) (fun _ => ?_))
    | ((with_reducible apply blkAt_step) ; (focus (first
    | ((repeat (first
    | assumption
    )); done)
    )) ; (focus (first | rfl | assumption | omega)) ; (focus (first | rfl | assumption)) ; (try dsimp only))
    | (with_reducible refine IaW.of ?_)
    | ((with_reducible apply nthR_left) ; (focus (first | omega | (simp only [List.length_append, List.length_cons, List.length_nil, List.length_take, List.length_drop, bs_length]; omega))))
    ))
    )
  all_goals (conv => whnf)
  all_goals (try dsimp only)
  · refine nthR_bs (by rw [bs_length] at hl; omega) (fun b hb _ => ?_)
    repeat' (first
      | ((with_reducible refine Side.intro ?_) <;> (first
      | exact Nat.le_of_ble_eq_true rfl
      ))
      | ((conv => whnf) <;> (first
      | (with_reducible refine and_same ?_)
      | (with_reducible refine and_side ?_ ?_)
      | ((with_reducible apply Br.yes) ; (focus omega))
      ))
      )
    all_goals (conv => whnf)
    all_goals (try dsimp only)
    have hil : (le 8 n)[i]? = some (UInt8.ofNat (n / 256 ^ i)) := le_get 8 n i (by omega)
    refine ⟨i + 1, rfl, ?_, by omega, by omega⟩
    rw [byte_at n i (by omega), List.set_set, Int.toNat_natCast, List.set_append_left _ _ (by rw [hl]; omega), bs_set, wr_step s _ off i _ hil (by omega)]
    cases pu <;> rfl
  · have e8 : i = 8 := by omega
    subst e8
    rw [List.take_of_length_le (l := le 8 n) (by rw [le_length]; exact Nat.le_refl _)]
    exact h
theorem words_Get_ok (s : List UInt8) (at' : Int) (hs : s.length ≤ 4611686018427) : AOKn Try.prog F.words_Get [.sl 1 (bs s) false, .int .i64 at'] fun y => y = .tup [.int .i64 (getV s at'), .bool (getOk s at')] := by
  have hn := bs_length s
  refine AOKn.by_steps mixed fc_words_Get_ok (by simp [fc_words_Get]) ?_
  skip
  all_goals (conv => whnf)
  all_goals (try dsimp only)
  refine place_val _ s false at' hs _ (fun h => ?_) (fun h0 h1 => ?_)
  · have hi : getOk s at' = false := by
      have : inR s at' = false := by simp only [inR, decide_eq_false_iff_not]; omega
      simp [getOk, this]
    repeat' (first
      | ((with_reducible refine Side.intro ?_) <;> (first
      | (simp only [List.append_nil, List.nil_append, List.map_nil]; first | exact List.nodup_nil | exact nodup_bid1 _ | exact nodup_bid2 (by assumption))
      | ((first | refine fresh_tup ?_ | skip); (repeat (first |  exact FreshA.sl _ _ FreshA_bs | exact FreshA.sl _ _ FreshA_is | exact FreshA.nils | exact FreshA.nilp | exact FreshA.int _ _ | exact FreshA.bool _ | exact FreshA.str _ | exact fresh_nil | refine fresh_cons ?_ ?_ | with_reducible refine fresh_aggR ?_ | with_reducible refine fresh_agg ?_ | with_reducible exact fresh_nilA | with_reducible refine fresh_consA ?_ ?_)); done)
      ))
      | ((conv => whnf) <;> (first
      | (with_reducible refine and_side ?_ ?_)
      | (with_reducible refine EqnW.of ?_)
      | (with_reducible refine NOut.lit ?_)
      ))
      )
    all_goals (conv => whnf)
    all_goals (try dsimp only)
    refine ret_same ?_
    simp [getV, hi]
  · have hi : inR s at' = true := by simp only [inR, decide_eq_true_eq]; omega
    have hl := wd_length (s := s) (i := at'.toNat) (by omega)
    have hl2 := bs_length (wd s at'.toNat)
    have hne : ¬ bs (wd s at'.toNat) = [] := fun h => by rw [h] at hl2; simp at hl2; omega
    repeat' (first
      | ((conv => whnf) <;> (first
      | ((with_reducible apply Br.no) ; (focus omega))
      | (with_reducible refine EqnW.of ?_)
      ))
      )
    all_goals (conv => whnf)
    all_goals (try dsimp only)
    refine (read_ok _ hl).call (.cons (.bs _ _ _) .nil) ?_
    rintro _ x σ1 rfl hg hG
    obtain ⟨x1, x2, rfl, h1, h2, -⟩ := hG.two
    rw [h1.same_inv rfl, h2.same_inv rfl]
    repeat' (first
      | ((with_reducible refine Side.intro ?_) <;> (first
      | (simp only [List.append_nil, List.nil_append, List.map_nil]; first | exact List.nodup_nil | exact nodup_bid1 _ | exact nodup_bid2 (by assumption))
      | ((first | refine fresh_tup ?_ | skip); (repeat (first |  exact FreshA.sl _ _ FreshA_bs | exact FreshA.sl _ _ FreshA_is | exact FreshA.nils | exact FreshA.nilp | exact FreshA.int _ _ | exact FreshA.bool _ | exact FreshA.str _ | exact fresh_nil | refine fresh_cons ?_ ?_ | with_reducible refine fresh_aggR ?_ | with_reducible refine fresh_agg ?_ | with_reducible exact fresh_nilA | with_reducible refine fresh_consA ?_ ?_)); done)
      ))
      | ((conv => whnf) <;> (first
      | (with_reducible refine and_side ?_ ?_)
      | (with_reducible refine NOut.lit ?_)
      ))
      )
    all_goals (conv => whnf)
    all_goals (try dsimp only)
    refine ret_same ?_
    simp [getV, getOk, hi]
theorem words_Of_ok (l : List Int) (hs : l.length ≤ 461168601842) : AOKn Try.prog F.words_Of [.sl 1 (is l) false] fun y => y = .tup [.sl 1 (bs (ofR l)) true, .int .i64 (ofE l)] := by
  have hn : (is l).length = l.length := by simp [is]
  refine AOKn.by_steps mixed fc_words_Of_ok (by simp [fc_words_Of]) ?_
  repeat' (first
    | ((with_reducible refine Side.intro ?_) <;> (first
    | omega
    ))
    | ((conv => whnf) <;> (first
    | (with_reducible refine and_same ?_)
    | (with_reducible refine and_side ?_ ?_)
    | ((with_reducible apply Br.yes) ; (focus omega))
    | (with_reducible refine lenR_sl ?_)
    ))
    )
  all_goals (conv => whnf)
  all_goals (try dsimp only)
  have el : (((is l).length : Int) * 8).toNat = l.length * 8 := by omega
  refine loop_at (α := Nat) (fun a => [(4, .rsl 0 0 0 (l.length * 8) none), (13, .int .i64 a)]) (fun a => newB [] 1 (bs (ofK l a)) true) (fun a => a ≤ l.length ∧ (l.take a).all mayW = true) (fun a => l.length - a) 0 ⟨by omega, by simp⟩ (by rw [el]; rfl) (by rw [el]; simp [ofK, cat, bs_replicate]; rfl) ?_
  rintro k ⟨hk, hall⟩
  have hkl := ofK_length l k hk
  have hkb := bs_length (ofK l k)
  by_cases hlt : k < l.length
  · obtain ⟨p, hp, hp'⟩ := getN hlt
    repeat' (first
      | ((with_reducible refine Side.intro ?_) <;> (first
      | omega
      ))
      | ((conv => whnf) <;> (first
      | (with_reducible refine and_same ?_)
      | ((with_reducible apply Br.yes) ; (focus omega))
      | ((with_reducible apply nthR_is1) ; (focus assumption))
      | (with_reducible refine ia_sl ?_ ?_)
      ))
      )
    all_goals (conv => whnf)
    all_goals (try dsimp only)
    refine may_val _ p _ (fun hm => ?_) (fun hm => ?_)
    · have hm' : 0 ≤ p ∧ p ≤ 4611686018427387903 := by simpa [mayW] using hm
      skip
      all_goals (conv => whnf)
      all_goals (try dsimp only)
      refine place_own _ 0 0 (l.length * 8) _ k (by omega) (by omega) (by omega) rfl rfl rfl rfl _ ?_
      skip
      all_goals (conv => whnf)
      all_goals (try dsimp only)
      have hnn : p = (p.toNat : Int) := by omega
      rw [hnn]
      refine write_own _ 0 0 ((k : Int).toNat * 8) (ofK l k) [] _ _ p.toNat (by omega) (by omega) (by omega) (by simp [newB]; exact ⟨rfl, rfl⟩) _ ?_
      repeat' (first
        | ((conv => whnf) <;> (first
        | (with_reducible refine and_same ?_)
        | ((with_reducible apply Br.yes) ; (focus omega))
        ))
        )
      all_goals (conv => whnf)
      all_goals (try dsimp only)
      refine ⟨k + 1, rfl, ?_, ⟨by omega, ?_⟩, by omega⟩
      · have hs := ofK_succ l k p hp'
        unfold put1 at hs
        rw [Int.toNat_natCast, List.append_nil, hs]
        rfl
      · rw [List.take_add_one, hp', List.all_append, hall]
        simp [hm]
    · have e1 : l.all mayW = false := by
        rw [List.all_eq_false]
        exact ⟨p, List.mem_of_getElem? hp', by simp [hm]⟩
      repeat' (first
        | ((with_reducible refine Side.intro ?_) <;> (first
        | (simp only [List.append_nil, List.nil_append, List.map_nil]; first | exact List.nodup_nil | exact nodup_bid1 _ | exact nodup_bid2 (by assumption))
        | ((first | refine fresh_tup ?_ | skip); (repeat (first |  exact FreshA.sl _ _ FreshA_bs | exact FreshA.sl _ _ FreshA_is | exact FreshA.nils | exact FreshA.nilp | exact FreshA.int _ _ | exact FreshA.bool _ | exact FreshA.str _ | exact fresh_nil | refine fresh_cons ?_ ?_ | with_reducible refine fresh_aggR ?_ | with_reducible refine fresh_agg ?_ | with_reducible exact fresh_nilA | with_reducible refine fresh_consA ?_ ?_)); done)
        ))
        | ((conv => whnf) <;> (first
        | (with_reducible refine and_side ?_ ?_)
        | (with_reducible refine NOut.lit ?_)
        ))
        )
      all_goals (conv => whnf)
      all_goals (try dsimp only)
      rw [ofR, ofE, e1]
      exact ret_nilt rfl
  · have hkn : k = l.length := by omega
    subst hkn
    rw [List.take_length] at hall
    have e2 : List.take (l.length * 8) (bs (ofK l l.length)) = bs (cat l) := by
      rw [List.take_of_length_le (by omega)]
      simp [ofK]
    repeat' (first
      | ((with_reducible refine Side.intro ?_) <;> (first
      | omega
      | (simp; done)
      ))
      | ((conv => whnf) <;> (first
      | (with_reducible refine and_same ?_)
      | (with_reducible refine and_side ?_ ?_)
      | ((with_reducible apply Br.no) ; (focus omega))
      | ((with_reducible apply blkAt_step) ; (focus (first
      | exact rfl
      )) ; (focus (first | rfl | assumption | omega)) ; (focus (first | rfl | assumption)) ; (try dsimp only))
      | (with_reducible refine NOut.lit ?_)
      ))
      )
    all_goals (conv => whnf)
    all_goals (try dsimp only)
    · refine ret_same ?_
      rw [ofR, ofE, hall, e2]; rfl
    · rw [e2]
      exact Side.intro (fresh_cons (fresh_bs _) (fresh_cons (.int _ _) fresh_nil))
theorem words_All_ok (s : List UInt8) (hs : s.length ≤ 4611686018427) : AOKn Try.prog F.words_All [.sl 1 (bs s) false] fun y => y = .tup [.sl 1 (is (allR s)) true, .bool (allOk s)] := by
  have hn := bs_length s
  refine AOKn.by_steps mixed fc_words_All_ok (by simp [fc_words_All]) ?_
  repeat' (first
    | ((with_reducible refine Side.intro ?_) <;> (first
    | omega
    | (simp only [List.append_nil, List.nil_append, List.map_nil]; first | exact List.nodup_nil | exact nodup_bid1 _ | exact nodup_bid2 (by assumption))
    | ((first | refine fresh_tup ?_ | skip); (repeat (first |  exact FreshA.sl _ _ FreshA_bs | exact FreshA.sl _ _ FreshA_is | exact FreshA.nils | exact FreshA.nilp | exact FreshA.int _ _ | exact FreshA.bool _ | exact FreshA.str _ | exact fresh_nil | refine fresh_cons ?_ ?_ | with_reducible refine fresh_aggR ?_ | with_reducible refine fresh_agg ?_ | with_reducible exact fresh_nilA | with_reducible refine fresh_consA ?_ ?_)); done)
    ))
    | ((conv => whnf) <;> (first
    | (with_reducible refine and_same ?_)
    | (with_reducible refine and_side ?_ ?_)
    | ((with_reducible apply Br.yes) ; (focus omega))
    | (with_reducible refine Br.mk (fun _ => ?_) (fun _ => ?_))
    | (with_reducible refine NOut.lit ?_)
    | (with_reducible refine lenR_sl ?_)
    ))
    )
  all_goals (conv => whnf)
  all_goals (try dsimp only)
  · have e1 : allOk s = false := by simp [allOk]; omega
    rw [allR, e1]
    exact ret_nilt rfl
  refine loop_at (α := Nat × AH × AV) (fun a => [(0, .sl 1 (bs (s.drop (a.1 * 8))) false), (4, a.2.2)]) (fun a => a.2.1) (fun a => a.1 ≤ s.length / 8 ∧ (∀ i, i < a.1 → okW (wd s i) = true) ∧ Own a.2.1 1 a.2.2 (is (vals s a.1))) (fun a => s.length / 8 - a.1) (0, [], .nils) ⟨by omega, by omega, Own.nil _ _⟩ rfl rfl ?_
  rintro ⟨k, σ, acc⟩ ⟨hk, hall, hacc⟩
  dsimp only at hk hall hacc ⊢
  have hbl := bs_length (s.drop (k * 8))
  rw [List.length_drop] at hbl
  by_cases hlt : k < s.length / 8
  · have ew : List.drop (Int.toNat 0) (List.take (Int.toNat 8) (bs (List.drop (k * 8) s))) = bs (wd s k) := by
      rw [bs_take]; rfl
    have hwl := wd_length hlt
    repeat' (first
      | ((with_reducible refine Side.intro ?_) <;> (first
      | omega
      ))
      | ((conv => whnf) <;> (first
      | (with_reducible refine and_same ?_)
      | (with_reducible refine and_side ?_ ?_)
      | ((with_reducible apply Br.yes) ; (focus omega))
      | (with_reducible refine SliceW.of ?_)
      | (with_reducible refine lenR_sl ?_)
      ))
      )
    all_goals (conv => whnf)
    all_goals (try dsimp only)
    rw [ew]
    refine (read_ok _ hwl).call (.cons (.bs _ _ _) .nil) ?_
    rintro _ x σ1 rfl hg hG
    obtain ⟨x1, x2, rfl, h1, h2, -⟩ := hG.two
    rw [h1.same_inv rfl, h2.same_inv rfl]
    have hacc1 := hacc.keepN hg
    have ev : vals s (k + 1) = vals s k ++ [(val (wd s k) : Int)] := by simp [vals, List.range_succ]
    have hvl : (vals s k).length = k := by simp [vals]
    have hil := is_length (vals s k)
    cases hok : okW (wd s k)
    · have e1 : allOk s = false := by
        simp only [allOk, Bool.and_eq_false_iff]
        refine .inr ?_
        rw [List.all_eq_false]
        exact ⟨k, List.mem_range.2 hlt, by simp [hok]⟩
      rw [allR, e1]
      repeat' (first
        | ((with_reducible refine Side.intro ?_) <;> (first
        | (simp only [List.append_nil, List.nil_append, List.map_nil]; first | exact List.nodup_nil | exact nodup_bid1 _ | exact nodup_bid2 (by assumption))
        | ((first | refine fresh_tup ?_ | skip); (repeat (first |  exact FreshA.sl _ _ FreshA_bs | exact FreshA.sl _ _ FreshA_is | exact FreshA.nils | exact FreshA.nilp | exact FreshA.int _ _ | exact FreshA.bool _ | exact FreshA.str _ | exact fresh_nil | refine fresh_cons ?_ ?_ | with_reducible refine fresh_aggR ?_ | with_reducible refine fresh_agg ?_ | with_reducible exact fresh_nilA | with_reducible refine fresh_consA ?_ ?_)); done)
        ))
        | ((conv => whnf) <;> (first
        | (with_reducible refine and_side ?_ ?_)
        | (with_reducible refine NOut.lit ?_)
        ))
        )
      all_goals (conv => whnf)
      all_goals (try dsimp only)
      exact ret_nilt rfl
    · rw [if_pos rfl]
      repeat' (first
        | ((with_reducible refine Side.intro ?_) <;> (first
        | omega
        | exact Nat.le_of_ble_eq_true rfl
        | exact rfl
        ))
        | ((conv => whnf) <;> (first
        | (with_reducible refine and_same ?_)
        | (with_reducible refine and_side ?_ ?_)
        | ((with_reducible apply blkAt_step) ; (focus (first
        | ((repeat (first
        | exact get_new
        )); done)
        )) ; (focus (first | rfl | assumption | omega)) ; (focus (first | rfl | assumption)) ; (try dsimp only))
        | (with_reducible refine SliceW.of ?_)
        | (with_reducible refine AppC.frz ?_)
        | (with_reducible refine rowsR_rsl ?_)
        ))
        )
      all_goals (conv => whnf)
      all_goals (try dsimp only)
      refine appendR_own (rows := is (vals s k)) (hacc1.keepN (by (repeat (first
            | exact Gr.refl _ _
            | refine Gr.addN ?_ _
            )))) (by rw [hil, hvl]; simp only [List.length_take, List.length_drop, List.length_set, List.length_replicate]; omega) ?_
      intro acc' σ' ho' hg' hb'
      skip
      all_goals (conv => whnf)
      all_goals (try dsimp only)
      refine ⟨(k + 1, σ', acc'), ?_, rfl, ⟨by omega, ?_, ?_⟩, by omega⟩
      · dsimp only
        rw [Int.toNat_natCast, List.take_length, bs_drop, List.drop_drop, show k * 8 + Int.toNat 8 = (k + 1) * 8 from by omega]
        rfl
      · intro i hi
        by_cases e : i = k
        · rw [e]; exact hok
        · exact hall i (by dsimp only at hi; omega)
      · dsimp only
        rw [ev, ← is_append]
        exact ho'
  · have hkn : k = s.length / 8 := by omega
    subst hkn
    have e1 : allOk s = true := by
      simp only [allOk, Bool.and_eq_true, decide_eq_true_eq, List.all_eq_true, List.mem_range]
      exact ⟨by omega, hall⟩
    rw [allR, e1, if_pos rfl]
    repeat' (first
      | ((with_reducible refine Side.intro ?_) <;> (first
      | (simp only [List.append_nil, List.nil_append, List.map_nil]; first | exact List.nodup_nil | exact nodup_bid1 _ | exact nodup_bid2 (by assumption))
      | ((first | refine fresh_tup ?_ | skip); (repeat (first |  exact FreshA.sl _ _ FreshA_bs | exact FreshA.sl _ _ FreshA_is | exact FreshA.nils | exact FreshA.nilp | exact FreshA.int _ _ | exact FreshA.bool _ | exact FreshA.str _ | exact fresh_nil | refine fresh_cons ?_ ?_ | with_reducible refine fresh_aggR ?_ | with_reducible refine fresh_agg ?_ | with_reducible exact fresh_nilA | with_reducible refine fresh_consA ?_ ?_)); done)
      ))
      | ((conv => whnf) <;> (first
      | (with_reducible refine and_same ?_)
      | (with_reducible refine and_side ?_ ?_)
      | ((with_reducible apply Br.no) ; (focus omega))
      | ((with_reducible apply NOut.own) ; (focus assumption))
      | (with_reducible refine NOut.lit ?_)
      | (with_reducible refine lenR_sl ?_)
      ))
      )
    all_goals (conv => whnf)
    all_goals (try dsimp only)
    exact ret_same rfl
end Go.Proofs.Ythalikgchafjiaa

namespace Go.Proofs.Ythalikgchafjiaa
open Go Go.Proofs.Ythalikgchafjiaa.V
set_option maxRecDepth 20000
attribute [local irreducible] CallS AOK AOKn ALoop Side Ref.ok
theorem Bytes_ok (n : Nat) (hn : n < 4611686018427387904) : AOKn Try.prog F.joistref01_Bytes [.int .i64 n] fun y => y = .sl 1 (bs (le 8 n)) true := by
  refine AOKn.by_steps mixed fc_joistref01_Bytes_ok (by simp [fc_joistref01_Bytes]) ?_
  skip
  all_goals (conv => whnf)
  all_goals (try dsimp only)
  refine loop_at (α := Nat × AH × AV) (fun a => [(0, .int .i64 (n / 256 ^ a.1 : Nat)), (3, a.2.2), (4, .int .i64 a.1)]) (fun a => a.2.1) (fun a => a.1 ≤ 8 ∧ Own a.2.1 1 a.2.2 (bs ((le 8 n).take a.1))) (fun a => 8 - a.1) (0, [], .nils) ⟨by omega, Own.nil _ _⟩ (by simp [Fr.upd, Fr.pick]) rfl ?_
  rintro ⟨k, σ, acc⟩ ⟨hk, hacc⟩
  dsimp only at hk hacc ⊢
  have hd : n / 256 ^ k ≤ n := Nat.div_le_self _ _
  have hlk : (bs ((le 8 n).take k)).length = k := by rw [bs_length, List.length_take, le_length]; omega
  generalize hm : n / 256 ^ k = m at *
  by_cases hlt : k < 8
  · repeat' (first
      | ((with_reducible refine Side.intro ?_) <;> (first
      | omega
      | exact Nat.le_of_ble_eq_true rfl
      | exact rfl
      ))
      | ((conv => whnf) <;> (first
      | (with_reducible refine and_same ?_)
      | (with_reducible refine and_side ?_ ?_)
      | ((with_reducible apply Br.yes) ; (focus omega))
      | ((with_reducible apply blkAt_step) ; (focus (first
      | ((repeat (first
      | exact get_new
      )); done)
      )) ; (focus (first | rfl | assumption | omega)) ; (focus (first | rfl | assumption)) ; (try dsimp only))
      | (with_reducible refine AppC.frz ?_)
      | (with_reducible refine rowsR_rsl ?_)
      ))
      )
    all_goals (conv => whnf)
    all_goals (try dsimp only)
    refine appendR_own (rows := bs ((le 8 n).take k)) (hacc.keepN (by (repeat (first
          | exact Gr.refl _ _
          | refine Gr.addN ?_ _
          )))) (by rw [hlk]; simp only [List.length_take, List.length_drop, List.length_set, List.length_replicate]; omega) ?_
    intro acc' σ' ho' hg' hb'
    repeat' (first
      | ((with_reducible refine Side.intro ?_) <;> (first
      | omega
      ))
      | ((conv => whnf) <;> (first
      | (with_reducible refine and_same ?_)
      | (with_reducible refine and_side ?_ ?_)
      | ((with_reducible apply Br.yes) ; (focus omega))
      ))
      )
    all_goals (conv => whnf)
    all_goals (try dsimp only)
    refine ⟨(k + 1, σ', acc'), ?_, rfl, ⟨by omega, ?_⟩, by omega⟩
    · dsimp only
      rw [Nat.pow_succ, ← Nat.div_div_eq_div_mul, hm]
      rfl
    · dsimp only
      rw [List.take_add_one, le_get 8 n k hlt, hm, ← bs_append]
      refine (cast (congrArg (fun r => Own σ' 1 acc' (_ ++ r)) ?_) ho')
      simp [bs, AV.cells]
  · have hk8 : k = 8 := by omega
    subst hk8
    rw [List.take_of_length_le (by rw [le_length]; exact Nat.le_refl _)] at hacc hlk
    obtain ⟨id, gen, sp, rfl, hb⟩ := hacc.ne (fun e => by rw [e] at hlk; simp at hlk)
    repeat' (first
      | ((with_reducible refine Side.intro ?_) <;> (first
      | ((first | refine fresh_tup ?_ | skip); (repeat (first |  exact FreshA.sl _ _ FreshA_bs | exact FreshA.sl _ _ FreshA_is | exact FreshA.nils | exact FreshA.nilp | exact FreshA.int _ _ | exact FreshA.bool _ | exact FreshA.str _ | exact fresh_nil | refine fresh_cons ?_ ?_ | with_reducible refine fresh_aggR ?_ | with_reducible refine fresh_agg ?_ | with_reducible exact fresh_nilA | with_reducible refine fresh_consA ?_ ?_)); done)
      ))
      | ((conv => whnf) <;> (first
      | (with_reducible refine and_same ?_)
      | (with_reducible refine and_side ?_ ?_)
      | ((with_reducible apply Br.no) ; (focus omega))
      | ((with_reducible apply NOut.own) ; (focus assumption))
      ))
      )
    all_goals (conv => whnf)
    all_goals (try dsimp only)
    all_goals (try rw [List.take_left])
    all_goals first
      | exact ret_same rfl
      | exact Side.intro (fresh_bs _)
      | exact Side.intro (nodup_bid1 _)
theorem ref_Get_ok (s : List UInt8) (at' : Int) (hs : s.length ≤ 4611686018427) : AOKn Try.prog F.joistref01_Get [.sl 1 (bs s) false, .int .i64 at'] fun y => y = .tup [.int .i64 (getV s at'), .bool (getOk s at')] := by
  have hn := bs_length s
  refine AOKn.by_steps mixed fc_joistref01_Get_ok (by simp [fc_joistref01_Get]) ?_
  by_cases hr : 0 ≤ at' ∧ at' < (s.length : Int) / 8
  · have hi : inR s at' = true := by simp only [inR, decide_eq_true_eq]; omega
    have hl := wd_length (s := s) (i := at'.toNat) (by omega)
    have hl2 := bs_length (wd s at'.toNat)
    have ew : List.drop (8 * at').toNat (List.take (8 * at' + 8).toNat (bs s)) = bs (wd s at'.toNat) := by
      rw [bs_take, bs_drop, List.drop_take, show (8 * at' + 8).toNat - (8 * at').toNat = 8 from by omega, show (8 * at').toNat = at'.toNat * 8 from by omega]; rfl
    repeat' (first
      | ((with_reducible refine Side.intro ?_) <;> (first
      | omega
      ))
      | ((conv => whnf) <;> (first
      | (with_reducible refine and_same ?_)
      | (with_reducible refine and_side ?_ ?_)
      | ((with_reducible apply Br.yes) ; (focus omega))
      | ((with_reducible apply Br.no) ; (focus omega))
      | (with_reducible refine ia_sl ?_ ?_)
      | (with_reducible refine SliceW.of ?_)
      | (with_reducible refine lenR_sl ?_)
      ))
      )
    all_goals (conv => whnf)
    all_goals (try dsimp only)
    rw [ew]
    generalize hw : wd s at'.toNat = w at *
    obtain ⟨b7, h7⟩ : ∃ b, w[Int.toNat 7]? = some b := ⟨w[7], by simp [hl]⟩
    have h7l := b7.toNat_lt
    have hk : okW w = decide (b7.toNat < 64) := by
      unfold okW
      rw [List.getD_eq_getElem?_getD]
      have : w[7]? = some b7 := h7
      rw [this]; rfl
    repeat' (first
      | ((with_reducible refine Side.intro ?_) <;> (first
      | (simp only [List.append_nil, List.nil_append, List.map_nil]; first | exact List.nodup_nil | exact nodup_bid1 _ | exact nodup_bid2 (by assumption))
      | ((first | refine fresh_tup ?_ | skip); (repeat (first |  exact FreshA.sl _ _ FreshA_bs | exact FreshA.sl _ _ FreshA_is | exact FreshA.nils | exact FreshA.nilp | exact FreshA.int _ _ | exact FreshA.bool _ | exact FreshA.str _ | exact fresh_nil | refine fresh_cons ?_ ?_ | with_reducible refine fresh_aggR ?_ | with_reducible refine fresh_agg ?_ | with_reducible exact fresh_nilA | with_reducible refine fresh_consA ?_ ?_)); done)
      ))
      | ((conv => whnf) <;> (first
      | (with_reducible refine and_same ?_)
      | (with_reducible refine and_side ?_ ?_)
      | (with_reducible refine Br.mk (fun _ => ?_) (fun _ => ?_))
      | ((with_reducible apply nthR_bs1) ; (focus assumption))
      | (with_reducible refine NOut.lit ?_)
      ))
      )
    all_goals (conv => whnf)
    all_goals (try dsimp only)
    · have hf : okW w = false := by rw [hk]; exact decide_eq_false (by omega)
      exact ret_same (by simp [getV, getOk, hi, hw, hf])
    refine loop_at (α := Nat) (fun a => [(7, .int .i64 (val (w.drop (8 - a)))), (8, .int .i64 (7 - (a : Int)))]) (fun a => []) (fun a => a ≤ 8) (fun a => 8 - a) 0 (by omega) (by simp [Fr.upd, Fr.pick, List.drop_of_length_le, hl, val]) rfl ?_
    intro i hi8
    by_cases hlt : i < 8
    · obtain ⟨b, hb⟩ : ∃ b, w[(7 - (i : Int)).toNat]? = some b := ⟨w[(7 - (i : Int)).toNat]'(by omega), by simp⟩
      have hbl := b.toNat_lt
      have hb1 : w[7 - i]? = some b := by rw [show 7 - i = (7 - (i : Int)).toNat from by omega]; exact hb
      have e1 := val_drop hb1
      have e2 := val_top (w.drop (7 - i)) i (by rw [List.length_drop, hl]; omega) (by
        rw [List.getD_eq_getElem?_getD, List.getElem?_drop, show 7 - i + i = Int.toNat 7 from by omega, h7]
        show b7.toNat < 64
        omega)
      have e3 : 64 * 256 ^ i ≤ 64 * 256 ^ 7 := Nat.mul_le_mul_left _ (Nat.pow_le_pow_right (by omega) (by omega))
      have e4 : 64 * 256 ^ 7 = 4611686018427387904 := by decide
      rw [show 7 - i + 1 = 8 - i from by omega] at e1
      have e5 : val (w.drop (7 - i)) < 4611686018427387904 := by omega
      repeat' (first
        | ((with_reducible refine Side.intro ?_) <;> (first
        | omega
        ))
        | ((conv => whnf) <;> (first
        | (with_reducible refine and_same ?_)
        | ((with_reducible apply Br.yes) ; (focus omega))
        | ((with_reducible apply nthR_bs1) ; (focus assumption))
        | (with_reducible refine ia_sl ?_ ?_)
        ))
        )
      all_goals (conv => whnf)
      all_goals (try dsimp only)
      refine ⟨i + 1, ?_, rfl, by omega, by omega⟩
      rw [show 8 - (i + 1) = 7 - i from by omega, e1]
      have f1 : ((val (w.drop (8 - i)) : Nat) : Int) * 256 + (b.toNat : Int) = ((b.toNat + 256 * val (w.drop (8 - i)) : Nat) : Int) := by omega
      have f2 : 7 - (i : Int) - 1 = 7 - ((i + 1 : Nat) : Int) := by omega
      rw [f1, f2]
      rfl
    · have e8 : i = 8 := by omega
      subst e8
      repeat' (first
        | ((with_reducible refine Side.intro ?_) <;> (first
        | (simp only [List.append_nil, List.nil_append, List.map_nil]; first | exact List.nodup_nil | exact nodup_bid1 _ | exact nodup_bid2 (by assumption))
        | ((first | refine fresh_tup ?_ | skip); (repeat (first |  exact FreshA.sl _ _ FreshA_bs | exact FreshA.sl _ _ FreshA_is | exact FreshA.nils | exact FreshA.nilp | exact FreshA.int _ _ | exact FreshA.bool _ | exact FreshA.str _ | exact fresh_nil | refine fresh_cons ?_ ?_ | with_reducible refine fresh_aggR ?_ | with_reducible refine fresh_agg ?_ | with_reducible exact fresh_nilA | with_reducible refine fresh_consA ?_ ?_)); done)
        ))
        | ((conv => whnf) <;> (first
        | (with_reducible refine and_same ?_)
        | (with_reducible refine and_side ?_ ?_)
        | ((with_reducible apply Br.no) ; (focus omega))
        | (with_reducible refine NOut.lit ?_)
        ))
        )
      all_goals (conv => whnf)
      all_goals (try dsimp only)
      have hf : okW w = true := by rw [hk]; exact decide_eq_true (by omega)
      exact ret_same (by simp [getV, getOk, hi, hw, hf])
  · have hi : inR s at' = false := by simp only [inR, decide_eq_false_iff_not]; omega
    repeat' (first
      | ((with_reducible refine Side.intro ?_) <;> (first
      | omega
      | (simp only [List.append_nil, List.nil_append, List.map_nil]; first | exact List.nodup_nil | exact nodup_bid1 _ | exact nodup_bid2 (by assumption))
      | ((first | refine fresh_tup ?_ | skip); (repeat (first |  exact FreshA.sl _ _ FreshA_bs | exact FreshA.sl _ _ FreshA_is | exact FreshA.nils | exact FreshA.nilp | exact FreshA.int _ _ | exact FreshA.bool _ | exact FreshA.str _ | exact fresh_nil | refine fresh_cons ?_ ?_ | with_reducible refine fresh_aggR ?_ | with_reducible refine fresh_agg ?_ | with_reducible exact fresh_nilA | with_reducible refine fresh_consA ?_ ?_)); done)
      ))
      | ((conv => whnf) <;> (first
      | (with_reducible refine and_same ?_)
      | (with_reducible refine and_side ?_ ?_)
      | ((with_reducible apply Br.yes) ; (focus omega))
      | (with_reducible refine Br.mk (fun _ => ?_) (fun _ => ?_))
      | (with_reducible refine NOut.lit ?_)
      | (with_reducible refine lenR_sl ?_)
      ))
      )
    all_goals (conv => whnf)
    all_goals (try dsimp only)
    all_goals exact ret_same (by simp [getV, getOk, hi])
theorem ref_Of_ok (l : List Int) (hs : l.length ≤ 461168601842) : AOKn Try.prog F.joistref01_Of [.sl 1 (is l) false] fun y => y = .tup [.sl 1 (bs (ofR l)) true, .int .i64 (ofE l)] := by
  have hn : (is l).length = l.length := by simp [is]
  refine AOKn.by_steps mixed fc_joistref01_Of_ok (by simp [fc_joistref01_Of]) ?_
  skip
  all_goals (conv => whnf)
  all_goals (try dsimp only)
  refine loop_at (α := Nat × AH × AV) (fun a => [(4, a.2.2), (5, .int .i64 a.1)]) (fun a => a.2.1) (fun a => a.1 ≤ l.length ∧ (l.take a.1).all mayW = true ∧ Own a.2.1 1 a.2.2 (bs (cat (l.take a.1)))) (fun a => l.length - a.1) (0, [], .nils) ⟨by omega, by simp, Own.nil _ _⟩ rfl rfl ?_
  rintro ⟨k, σ, acc⟩ ⟨hk, hall, hacc⟩
  dsimp only at hk hall hacc ⊢
  by_cases hlt : k < l.length
  · obtain ⟨p, hp, hp'⟩ := getN hlt
    cases hm : mayW p
    · have hm' : ¬ (0 ≤ p ∧ p ≤ 4611686018427387903) := by simpa only [mayW, decide_eq_false_iff_not] using hm
      have e1 : l.all mayW = false := by
        rw [List.all_eq_false]
        exact ⟨p, List.mem_of_getElem? hp', by simp [hm]⟩
      rw [ofR, ofE, e1]
      repeat' (first
        | ((with_reducible refine Side.intro ?_) <;> (first
        | omega
        | (simp only [List.append_nil, List.nil_append, List.map_nil]; first | exact List.nodup_nil | exact nodup_bid1 _ | exact nodup_bid2 (by assumption))
        | ((first | refine fresh_tup ?_ | skip); (repeat (first |  exact FreshA.sl _ _ FreshA_bs | exact FreshA.sl _ _ FreshA_is | exact FreshA.nils | exact FreshA.nilp | exact FreshA.int _ _ | exact FreshA.bool _ | exact FreshA.str _ | exact fresh_nil | refine fresh_cons ?_ ?_ | with_reducible refine fresh_aggR ?_ | with_reducible refine fresh_agg ?_ | with_reducible exact fresh_nilA | with_reducible refine fresh_consA ?_ ?_)); done)
        ))
        | ((conv => whnf) <;> (first
        | (with_reducible refine and_same ?_)
        | (with_reducible refine and_side ?_ ?_)
        | ((with_reducible apply Br.yes) ; (focus omega))
        | (with_reducible refine Br.mk (fun _ => ?_) (fun _ => ?_))
        | ((with_reducible apply nthR_is1) ; (focus assumption))
        | (with_reducible refine ia_sl ?_ ?_)
        | (with_reducible refine NOut.lit ?_)
        | (with_reducible refine lenR_sl ?_)
        ))
        )
      all_goals (conv => whnf)
      all_goals (try dsimp only)
      all_goals exact ret_nilt rfl
    · have hm' : 0 ≤ p ∧ p ≤ 4611686018427387903 := by simpa [mayW] using hm
      repeat' (first
        | ((with_reducible refine Side.intro ?_) <;> (first
        | omega
        ))
        | ((conv => whnf) <;> (first
        | (with_reducible refine and_same ?_)
        | ((with_reducible apply Br.yes) ; (focus omega))
        | ((with_reducible apply Br.no) ; (focus omega))
        | ((with_reducible apply nthR_is1) ; (focus assumption))
        | (with_reducible refine ia_sl ?_ ?_)
        | (with_reducible refine lenR_sl ?_)
        ))
        )
      all_goals (conv => whnf)
      all_goals (try dsimp only)
      have hnn : p = (p.toNat : Int) := by omega
      rw [hnn]
      refine (Bytes_ok p.toNat (by omega)).call (.cons (.int _ _ _) .nil) ?_
      rintro _ x σ1 rfl hg hG
      obtain ⟨hx, hxb⟩ := hG.sl_inv
      have hacc1 := hacc.keepN hg
      repeat' (first
        | ((conv => whnf) <;> (first
        | ((with_reducible apply rowsR_own) ; (focus assumption))
        | (with_reducible refine AppC.frz ?_)
        ))
        )
      all_goals (conv => whnf)
      all_goals (try dsimp only)
      refine appendR_own (rows := bs (cat (l.take k))) hacc1 (by rw [bs_length, bs_length, le_length, cat_length, List.length_take]; omega) ?_
      intro acc' σ' ho' hg' hb'
      repeat' (first
        | ((conv => whnf) <;> (first
        | (with_reducible refine and_same ?_)
        | ((with_reducible apply Br.yes) ; (focus omega))
        ))
        )
      all_goals (conv => whnf)
      all_goals (try dsimp only)
      refine ⟨(k + 1, σ', acc'), rfl, rfl, ⟨by omega, ?_, ?_⟩, by omega⟩
      · rw [List.take_add_one, hp', List.all_append, hall]
        simp [hm]
      · dsimp only
        rw [List.take_add_one, hp', cat_append, ← bs_append]
        simpa [cat_one] using ho'
  · have hkn : k = l.length := by omega
    subst hkn
    rw [List.take_length] at hall hacc
    rw [ofR, ofE, hall]
    repeat' (first
      | ((with_reducible refine Side.intro ?_) <;> (first
      | (simp only [List.append_nil, List.nil_append, List.map_nil]; first | exact List.nodup_nil | exact nodup_bid1 _ | exact nodup_bid2 (by assumption))
      | ((first | refine fresh_tup ?_ | skip); (repeat (first |  exact FreshA.sl _ _ FreshA_bs | exact FreshA.sl _ _ FreshA_is | exact FreshA.nils | exact FreshA.nilp | exact FreshA.int _ _ | exact FreshA.bool _ | exact FreshA.str _ | exact fresh_nil | refine fresh_cons ?_ ?_ | with_reducible refine fresh_aggR ?_ | with_reducible refine fresh_agg ?_ | with_reducible exact fresh_nilA | with_reducible refine fresh_consA ?_ ?_)); done)
      ))
      | ((conv => whnf) <;> (first
      | (with_reducible refine and_same ?_)
      | (with_reducible refine and_side ?_ ?_)
      | ((with_reducible apply Br.no) ; (focus omega))
      | ((with_reducible apply NOut.own) ; (focus assumption))
      | (with_reducible refine NOut.lit ?_)
      | (with_reducible refine lenR_sl ?_)
      ))
      )
    all_goals (conv => whnf)
    all_goals (try dsimp only)
    exact ret_same rfl
theorem Same_ok (a b : List Int) (ha : a.length ≤ 4611686018427) (hb : b.length ≤ 4611686018427) : AOKn Try.prog F.joistref01_Same [.sl 1 (is a) false, .sl 1 (is b) false] fun y => y = .bool (decide (a = b)) := by
  have hn := is_length a
  have hm := is_length b
  refine AOKn.by_steps mixed fc_joistref01_Same_ok (by simp [fc_joistref01_Same]) ?_
  by_cases hl : a.length = b.length
  · repeat' (first
      | ((conv => whnf) <;> (first
      | (with_reducible refine and_same ?_)
      | ((with_reducible apply Br.no) ; (focus omega))
      | (with_reducible refine lenR_sl ?_)
      ))
      )
    all_goals (conv => whnf)
    all_goals (try dsimp only)
    refine loop_at (α := Nat) (fun k => [(5, .int .i64 k)]) (fun k => []) (fun k => k ≤ a.length ∧ a.take k = b.take k) (fun k => a.length - k) 0 ⟨by omega, by simp⟩ rfl rfl ?_
    rintro k ⟨hk, hall⟩
    by_cases hlt : k < a.length
    · obtain ⟨p, hp, hp'⟩ := getN hlt
      obtain ⟨q, hq, hq'⟩ := getN (l := b) (k := k) (by omega)
      by_cases h0 : p = q
      · repeat' (first
          | ((with_reducible refine Side.intro ?_) <;> (first
          | omega
          ))
          | ((conv => whnf) <;> (first
          | (with_reducible refine and_same ?_)
          | ((with_reducible apply Br.yes) ; (focus omega))
          | ((with_reducible apply Br.no) ; (focus omega))
          | ((with_reducible apply nthR_is1) ; (focus assumption))
          | (with_reducible refine ia_sl ?_ ?_)
          | (with_reducible refine lenR_sl ?_)
          ))
          )
        all_goals (conv => whnf)
        all_goals (try dsimp only)
        refine ⟨k + 1, rfl, rfl, ⟨by omega, ?_⟩, by omega⟩
        rw [List.take_add_one, List.take_add_one, hp', hq', hall, h0]
      · have e1 : a ≠ b := fun e => h0 (by rw [e, hq'] at hp'; exact (Option.some.inj hp').symm)
        rw [decide_eq_false e1]
        repeat' (first
          | ((with_reducible refine Side.intro ?_) <;> (first
          | omega
          | (simp only [List.append_nil, List.nil_append, List.map_nil]; first | exact List.nodup_nil | exact nodup_bid1 _ | exact nodup_bid2 (by assumption))
          | ((first | refine fresh_tup ?_ | skip); (repeat (first |  exact FreshA.sl _ _ FreshA_bs | exact FreshA.sl _ _ FreshA_is | exact FreshA.nils | exact FreshA.nilp | exact FreshA.int _ _ | exact FreshA.bool _ | exact FreshA.str _ | exact fresh_nil | refine fresh_cons ?_ ?_ | with_reducible refine fresh_aggR ?_ | with_reducible refine fresh_agg ?_ | with_reducible exact fresh_nilA | with_reducible refine fresh_consA ?_ ?_)); done)
          ))
          | ((conv => whnf) <;> (first
          | (with_reducible refine and_same ?_)
          | (with_reducible refine and_side ?_ ?_)
          | ((with_reducible apply Br.yes) ; (focus omega))
          | ((with_reducible apply nthR_is1) ; (focus assumption))
          | (with_reducible refine ia_sl ?_ ?_)
          | (with_reducible refine NOut.lit ?_)
          | (with_reducible refine lenR_sl ?_)
          ))
          )
        all_goals (conv => whnf)
        all_goals (try dsimp only)
        exact ret_same rfl
    · have e1 : a = b := by
        rw [List.take_of_length_le (by omega), List.take_of_length_le (by omega)] at hall
        exact hall
      rw [decide_eq_true e1]
      repeat' (first
        | ((with_reducible refine Side.intro ?_) <;> (first
        | (simp only [List.append_nil, List.nil_append, List.map_nil]; first | exact List.nodup_nil | exact nodup_bid1 _ | exact nodup_bid2 (by assumption))
        | ((first | refine fresh_tup ?_ | skip); (repeat (first |  exact FreshA.sl _ _ FreshA_bs | exact FreshA.sl _ _ FreshA_is | exact FreshA.nils | exact FreshA.nilp | exact FreshA.int _ _ | exact FreshA.bool _ | exact FreshA.str _ | exact fresh_nil | refine fresh_cons ?_ ?_ | with_reducible refine fresh_aggR ?_ | with_reducible refine fresh_agg ?_ | with_reducible exact fresh_nilA | with_reducible refine fresh_consA ?_ ?_)); done)
        ))
        | ((conv => whnf) <;> (first
        | (with_reducible refine and_same ?_)
        | (with_reducible refine and_side ?_ ?_)
        | ((with_reducible apply Br.no) ; (focus omega))
        | (with_reducible refine NOut.lit ?_)
        | (with_reducible refine lenR_sl ?_)
        ))
        )
      all_goals (conv => whnf)
      all_goals (try dsimp only)
      exact ret_same rfl
  · have e1 : a ≠ b := fun e => hl (by rw [e])
    rw [decide_eq_false e1]
    repeat' (first
      | ((with_reducible refine Side.intro ?_) <;> (first
      | (simp only [List.append_nil, List.nil_append, List.map_nil]; first | exact List.nodup_nil | exact nodup_bid1 _ | exact nodup_bid2 (by assumption))
      | ((first | refine fresh_tup ?_ | skip); (repeat (first |  exact FreshA.sl _ _ FreshA_bs | exact FreshA.sl _ _ FreshA_is | exact FreshA.nils | exact FreshA.nilp | exact FreshA.int _ _ | exact FreshA.bool _ | exact FreshA.str _ | exact fresh_nil | refine fresh_cons ?_ ?_ | with_reducible refine fresh_aggR ?_ | with_reducible refine fresh_agg ?_ | with_reducible exact fresh_nilA | with_reducible refine fresh_consA ?_ ?_)); done)
      ))
      | ((conv => whnf) <;> (first
      | (with_reducible refine and_same ?_)
      | (with_reducible refine and_side ?_ ?_)
      | ((with_reducible apply Br.yes) ; (focus omega))
      | (with_reducible refine NOut.lit ?_)
      | (with_reducible refine lenR_sl ?_)
      ))
      )
    all_goals (conv => whnf)
    all_goals (try dsimp only)
    exact ret_same rfl
end Go.Proofs.Ythalikgchafjiaa

namespace Go.Proofs.Ythalikgchafjiaa
open Go Go.Proofs.Ythalikgchafjiaa.V
set_option maxRecDepth 20000
attribute [local irreducible] CallS AOK AOKn ALoop Side Ref.ok
theorem untagLL_is (l : List Int) : untagLL (is l) = is l := by
  induction l with
  | nil => rfl
  | cons b s ih =>
    have : is (b :: s) = [.int .i64 b] :: is s := rfl
    rw [this, untagLL, ih]; rfl
theorem Looks.ownis {σ : AH} {x : AV} {s : List Int} (h : Own σ 1 x (is s)) : Looks σ x (.sl 1 (is s) false) := by
  have := Looks.own h
  rwa [untagLL_is] at this
theorem Of_call (l : List Int) (hs : l.length ≤ 461168601842) {σ : AH} {x : AV} (hx : Looks σ x (.sl 1 (is l) false)) {Q : AV → AH → Prop} (h : ∀ σ' y, Gr σ σ' none → Own σ' 1 y (bs (ofR l)) → New σ y → Q (.tup [y, .int .i64 (ofE l)]) σ') : CallS Try.prog F.words_Of [x] σ Q :=
  call_sl1 (words_Of_ok l hs) (.cons hx .nil) rfl h
theorem ROf_call (l : List Int) (hs : l.length ≤ 461168601842) {σ : AH} {x : AV} (hx : Looks σ x (.sl 1 (is l) false)) {Q : AV → AH → Prop} (h : ∀ σ' y, Gr σ σ' none → Own σ' 1 y (bs (ofR l)) → New σ y → Q (.tup [y, .int .i64 (ofE l)]) σ') : CallS Try.prog F.joistref01_Of [x] σ Q :=
  call_sl1 (ref_Of_ok l hs) (.cons hx .nil) rfl h
theorem All_call (s : List UInt8) (hs : s.length ≤ 4611686018427) {σ : AH} {x : AV} (hx : Looks σ x (.sl 1 (bs s) false)) {Q : AV → AH → Prop} (h : ∀ σ' y, Gr σ σ' none → Own σ' 1 y (is (allR s)) → New σ y → Q (.tup [y, .bool (allOk s)]) σ') : CallS Try.prog F.words_All [x] σ Q :=
  call_sl1 (words_All_ok s hs) (.cons hx .nil) rfl h
theorem Same_call (a b : List Int) (ha : a.length ≤ 4611686018427) (hb : b.length ≤ 4611686018427) {σ : AH} {x y : AV} (hx : Looks σ x (.sl 1 (is a) false)) (hy : Looks σ y (.sl 1 (is b) false)) {Q : AV → AH → Prop} (h : ∀ σ', Gr σ σ' none → Q (.bool (decide (a = b))) σ') : CallS Try.prog F.joistref01_Same [x, y] σ Q :=
  call_one (Same_ok a b ha hb) (.cons hx (.cons hy .nil)) rfl h
end Go.Proofs.Ythalikgchafjiaa

namespace Go.Proofs.Ythalikgchafjiaa
open Go Go.Proofs.Ythalikgchafjiaa.V
set_option maxRecDepth 20000
attribute [local irreducible] CallS AOK AOKn ALoop Side Ref.ok
/-! A node's words. -/
def flatP (sh : Int) (ps : List (Int × Int)) : List Int := ps.flatMap fun p => [p.1, p.2 + sh]
def ndK (h sh : Int) (ps : List (Int × Int)) (k : Nat) : List Int := h :: flatP sh (ps.take k) ++ List.replicate (15 - 2 * k) 0
def ndW (leaf : Bool) (sh : Int) (ps : List (Int × Int)) : List Int := ndK (2 * ps.length + (if leaf then 1 else 0)) (if leaf then 0 else sh) ps ps.length
theorem flatP_length (sh : Int) (ps : List (Int × Int)) : (flatP sh ps).length = 2 * ps.length := by
  induction ps with
  | nil => rfl
  | cons p ps ih => simp only [flatP, List.flatMap_cons, List.length_append, List.length_cons, List.length_nil] at *; omega
theorem ndK_length {h sh : Int} {ps : List (Int × Int)} {k : Nat} (hk : k ≤ ps.length) (h7 : ps.length ≤ 7) : (ndK h sh ps k).length = 16 := by
  simp only [ndK, List.length_append, List.length_cons, List.length_replicate, flatP_length, List.length_take]
  omega
theorem ndK_step {h sh : Int} {ps : List (Int × Int)} {k : Nat} {p : Int × Int} (hp : ps[k]? = some p) (h7 : ps.length ≤ 7) : ((ndK h sh ps k).set (1 + 2 * k) p.1).set (2 + 2 * k) (p.2 + sh) = ndK h sh ps (k + 1) := by
  have hk := (List.getElem?_eq_some_iff.1 hp).1
  have hl : (h :: flatP sh (ps.take k)).length = 1 + 2 * k := by
    simp only [List.length_cons, flatP_length, List.length_take]; omega
  have e1 : ps.take (k + 1) = ps.take k ++ [p] := by rw [List.take_add_one, hp]; rfl
  have e2 : flatP sh (ps.take (k + 1)) = flatP sh (ps.take k) ++ [p.1, p.2 + sh] := by rw [e1]; simp [flatP]
  have e3 : List.replicate (15 - 2 * k) (0 : Int) = 0 :: 0 :: List.replicate (15 - 2 * (k + 1)) 0 := by
    rw [show 15 - 2 * k = (15 - 2 * (k + 1)) + 1 + 1 from by omega]; rfl
  unfold ndK
  rw [e2, e3, List.set_append_right _ _ (by rw [hl]; omega), hl, Nat.sub_self, List.set_cons_zero, List.set_append_right _ _ (by rw [hl]; omega), hl, show 2 + 2 * k - (1 + 2 * k) = 1 from by omega]
  simp [List.append_assoc]
theorem ndK_zero (h sh : Int) (ps : List (Int × Int)) : ndK h sh ps 0 = h :: List.replicate 15 0 := by simp [ndK, flatP]
theorem nthR_isj {w : List Int} {j v : Int} {K : List AV → Prop} (h : w[j.toNat]? = some v) (hk : K [.int .i64 v]) : nthR (is w) (0 + j.toNat) K :=
  nthR_intro (x := [.int .i64 v]) (by rw [Nat.zero_add]; simp [is, h]) hk
theorem nthR_isset {w : List Int} {a : Nat} {r : List AV} {j v : Int} {K : List AV → Prop} (h : w[j.toNat]? = some v ∧ a ≠ 0 + j.toNat) (hk : K [.int .i64 v]) : nthR ((is w).set a r) (0 + j.toNat) K :=
  nthR_intro (x := [.int .i64 v]) (by rw [List.getElem?_set_ne h.2, Nat.zero_add]; simp [is, h.1]) hk
theorem or1 {n : Nat} (h : n ≤ 7) : IntKind.i64.wrap ((BitVec.ofInt IntKind.i64.bits (2 * (n : Int)) ||| BitVec.ofInt IntKind.i64.bits 1).toNat : Int) = 2 * (n : Int) + 1 := by
  have : ∀ m : Fin 8, IntKind.i64.wrap ((BitVec.ofInt IntKind.i64.bits (2 * ((m : Nat) : Int)) ||| BitVec.ofInt IntKind.i64.bits 1).toNat : Int) = 2 * ((m : Nat) : Int) + 1 := by decide +kernel
  exact this ⟨n, by omega⟩
theorem ok_setsh {σ : AH} {i id : Nat} {b : Blk} (h : i ≠ id) : Side (Ref.ok σ (σ.set i b) (.sh id)) := by
  refine Side.intro ?_
  simp only [Ref.ok]
  intro b' hb'
  exact ⟨b', by rw [List.getElem?_set_ne h]; exact hb', rfl, rfl, rfl, rfl, rfl⟩
theorem ok_setco {σ : AH} {i id : Nat} {b : Blk} (h : i ≠ id) : Side (Ref.ok σ (σ.set i b) (.co id)) := by
  refine Side.intro ?_
  simp only [Ref.ok]
  intro b' hb'
  exact ⟨b', by rw [List.getElem?_set_ne h]; exact hb', rfl, rfl, rfl, rfl, rfl⟩
attribute [local irreducible] ndK
theorem put_ok (leaf : Bool) (ps : List (Int × Int)) (sh : Int) (h7 : ps.length ≤ 7) (hs0 : 0 ≤ sh) (hs1 : sh ≤ 1048576) (hp : ∀ p, p ∈ ps → 0 ≤ p.2 ∧ p.2 ≤ 1048576) : AOKn Try.prog F.tree_node_put [.agg [.bool leaf, .sl 2 (sp ps) false], .int .i64 sh] fun y => y = .sl 1 (bs (ofR (ndW leaf sh ps))) true := by
  have hn := sp_length ps
  refine AOKn.by_steps mixed fc_tree_node_put_ok (by simp [fc_tree_node_put]) ?_
  cases leaf
  · repeat' (first
      | ((with_reducible refine Side.intro ?_) <;> (first
      | omega
      | exact Nat.le_of_ble_eq_true rfl
      | exact rfl
      ))
      | ((conv => whnf) <;> (first
      | (with_reducible refine and_same ?_)
      | (with_reducible refine and_side ?_ ?_)
      | ((with_reducible apply Br.yes) ; (focus omega))
      | ((with_reducible apply blkAt_step) ; (focus (first
      | exact rfl
      )) ; (focus (first | rfl | assumption | omega)) ; (focus (first | rfl | assumption)) ; (try dsimp only))
      | (with_reducible refine IaW.of ?_)
      | (with_reducible refine lenR_sl ?_)
      ))
      )
    all_goals (conv => whnf)
    all_goals (try dsimp only)
    refine loop_at (α := Nat × AH) (fun a => [(28, .int .i64 a.1)]) (fun a => a.2) (fun a => a.1 ≤ ps.length ∧ a.2[1]? = some { sz := 1, els := is (ndK (2 * ps.length + 0) sh ps a.1), gen := 0, wr := true, pure := true }) (fun a => ps.length - a.1) (0, _) ⟨Nat.zero_le _, ?_⟩ rfl rfl ?_
    · dsimp only
      rw [ndK_zero, ← hn]
      rfl
    rintro ⟨i, σ⟩ ⟨hi, hb⟩
    dsimp only at hi hb ⊢
    have hkl := ndK_length (h := 2 * ps.length + 0) (sh := sh) hi h7
    have hil := is_length (ndK (2 * ps.length + 0) sh ps i)
    by_cases hlt : i < ps.length
    · obtain ⟨p, hp1, hp2⟩ := getN (l := ps) (k := i) hlt
      have hpb := hp p (List.mem_of_getElem? hp2)
      have hbl := (List.getElem?_eq_some_iff.1 hb).1
      have hst := ndK_step (h := 2 * ps.length + 0) (sh := sh) hp2 h7
      generalize ndK (2 * ps.length + 0) sh ps i = w at *
      obtain ⟨v1, hv1⟩ : ∃ v, w[(1 + 2 * (i : Int)).toNat]? = some v := ⟨_, List.getElem?_eq_getElem (by omega)⟩
      obtain ⟨v2, hv2⟩ : ∃ v, w[(2 + 2 * (i : Int)).toNat]? = some v := ⟨_, List.getElem?_eq_getElem (by omega)⟩
      have hv3 : w[(2 + 2 * (i : Int)).toNat]? = some v2 ∧ 0 + (1 + 2 * (i : Int)).toNat ≠ 0 + (2 + 2 * (i : Int)).toNat := ⟨hv2, by omega⟩
      repeat' (first
        | ((with_reducible refine Side.intro ?_) <;> (first
        | omega
        | exact Nat.le_of_ble_eq_true rfl
        | exact rfl
        ))
        | ((conv => whnf) <;> (first
        | (with_reducible refine and_same ?_)
        | (with_reducible refine and_side ?_ ?_)
        | ((with_reducible apply Br.yes) ; (focus omega))
        | ((with_reducible apply blkAt_step) ; (focus (first
        | ((repeat (first
        | assumption
        | exact get_new
        | exact get_set get_new
        | with_reducible apply get_set
        | apply get_old
        | (apply get_set_ne; (focus (first | omega | (simp only [newB_length, List.length_set, List.length_append, List.length_singleton, List.length_nil]; omega))))
        )); done)
        )) ; (focus (first | rfl | assumption | omega)) ; (focus (first | rfl | assumption)) ; (try dsimp only))
        | ((with_reducible apply nthR_sp) ; (focus assumption))
        | ((with_reducible apply nthR_isj) ; (focus assumption))
        | ((with_reducible apply nthR_isset) ; (focus assumption))
        | (with_reducible refine ia_sl ?_ ?_)
        | (with_reducible refine IaW.of ?_)
        ))
        )
      all_goals (conv => whnf)
      all_goals (try dsimp only)
      · refine ⟨(i + 1, _), rfl, rfl, ⟨by omega, ?_⟩, by omega⟩
        dsimp only
        refine (get_set (i := 1) (get_set (i := 1) (get_set_ne (show σ.length ≠ 1 by omega) (get_old hb)))).trans ?_
        congr 1
        rw [← hst, ← is_set, ← is_set]
        have e1 : 0 + (1 + 2 * (i : Int)).toNat = 1 + 2 * i := by omega
        have e2 : 0 + (2 + 2 * (i : Int)).toNat = 2 + 2 * i := by omega
        rw [e1, e2]
        rfl
      all_goals first
        | exact ok_setco (show (1 : Nat) ≠ σ.length by omega)
        | exact ok_setsh (show (1 : Nat) ≠ σ.length by omega)
    · have e : i = ps.length := by omega
      subst e
      have how : Own σ 1 (.rsl 1 0 0 16 none) (is (ndK (2 * ps.length + 0) sh ps ps.length)) := .inr ⟨1, 0, [], by rw [hil, hkl], by rw [List.append_nil]; exact hb⟩
      have hW : ndW false sh ps = ndK (2 * ps.length + 0) sh ps ps.length := rfl
      repeat' (first
        | ((conv => whnf) <;> (first
        | (with_reducible refine and_same ?_)
        | ((with_reducible apply Br.no) ; (focus omega))
        ))
        )
      all_goals (conv => whnf)
      all_goals (try dsimp only)
      refine Of_call _ (by rw [hkl]; omega) (Looks.ownis how) fun σ' y hg hy hnw => ?_
      rw [← hW] at hy ⊢
      skip
      all_goals (conv => whnf)
      all_goals (try dsimp only)
      exact outNR_own hy (fresh_bs _) rfl
  · repeat' (first
      | ((with_reducible refine Side.intro ?_) <;> (first
      | omega
      | exact Nat.le_of_ble_eq_true rfl
      | exact rfl
      ))
      | ((conv => whnf) <;> (first
      | (with_reducible refine and_same ?_)
      | (with_reducible refine and_side ?_ ?_)
      | ((with_reducible apply Br.yes) ; (focus omega))
      | ((with_reducible apply blkAt_step) ; (focus (first
      | exact rfl
      )) ; (focus (first | rfl | assumption | omega)) ; (focus (first | rfl | assumption)) ; (try dsimp only))
      | (with_reducible refine IaW.of ?_)
      | (with_reducible refine lenR_sl ?_)
      ))
      )
    all_goals (conv => whnf)
    all_goals (try dsimp only)
    refine loop_at (α := Nat × AH) (fun a => [(28, .int .i64 a.1)]) (fun a => a.2) (fun a => a.1 ≤ ps.length ∧ a.2[1]? = some { sz := 1, els := is (ndK (2 * ps.length + 1) 0 ps a.1), gen := 0, wr := true, pure := true }) (fun a => ps.length - a.1) (0, _) ⟨Nat.zero_le _, ?_⟩ rfl rfl ?_
    · dsimp only
      rw [ndK_zero, ← hn, ← or1 (by omega)]
      rfl
    rintro ⟨i, σ⟩ ⟨hi, hb⟩
    dsimp only at hi hb ⊢
    have hkl := ndK_length (h := 2 * ps.length + 1) (sh := 0) hi h7
    have hil := is_length (ndK (2 * ps.length + 1) 0 ps i)
    by_cases hlt : i < ps.length
    · obtain ⟨p, hp1, hp2⟩ := getN (l := ps) (k := i) hlt
      have hpb := hp p (List.mem_of_getElem? hp2)
      have hbl := (List.getElem?_eq_some_iff.1 hb).1
      have hst := ndK_step (h := 2 * ps.length + 1) (sh := 0) hp2 h7
      generalize ndK (2 * ps.length + 1) 0 ps i = w at *
      obtain ⟨v1, hv1⟩ : ∃ v, w[(1 + 2 * (i : Int)).toNat]? = some v := ⟨_, List.getElem?_eq_getElem (by omega)⟩
      obtain ⟨v2, hv2⟩ : ∃ v, w[(2 + 2 * (i : Int)).toNat]? = some v := ⟨_, List.getElem?_eq_getElem (by omega)⟩
      have hv3 : w[(2 + 2 * (i : Int)).toNat]? = some v2 ∧ 0 + (1 + 2 * (i : Int)).toNat ≠ 0 + (2 + 2 * (i : Int)).toNat := ⟨hv2, by omega⟩
      repeat' (first
        | ((with_reducible refine Side.intro ?_) <;> (first
        | omega
        | exact Nat.le_of_ble_eq_true rfl
        | exact rfl
        ))
        | ((conv => whnf) <;> (first
        | (with_reducible refine and_same ?_)
        | (with_reducible refine and_side ?_ ?_)
        | ((with_reducible apply Br.yes) ; (focus omega))
        | ((with_reducible apply blkAt_step) ; (focus (first
        | ((repeat (first
        | assumption
        | exact get_new
        | exact get_set get_new
        | with_reducible apply get_set
        | apply get_old
        | (apply get_set_ne; (focus (first | omega | (simp only [newB_length, List.length_set, List.length_append, List.length_singleton, List.length_nil]; omega))))
        )); done)
        )) ; (focus (first | rfl | assumption | omega)) ; (focus (first | rfl | assumption)) ; (try dsimp only))
        | ((with_reducible apply nthR_sp) ; (focus assumption))
        | ((with_reducible apply nthR_isj) ; (focus assumption))
        | ((with_reducible apply nthR_isset) ; (focus assumption))
        | (with_reducible refine ia_sl ?_ ?_)
        | (with_reducible refine IaW.of ?_)
        ))
        )
      all_goals (conv => whnf)
      all_goals (try dsimp only)
      · refine ⟨(i + 1, _), rfl, rfl, ⟨by omega, ?_⟩, by omega⟩
        dsimp only
        refine (get_set (i := 1) (get_set (i := 1) (get_set_ne (show σ.length ≠ 1 by omega) (get_old hb)))).trans ?_
        congr 1
        rw [← hst, ← is_set, ← is_set]
        have e1 : 0 + (1 + 2 * (i : Int)).toNat = 1 + 2 * i := by omega
        have e2 : 0 + (2 + 2 * (i : Int)).toNat = 2 + 2 * i := by omega
        rw [e1, e2]
        rfl
      all_goals first
        | exact ok_setco (show (1 : Nat) ≠ σ.length by omega)
        | exact ok_setsh (show (1 : Nat) ≠ σ.length by omega)
    · have e : i = ps.length := by omega
      subst e
      have how : Own σ 1 (.rsl 1 0 0 16 none) (is (ndK (2 * ps.length + 1) 0 ps ps.length)) := .inr ⟨1, 0, [], by rw [hil, hkl], by rw [List.append_nil]; exact hb⟩
      have hW : ndW true sh ps = ndK (2 * ps.length + 1) 0 ps ps.length := rfl
      repeat' (first
        | ((conv => whnf) <;> (first
        | (with_reducible refine and_same ?_)
        | ((with_reducible apply Br.no) ; (focus omega))
        ))
        )
      all_goals (conv => whnf)
      all_goals (try dsimp only)
      refine Of_call _ (by rw [hkl]; omega) (Looks.ownis how) fun σ' y hg hy hnw => ?_
      rw [← hW] at hy ⊢
      skip
      all_goals (conv => whnf)
      all_goals (try dsimp only)
      exact outNR_own hy (fresh_bs _) rfl
end Go.Proofs.Ythalikgchafjiaa

namespace Go.Proofs.Ythalikgchafjiaa
open Go Go.Proofs.Ythalikgchafjiaa.V
set_option maxRecDepth 20000
attribute [local irreducible] CallS AOK AOKn ALoop Side Ref.ok
/-! The iterators: their own code, yield by what the round asks. -/
theorem yl_intro {C : CallP} {Y : List AV → AH → (AV → AH → Prop) → Prop} {l : List AV} {σ : AH} {K K0 : AV → AH → Prop} (h : Y l σ K0) (hk : ∀ x τ, K0 x τ → K x τ) : Yc C Y yno l σ K := Yc.yl ⟨K0, hk, h⟩
theorem nest_at {xs : List AV} {j : Int} {x : AV} {K : List AV → Prop} (h : xs[j.toNat]? = some x) (hk : K [x]) : nthR (xs.map fun x => [x]) (0 + j.toNat) K :=
  nthR_intro (x := [x]) (by simp [h]) hk
theorem rok_Backward : rokF Try.prog F.slices_Backward_1 = true := by kernel_rfl
theorem Back_iter {σ : AH} {idb id : Nat} {s : AV} {xs : List AV} {J : Nat → AH → Prop} {Y : List AV → AH → (AV → AH → Prop) → Prop} {Q : AH → Prop} (hl : xs.length ≤ 4611686018427)
    (hJ : ∀ k σ', J k σ' → NestS σ' s xs ∧ ∃ p, σ'[idb]? = some { sz := 1, els := [[s]], gen := 0, wr := true, pure := p }) (h0 : J 0 σ) (hn : ∀ σ', J xs.length σ' → Q σ')
    (hY : ∀ k σ' x, k < xs.length → J k σ' → xs[xs.length - 1 - k]? = some x → Y [.rsl id 0 1 0 none, .int .i64 ((xs.length : Int) - 1 - k), x] σ' fun y σ'' => y = .bool true ∧ J (k + 1) σ'') : IterS Try.prog F.slices_Backward_1 [.ptr idb 0 0 0] σ id Y Q := by
  refine IterS.of fc_slices_Backward_1_ok rok_Backward (by simp [fc_slices_Backward_1]) ?_
  obtain ⟨hs, p, hb⟩ := hJ 0 σ h0
  have hxl : (xs.map fun x => [x]).length = xs.length := List.length_map _
  repeat' (first
    | ((conv => whnf) <;> (first
    | (with_reducible refine and_same ?_)
    | ((with_reducible apply Br.yes) ; (focus omega))
    | ((with_reducible apply blkAt_step) ; (focus (first
    | ((repeat (first
    | assumption
    )); done)
    )) ; (focus (first | rfl | assumption | omega)) ; (focus (first | rfl | assumption)) ; (try dsimp only))
    | ((with_reducible apply NestR.lenW) ; (focus assumption))
    ))
    )
  all_goals (conv => whnf)
  all_goals (try dsimp only)
  refine loop_at (α := Nat × AH) (fun a => [(3, .int .i64 ((xs.length : Int) - 1 - a.1))]) (fun a => a.2) (fun a => a.1 ≤ xs.length ∧ J a.1 a.2) (fun a => xs.length - a.1) (0, σ) ⟨by omega, h0⟩ (by rw [hxl]; simp [Fr.upd, Fr.pick]) rfl ?_
  rintro ⟨k, σ1⟩ ⟨hk, hJk⟩
  dsimp only at hk hJk ⊢
  obtain ⟨hs1, p1, hb1⟩ := hJ k σ1 hJk
  by_cases hlt : k < xs.length
  · obtain ⟨x, hx⟩ : ∃ x, xs[xs.length - 1 - k]? = some x := ⟨_, List.getElem?_eq_getElem (by omega)⟩
    have hx' : xs[((xs.length : Int) - 1 - k).toNat]? = some x := by rw [← hx]; congr 1; omega
    repeat' (first
      | ((with_reducible refine Side.intro ?_) <;> (first
      | omega
      ))
      | ((conv => whnf) <;> (first
      | (with_reducible refine and_same ?_)
      | ((with_reducible apply Br.yes) ; (focus omega))
      | ((with_reducible apply blkAt_step) ; (focus (first
      | ((repeat (first
      | assumption
      )); done)
      )) ; (focus (first | rfl | assumption | omega)) ; (focus (first | rfl | assumption)) ; (try dsimp only))
      | ((with_reducible apply nest_at) ; (focus assumption))
      | ((with_reducible apply NestR.ia) ; (focus assumption))
      | (with_reducible intro _)
      ))
      )
    all_goals (conv => whnf)
    all_goals (try dsimp only)
    refine ⟨_, ?_, hY k σ1 x hlt hJk hx⟩
    rintro _ σ2 ⟨rfl, hJ2⟩
    repeat' (first
      | ((conv => whnf) <;> (first
      | (with_reducible refine and_same ?_)
      | ((with_reducible apply Br.yes) ; (focus omega))
      ))
      )
    all_goals (conv => whnf)
    all_goals (try dsimp only)
    exact ⟨(k + 1, σ2), by simp only [show (xs.length : Int) - 1 - (k + 1 : Nat) = (xs.length : Int) - 1 - k - 1 from by omega]; rfl, rfl, ⟨by omega, hJ2⟩, by omega⟩
  · repeat' (first
      | ((conv => whnf) <;> (first
      | (with_reducible refine and_same ?_)
      | ((with_reducible apply Br.no) ; (focus omega))
      ))
      )
    all_goals (conv => whnf)
    all_goals (try dsimp only)
    have e : k = xs.length := by omega
    subst e
    exact hn _ hJk
theorem rok_Chunk : rokF Try.prog F.slices_Chunk_1 = true := by kernel_rfl
theorem Chunk_iter {σ : AH} {idb idc id idp gp : Nat} {els : List (List AV)} {n : Nat} {J : Nat → AH → Prop} {Y : List AV → AH → (AV → AH → Prop) → Prop} {Q : AH → Prop} (hl : n ≤ 4611686018427) (hle : n ≤ els.length)
    (hJ : ∀ k σ', J k σ' → (∃ p, σ'[idb]? = some { sz := 1, els := [[.rsl idp gp 0 n none]], gen := 0, wr := true, pure := p }) ∧ (∃ p, σ'[idc]? = some { sz := 1, els := [[.int .i64 7]], gen := 0, wr := true, pure := p }) ∧ ∃ p, σ'[idp]? = some { sz := 2, els := els, gen := gp, wr := true, pure := p }) (h0 : J 0 σ) (hn : ∀ σ', J ((n + 6) / 7) σ' → Q σ')
    (hY : ∀ k σ', 7 * k < n → J k σ' → Y [.rsl id 0 1 0 none, .rsl idp gp (7 * k) (min 7 (n - 7 * k)) (some (min 7 (n - 7 * k)))] σ' fun y σ'' => y = .bool true ∧ J (k + 1) σ'') : IterS Try.prog F.slices_Chunk_1 [.ptr idb 0 0 0, .ptr idc 0 0 0] σ id Y Q := by
  refine IterS.of fc_slices_Chunk_1_ok rok_Chunk (by simp [fc_slices_Chunk_1]) ?_
  obtain ⟨⟨p, hb⟩, ⟨q, hc⟩, ⟨r, hp⟩⟩ := hJ 0 σ h0
  skip
  all_goals (conv => whnf)
  all_goals (try dsimp only)
  refine loop_at (α := Nat × AH) (fun a => [(4, .int .i64 ((7 * a.1 : Nat) : Int))]) (fun a => a.2) (fun a => a.1 ≤ (n + 6) / 7 ∧ J a.1 a.2) (fun a => n + 7 - 7 * a.1) (0, σ) ⟨by omega, h0⟩ rfl rfl ?_
  rintro ⟨k, σ1⟩ ⟨hk, hJk⟩
  dsimp only at hk hJk ⊢
  obtain ⟨⟨p1, hb1⟩, ⟨q1, hc1⟩, ⟨r1, hp1⟩⟩ := hJ k σ1 hJk
  by_cases hlt : 7 * k < n
  · have hY2 : ∀ A B C, A = 7 * k → B = min 7 (n - 7 * k) → C = min 7 (n - 7 * k) → Y [.rsl id 0 1 0 none, .rsl idp gp A B (some C)] σ1 fun y σ'' => y = .bool true ∧ J (k + 1) σ'' := by
      rintro _ _ _ rfl rfl rfl
      exact hY k σ1 hlt hJk
    repeat' (first
      | ((with_reducible refine Side.intro ?_) <;> (first
      | omega
      ))
      | ((conv => whnf) <;> (first
      | (with_reducible refine and_same ?_)
      | (with_reducible refine and_side ?_ ?_)
      | ((with_reducible apply Br.yes) ; (focus omega))
      | (with_reducible refine Br.mk (fun _ => ?_) (fun _ => ?_))
      | ((with_reducible apply blkAt_step) ; (focus (first
      | ((repeat (first
      | assumption
      )); done)
      )) ; (focus (first | rfl | assumption | omega)) ; (focus (first | rfl | assumption)) ; (try dsimp only))
      | (with_reducible refine SliceW.of ?_)
      | (with_reducible refine lenR_rsl ?_)
      ))
      )
    all_goals (conv => whnf)
    all_goals (try dsimp only)
    all_goals refine ⟨_, ?_, hY2 _ _ _ (by omega) (by omega) (by omega)⟩
    all_goals rintro _ σ2 ⟨rfl, hJ2⟩
    all_goals obtain ⟨⟨p2, hb2⟩, ⟨q2, hc2⟩, ⟨r2, hp2⟩⟩ := hJ (k + 1) σ2 hJ2
    · repeat' (first
        | ((conv => whnf) <;> (first
        | (with_reducible refine and_same ?_)
        | ((with_reducible apply Br.yes) ; (focus omega))
        | ((with_reducible apply blkAt_step) ; (focus (first
        | ((repeat (first
        | assumption
        )); done)
        )) ; (focus (first | rfl | assumption | omega)) ; (focus (first | rfl | assumption)) ; (try dsimp only))
        ))
        )
      all_goals (conv => whnf)
      all_goals (try dsimp only)
      exact ⟨(k + 1, σ2), by simp only [show ((7 * (k + 1) : Nat) : Int) = ((7 * k : Nat) : Int) + 7 from by omega]; rfl, rfl, ⟨by omega, hJ2⟩, by omega⟩
    · repeat' (first
        | ((conv => whnf) <;> (first
        | (with_reducible refine and_same ?_)
        | ((with_reducible apply Br.yes) ; (focus omega))
        | ((with_reducible apply blkAt_step) ; (focus (first
        | ((repeat (first
        | assumption
        )); done)
        )) ; (focus (first | rfl | assumption | omega)) ; (focus (first | rfl | assumption)) ; (try dsimp only))
        ))
        )
      all_goals (conv => whnf)
      all_goals (try dsimp only)
      exact ⟨(k + 1, σ2), by simp only [show ((7 * (k + 1) : Nat) : Int) = ((7 * k : Nat) : Int) + 7 from by omega]; rfl, rfl, ⟨by omega, hJ2⟩, by omega⟩
  · repeat' (first
      | ((conv => whnf) <;> (first
      | (with_reducible refine and_same ?_)
      | ((with_reducible apply Br.no) ; (focus omega))
      | ((with_reducible apply blkAt_step) ; (focus (first
      | ((repeat (first
      | assumption
      )); done)
      )) ; (focus (first | rfl | assumption | omega)) ; (focus (first | rfl | assumption)) ; (try dsimp only))
      | (with_reducible refine lenR_rsl ?_)
      ))
      )
    all_goals (conv => whnf)
    all_goals (try dsimp only)
    have e : k = (n + 6) / 7 := by omega
    subst e
    exact hn _ hJk
end Go.Proofs.Ythalikgchafjiaa

namespace Go.Proofs.Ythalikgchafjiaa
open Go Go.Proofs.Ythalikgchafjiaa.V
set_option maxRecDepth 20000
attribute [local irreducible] CallS AOK AOKn ALoop Side Ref.ok
/-- Slices that were lent: each block with the mark behind. -/
def Lents (σ : AH) (xs : List AV) (D : List (List UInt8)) : Prop := ∀ (j : Nat) (x : AV) (d : List UInt8), xs[j]? = some x → D[j]? = some d → ∃ id, x = .rsl id 0 0 d.length none ∧ σ[id]? = some { sz := 1, els := bs (d ++ [77]), gen := 0, wr := true, pure := true }
theorem Lents.nil (σ : AH) : Lents σ [] [] := fun j x d h => by simp at h
theorem Lents.keep {σ σ' : AH} {o : Option Nat} {xs : List AV} {D : List (List UInt8)} (h : Lents σ xs D) (hg : Gr σ σ' o) (hd : ∀ x, x ∈ xs → x.bid = none ∨ o ≠ x.bid) : Lents σ' xs D := fun j x d h1 h2 => by
  obtain ⟨id, rfl, hb⟩ := h j x d h1 h2
  refine ⟨id, rfl, hg.2 id _ hb ?_⟩
  rcases hd _ (List.mem_of_getElem? h1) with q | q
  · cases q
  · exact fun e => q e
theorem Lents.keepN {σ σ' : AH} {xs : List AV} {D : List (List UInt8)} (h : Lents σ xs D) (hg : Gr σ σ' none) : Lents σ' xs D := h.keep hg fun x _ => by cases x.bid <;> simp
theorem Lents.snoc {σ : AH} {xs : List AV} {D : List (List UInt8)} (hl : xs.length = D.length) (h : Lents σ xs D) {id : Nat} {d : List UInt8} (hb : σ[id]? = some { sz := 1, els := bs (d ++ [77]), gen := 0, wr := true, pure := true }) : Lents σ (xs ++ [.rsl id 0 0 d.length none]) (D ++ [d]) := fun j x e h1 h2 => by
  rw [List.getElem?_append] at h1 h2
  rw [hl] at h1
  split at h1
  · rename_i hj
    rw [if_pos hj] at h2
    exact h j x e h1 h2
  · rename_i hj
    rw [if_neg hj] at h2
    have : j - D.length = 0 := by
      cases q : j - D.length with
      | zero => rfl
      | succ n => rw [q] at h1; simp at h1
    rw [this] at h1 h2
    simp at h1 h2
    subst h1; subst h2
    exact ⟨id, rfl, hb⟩
theorem Lents.own {σ : AH} {xs : List AV} {D : List (List UInt8)} (h : Lents σ xs D) {j : Nat} {x : AV} {d : List UInt8} (h1 : xs[j]? = some x) (h2 : D[j]? = some d) : Own σ 1 x (bs d) := by
  obtain ⟨id, rfl, hb⟩ := h j x d h1 h2
  exact .mk' (sp := bs [77]) hb (by rw [bs_length]) (by rw [bs_append])
theorem Owned_sep {σ0 : AH} {xs : List AV} {D : List (List UInt8)} (S : Sep σ0 xs D) {σ : AH} (hg : Gr σ0 σ none) {idr : Nat} (gr : Nat) (pu wr fu : Bool) (hi : σ0.length ≤ idr) (hr : σ[idr]? = some { sz := 1, els := xs.map fun x => [x], gen := gr, wr := wr, pure := pu, full := fu })
    (hl : xs.length ≤ 4611686018427) (Q : AV → AH → Prop) (h : ∀ σ', Els σ σ' xs → Q (.bool true) σ') : CallS Try.prog F.joistlaw01_Owned [.rsl idr gr 0 xs.length none] σ Q := by
  refine Owned_own σ xs idr gr pu wr fu hr (fun j x hj => ?_) S.dis (fun j x hj e => ?_) hl Q h
  · obtain ⟨d, _, ho⟩ := S.row hj
    exact ⟨_, ho.keepN hg⟩
  · have := S.lt (List.mem_of_getElem? hj) e
    omega
end Go.Proofs.Ythalikgchafjiaa

namespace Go.Proofs.Ythalikgchafjiaa
open Go Go.Proofs.Ythalikgchafjiaa.V
set_option maxRecDepth 20000
attribute [local irreducible] CallS AOK AOKn ALoop Side Ref.ok
/-! Nodes that hold pairs. -/
/-- The block of a slice holds references. -/
def RefB (σ : AH) (a : AV) : Prop := ∀ id b, a.bid = some id → σ[id]? = some b → b.pure = false ∧ b.ext = none ∧ b.wr = true
theorem NestR.append_f {σ : AH} {sz bytes : Nat} {a : AV} {rows : List (List AV)} {row : List AV} {K : AV → AH → Prop} (h : NestR σ sz a rows) (hb : (rows.length + 1) * bytes ≤ 140737488355328) (hx : ∀ x, x ∈ row → (∀ id, x.bid = some id → id < σ.length) ∧ (x.bid = none ∨ x.bid ≠ a.bid))
    (hk : ∀ a' σ', NestR σ' sz a' (rows ++ [row]) → Gr σ σ' a.bid → (a'.bid = a.bid ∨ a'.bid = some σ.length) → RefB σ' a' → K a' σ') : AppIW σ sz bytes a [row] K := by
  rcases h with ⟨rfl, rfl⟩ | ⟨id, gen, p, rfl, hbk, hn⟩
  · refine appI_nil (by simp) (by simpa using hb) (hk _ _ ?_ ((Gr.append _ _).anyO _) (.inr rfl) ?_)
    · refine .inr ⟨σ.length, 0, false, rfl, by simp [newB], fun r hr y hy => ?_⟩
      simp only [List.nil_append, List.mem_singleton] at hr
      subst hr
      intro e
      have := (hx y hy).1 _ e
      omega
    · intro id b h1 h2
      cases h1
      rw [newB, get_new] at h2
      cases h2
      exact ⟨rfl, rfl, rfl⟩
  · have hl : rows.take rows.length = rows := List.take_of_length_le (Nat.le_refl _)
    refine appI_rsl hbk rfl rfl rfl (Nat.le_refl _) (by simpa using hb) ?_
    dsimp only
    rw [hl]
    refine hk _ _ (.inr ⟨id, gen + 1, false, by simp, ?_, fun r hr y hy => ?_⟩) (Gr.set _ id _) (.inl rfl) ?_
    · rw [get_set hbk]
    · rcases List.mem_append.1 hr with q | q
      · exact hn r q y hy
      · simp only [List.mem_singleton] at q
        subst q
        rcases (hx y hy).2 with q | q
        · rw [q]; simp
        · exact q
    · intro id' b h1 h2
      cases h1
      rw [get_set hbk] at h2
      cases h2
      exact ⟨rfl, rfl, rfl⟩
theorem RefB.keep {σ σ' : AH} {a : AV} {o : Option Nat} (h : RefB σ a) (hg : Gr σ σ' o) (hd : a.bid = none ∨ o ≠ a.bid) (hl : ∀ id, a.bid = some id → id < σ.length) : RefB σ' a := by
  intro id b h1 h2
  have hlt := hl id h1
  have h3 := hg.2 id _ (List.getElem?_eq_getElem hlt) (by
    rcases hd with q | q
    · rw [h1] at q; cases q
    · intro e; exact q (e.trans h1.symm))
  rw [h2] at h3
  cases h3
  exact h id _ h1 (List.getElem?_eq_getElem hlt)
theorem Chunk_call (σ : AH) (x : AV) (Q : AV → AH → Prop) (h1 : x.cells = [x]) (h2 : x.okCells = true) (h3 : x.cells.length = 1) (h : Q (.fn F.slices_Chunk_1 [.ptr σ.length 0 0 0, .ptr (σ.length + 1) 0 0 0]) (σ ++ [{ sz := 1, els := [[x]], gen := 0, wr := true, pure := allFlat [x] }] ++ [{ sz := 1, els := [[.int .i64 7]], gen := 0, wr := true, pure := true }])) : CallS Try.prog F.slices_Chunk [x, .int .i64 7] σ Q := by
  refine call_of_body mixed fc_slices_Chunk_ok (by simp [fc_slices_Chunk]) ?_
  repeat' (first
    | ((with_reducible refine Side.intro ?_) <;> (first
    | omega
    | exact rfl
    ))
    | ((conv => whnf) <;> (first
    | (with_reducible refine and_same ?_)
    | (with_reducible refine and_side ?_ ?_)
    | ((with_reducible apply Br.no) ; (focus omega))
    | ((with_reducible apply blkAt_step) ; (focus (first
    | ((repeat (first
    | exact get_new
    )); done)
    )) ; (focus (first | rfl | assumption | omega)) ; (focus (first | rfl | assumption)) ; (try dsimp only))
    ))
    )
  all_goals (conv => whnf)
  all_goals (try dsimp only)
  rw [h1]
  simpa [packA, newB, allFlat, AV.cells, AV.flat] using h
def hrow (leaf : Bool) (idp gp n k : Nat) : List AV := [.bool leaf, .rsl idp gp (7 * k) (min 7 (n - 7 * k)) (some (min 7 (n - 7 * k)))]
def hrows (leaf : Bool) (idp gp n m : Nat) : List (List AV) := (List.range m).map (hrow leaf idp gp n)
theorem held_call (leaf : Bool) (ps : List (Int × Int)) (h0 : 0 < ps.length) (hl : ps.length ≤ 1048576) {σ : AH} {idp gp : Nat} {p : Bool} {spr : List (List AV)} (hp : σ[idp]? = some { sz := 2, els := sp ps ++ spr, gen := gp, wr := true, pure := p }) (Q : AV → AH → Prop)
    (h : ∀ σ' a, Gr σ σ' none → NestR σ' 2 a (hrows leaf idp gp ps.length ((ps.length + 6) / 7)) → RefB σ' a → (∀ id, a.bid = some id → σ.length ≤ id) → Q a σ') : CallS Try.prog F.tree_held [.rsl idp gp 0 ps.length none, .bool leaf] σ Q := by
  have hn := sp_length ps
  refine call_of_body mixed fc_tree_held_ok (by simp [fc_tree_held]) ?_
  repeat' (first
    | ((with_reducible refine Side.intro ?_) <;> (first
    | exact rfl
    ))
    | ((conv => whnf) <;> (first
    | (with_reducible refine and_same ?_)
    | (with_reducible refine and_side ?_ ?_)
    | ((with_reducible apply Br.no) ; (focus omega))
    | ((with_reducible apply blkAt_step) ; (focus (first
    | ((repeat (first
    | assumption
    | apply get_old
    )); done)
    )) ; (focus (first | rfl | assumption | omega)) ; (focus (first | rfl | assumption)) ; (try dsimp only))
    | (with_reducible refine lenR_rsl ?_)
    ))
    )
  all_goals (conv => whnf)
  all_goals (try dsimp only)
  refine Chunk_call _ _ _ rfl rfl rfl ?_
  repeat' (first
    | ((conv => whnf) <;> (first
    | (with_reducible intro _)
    ))
    )
  all_goals (conv => whnf)
  all_goals (try dsimp only)
  rename_i lr
  simp only [newB_length, List.length_append, List.length_cons, List.length_nil, Nat.add_assoc, Nat.reduceAdd, Nat.zero_add]
  have hpl := (List.getElem?_eq_some_iff.1 hp).1
  refine Chunk_iter (idp := idp) (gp := gp) (els := sp ps ++ spr) (n := ps.length) (J := fun k σ' => ∃ a p1 p2 p3 p4, Gr σ σ' none ∧ σ'[σ.length]? = some { sz := 1, els := [[.bool leaf]], gen := 0, wr := true, pure := p1 } ∧ σ'[σ.length + 1]? = some { sz := 1, els := [[a]], gen := 0, wr := true, pure := p2 } ∧ σ'[σ.length + 2]? = some { sz := 1, els := [[.rsl idp gp 0 ps.length none]], gen := 0, wr := true, pure := p3 } ∧ σ'[σ.length + 3]? = some { sz := 1, els := [[.int .i64 7]], gen := 0, wr := true, pure := p4 } ∧ σ'[σ.length + 4]? = some (lblk (lst lr .ready)) ∧ NestR σ' 2 a (hrows leaf idp gp ps.length k) ∧ (∀ id, a.bid = some id → σ.length + 5 ≤ id) ∧ RefB σ' a) (by omega) (by rw [List.length_append, hn]; omega) ?_ ?_ ?_ ?_
  · rintro k σ' ⟨a, p1, p2, p3, p4, g, k1, k2, k3, k4, k5, k6, k7, k8⟩
    exact ⟨⟨_, k3⟩, ⟨_, k4⟩, ⟨_, g.2 _ _ hp (by simp)⟩⟩
  · refine ⟨.nils, true, true, false, true, ?_, ?_, ?_, ?_, ?_, ?_, NestR.nil _ _, (fun id h => by cases h), (fun id b h => by cases h)⟩
    · simp only [newB, List.append_assoc]; exact Gr.append _ _
    · simp [newB, allFlat, AV.flat, AV.cells]
    · simp [newB, allFlat, AV.flat, AV.cells]
    · simp [newB, allFlat, AV.flat, AV.cells]
    · simp [newB, allFlat, AV.flat, AV.cells]
    · simp [newB, allFlat, AV.flat, AV.cells]
  · rintro σ' ⟨a, p1, p2, p3, p4, g, k1, k2, k3, k4, k5, k6, k7, k8⟩
    refine ⟨k5, ?_⟩
    have hl4 := (List.getElem?_eq_some_iff.1 k5).1
    have k2' : (σ'.set (σ.length + 4) (lblk (lst lr .exhausted)))[σ.length + 1]? = some { sz := 1, els := [[a]], gen := 0, wr := true, pure := p2 } := get_set_ne (by omega) k2
    have hdis : a.bid = none ∨ some (σ.length + 4) ≠ a.bid := by
      cases hb : a.bid with
      | none => exact .inl rfl
      | some id => exact .inr fun q => by cases q; have := k7 _ hb; omega
    repeat' (first
      | ((conv => whnf) <;> (first
      | ((with_reducible apply blkAt_step) ; (focus (first
      | ((repeat (first
      | assumption
      )); done)
      )) ; (focus (first | rfl | assumption | omega)) ; (focus (first | rfl | assumption)) ; (try dsimp only))
      ))
      )
    all_goals (conv => whnf)
    all_goals (try dsimp only)
    exact h _ a (Gr.setNew g (by omega) _) (k6.keep (Gr.set _ _ _) hdis) (k8.keep (Gr.set _ _ _) hdis fun id hid => k6.lt hid) fun id hid => by have := k7 _ hid; omega
  · rintro k σ' hk ⟨a, p1, p2, p3, p4, g, k1, k2, k3, k4, k5, k6, k7, k8⟩
    refine ⟨_, _, rfl, rfl, k5, ?_⟩
    have hl4 := (List.getElem?_eq_some_iff.1 k5).1
    have hkn : k < (ps.length + 6) / 7 := by omega
    have k1' : (σ'.set (σ.length + 4) (lblk (lst lr .busy)))[σ.length]? = some { sz := 1, els := [[.bool leaf]], gen := 0, wr := true, pure := p1 } := get_set_ne (by omega) k1
    have k2' : (σ'.set (σ.length + 4) (lblk (lst lr .busy)))[σ.length + 1]? = some { sz := 1, els := [[a]], gen := 0, wr := true, pure := p2 } := get_set_ne (by omega) k2
    have raw : UseRaw := ⟨⟩
    have hdis : a.bid = none ∨ some (σ.length + 4) ≠ a.bid := by
      cases hb : a.bid with
      | none => exact .inl rfl
      | some id => exact .inr fun q => by cases q; have := k7 _ hb; omega
    have hrl : (hrows leaf idp gp ps.length k).length = k := by simp [hrows]
    repeat' (first
      | ((with_reducible refine Side.intro ?_) <;> (first
      | omega
      | exact Nat.le_of_ble_eq_true rfl
      | exact rfl
      ))
      | ((conv => whnf) <;> (first
      | (with_reducible refine and_same ?_)
      | (with_reducible refine and_side ?_ ?_)
      | ((with_reducible apply blkAt_step) ; (focus (first
      | ((repeat (first
      | assumption
      | exact get_new
      )); done)
      )) ; (focus (first | rfl | assumption | omega)) ; (focus (first | rfl | assumption)) ; (try dsimp only))
      | ((with_reducible apply AppC.raw) ; (focus assumption))
      | (with_reducible refine rowsR_rsl ?_)
      ))
      )
    all_goals (conv => whnf)
    all_goals (try dsimp only)
    generalize allFlatL _ = fl
    have k6' := k6.keep (Gr.set _ (σ.length + 4) (lblk (lst lr .busy))) hdis
    refine NestR.append_f (row := hrow leaf idp gp ps.length k) (rows := hrows leaf idp gp ps.length k) (NestR.keepN (Gr.append _ _) k6') (by rw [hrl]; omega) (fun y hy => ?_) ?_
    · simp only [hrow, List.mem_cons, List.not_mem_nil, or_false] at hy
      rcases hy with rfl | rfl
      · exact ⟨fun id h => (by cases h), .inl rfl⟩
      · refine ⟨fun id h => (by cases h; simp only [newB_length, List.length_set]; omega), ?_⟩
        cases hb : a.bid with
        | none => exact .inr (by simp [AV.bid])
        | some id => exact .inr fun q => by cases q; have := k7 _ hb; omega
    intro a' σ2 ho hg hb hf
    obtain ⟨c1, c2, c3⟩ : a'.cells = [a'] ∧ a'.okCells = true ∧ a'.cells.length = 1 := by
      rcases ho with ⟨rfl, _⟩ | ⟨_, _, _, rfl, _⟩ <;> exact ⟨rfl, rfl, rfl⟩
    have hne : ∀ j, j < σ.length + 5 → a.bid ≠ some j := fun j hj e => by have := k7 j e; omega
    have m1 := hg.2 _ _ (get_old k1') (hne _ (by omega))
    have m2 := hg.2 _ _ (get_old k2') (hne _ (by omega))
    have k3' : (σ'.set (σ.length + 4) (lblk (lst lr .busy)))[σ.length + 2]? = some { sz := 1, els := [[.rsl idp gp 0 ps.length none]], gen := 0, wr := true, pure := p3 } := get_set_ne (by omega) k3
    have k4' : (σ'.set (σ.length + 4) (lblk (lst lr .busy)))[σ.length + 3]? = some { sz := 1, els := [[.int .i64 7]], gen := 0, wr := true, pure := p4 } := get_set_ne (by omega) k4
    have k5' : (σ'.set (σ.length + 4) (lblk (lst lr .busy)))[σ.length + 4]? = some (lblk (lst lr .busy)) := get_set k5
    have m3 := hg.2 _ _ (get_old k3') (hne _ (by omega))
    have m4 := hg.2 _ _ (get_old k4') (hne _ (by omega))
    have m5 := hg.2 _ _ (get_old k5') (hne _ (by omega))
    have hl2 := (List.getElem?_eq_some_iff.1 m5).1
    have ha' : ∀ id, a'.bid = some id → σ.length + 5 ≤ id := fun id hid => by
      rcases hb with q | q
      · rw [q] at hid; exact k7 id hid
      · rw [q] at hid; cases hid; simp only [newB_length, List.length_set]; omega
    have hne' : ∀ j, j < σ.length + 5 → a'.bid = none ∨ some j ≠ a'.bid := fun j hj => by
      cases e : a'.bid with
      | none => exact .inl rfl
      | some id => exact .inr fun q => by cases q; have := ha' _ e; omega
    repeat' (first
      | ((with_reducible refine Side.intro ?_) <;> (first
      | omega
      | (simp only [bs_length, List.length_append, List.length_cons, List.length_nil, List.length_take, List.length_drop, List.length_set, List.length_replicate]; omega)
      ))
      | ((conv => whnf) <;> (first
      | (with_reducible refine and_same ?_)
      | (with_reducible refine and_side ?_ ?_)
      | ((with_reducible apply blkAt_step) ; (focus (first
      | ((repeat (first
      | assumption
      )); done)
      )) ; (focus (first | rfl | assumption | omega)) ; (focus (first | rfl | assumption)) ; (try dsimp only))
      ))
      )
    all_goals (conv => whnf)
    all_goals (try dsimp only)
    rw [c1]
    have g1 : Gr σ (newB (σ'.set (σ.length + 4) (lblk (lst lr .busy))) 2 [hrow leaf idp gp ps.length k] fl) none := Gr.newN (Gr.setNew g (by omega) _) _ _ _
    have gσ2 : Gr σ σ2 none := ⟨Nat.le_trans g1.1 hg.1, fun id b hbk _ => hg.2 id b (g1.2 id b hbk (by simp)) fun e => by
      have q1 := k7 id e
      have q2 := (List.getElem?_eq_some_iff.1 hbk).1
      omega⟩
    have hrs : hrows leaf idp gp ps.length (k + 1) = hrows leaf idp gp ps.length k ++ [hrow leaf idp gp ps.length k] := by simp [hrows, List.range_succ]
    refine ⟨get_set_ne (by omega) m5, rfl, a', p1, p2 && allFlat [a'], p3, p4, Gr.setNew (Gr.setNew gσ2 (by omega) _) (by omega) _, get_set_ne (by omega) (get_set_ne (by omega) m1), get_set_ne (by omega) (get_set m2), get_set_ne (by omega) (get_set_ne (by omega) m3), get_set_ne (by omega) (get_set_ne (by omega) m4), get_set (get_set_ne (by omega) m5), ?_, ha', (hf.keep (Gr.set _ _ _) (hne' _ (by omega)) fun id hid => ho.lt hid).keep (Gr.set _ _ _) (hne' _ (by omega)) fun id hid => by rw [List.length_set]; exact ho.lt hid⟩
    rw [hrs]
    exact (ho.keep (Gr.set _ _ _) (hne' _ (by omega))).keep (Gr.set _ _ _) (hne' _ (by omega))
theorem held_nil (leaf : Bool) (σ : AH) (Q : AV → AH → Prop) (h : ∀ σ' a, Gr σ σ' none → NestR σ' 2 a [[.bool leaf, .nils]] → (∀ id, a.bid = some id → σ.length ≤ id) → Q a σ') : CallS Try.prog F.tree_held [.nils, .bool leaf] σ Q := by
  refine call_of_body mixed fc_tree_held_ok (by simp [fc_tree_held]) ?_
  repeat' (first
    | ((with_reducible refine Side.intro ?_) <;> (first
    | omega
    | exact Nat.le_of_ble_eq_true rfl
    | exact rfl
    ))
    | ((conv => whnf) <;> (first
    | (with_reducible refine and_same ?_)
    | (with_reducible refine and_side ?_ ?_)
    | (with_reducible refine Br.yes rfl ?_)
    | ((with_reducible apply blkAt_step) ; (focus (first
    | ((repeat (first
    | exact get_new
    )); done)
    )) ; (focus (first | rfl | assumption | omega)) ; (focus (first | rfl | assumption)) ; (try dsimp only))
    | (with_reducible refine lenR_nils ?_)
    ))
    )
  all_goals (conv => whnf)
  all_goals (try dsimp only)
  refine h _ _ ?_ (.inr ⟨_, _, _, rfl, get_new, ?_⟩) ?_
  · exact Gr.newN (Gr.newN (Gr.refl _ _) _ _ _) _ _ _
  · intro r hr x hx
    have hr' : r = [.bool leaf, .nils] := by simpa using hr
    subst hr'
    simp only [List.mem_cons, List.not_mem_nil, or_false] at hx
    rcases hx with rfl | rfl <;> simp [AV.bid]
  · intro id hid
    cases hid
    simp only [newB_length]; omega
theorem held_own (leaf : Bool) (ps : List (Int × Int)) (h0 : 0 < ps.length) (hl : ps.length ≤ 1048576) {σ : AH} {x : AV} (hx : Own σ 2 x (sp ps)) (Q : AV → AH → Prop)
    (h : ∀ σ' a idp gp, x.bid = some idp → x = .rsl idp gp 0 ps.length none → Gr σ σ' none → NestR σ' 2 a (hrows leaf idp gp ps.length ((ps.length + 6) / 7)) → RefB σ' a → (∀ id, a.bid = some id → σ.length ≤ id) → Q a σ') : CallS Try.prog F.tree_held [x, .bool leaf] σ Q := by
  rcases hx with ⟨rfl, he⟩ | ⟨id, gen, spr, rfl, hb⟩
  · have := congrArg List.length he
    rw [sp_length, List.length_nil] at this
    omega
  · rw [sp_length] at h ⊢
    exact held_call leaf ps h0 hl hb Q fun σ' a g1 g2 g3 g4 => h σ' a id gen rfl rfl g1 g2 g3 g4
theorem first_ok (leaf : Bool) (ps : List (Int × Int)) : AOKn Try.prog F.tree_node_first [.agg [.bool leaf, .sl 2 (sp ps) false]] fun y => y = .int .i64 ((ps[0]?.getD (0, 0)).1) := by
  have hn := sp_length ps
  refine AOKn.by_steps mixed fc_tree_node_first_ok (by simp [fc_tree_node_first]) ?_
  cases ps with
  | nil =>
    repeat' (first
      | ((with_reducible refine Side.intro ?_) <;> (first
      | (simp only [List.append_nil, List.nil_append, List.map_nil]; first | exact List.nodup_nil | exact nodup_bid1 _ | exact nodup_bid2 (by assumption))
      | ((first | refine fresh_tup ?_ | skip); (repeat (first |  exact FreshA.sl _ _ FreshA_bs | exact FreshA.sl _ _ FreshA_is | exact FreshA.nils | exact FreshA.nilp | exact FreshA.int _ _ | exact FreshA.bool _ | exact FreshA.str _ | exact fresh_nil | refine fresh_cons ?_ ?_ | with_reducible refine fresh_aggR ?_ | with_reducible refine fresh_agg ?_ | with_reducible exact fresh_nilA | with_reducible refine fresh_consA ?_ ?_)); done)
      | exact rfl
      ))
      | ((conv => whnf) <;> (first
      | (with_reducible refine and_same ?_)
      | (with_reducible refine and_side ?_ ?_)
      | (with_reducible refine Br.yes rfl ?_)
      | ((with_reducible apply blkAt_step) ; (focus (first
      | exact rfl
      )) ; (focus (first | rfl | assumption | omega)) ; (focus (first | rfl | assumption)) ; (try dsimp only))
      | (with_reducible refine NOut.lit ?_)
      | (with_reducible refine lenR_sl ?_)
      ))
      )
    all_goals (conv => whnf)
    all_goals (try dsimp only)
    all_goals exact ret_same rfl
  | cons p ps =>
    have hp : (p :: ps)[((0 : Nat) : Int).toNat]? = some p := rfl
    simp only [List.length_cons] at hn
    repeat' (first
      | ((with_reducible refine Side.intro ?_) <;> (first
      | omega
      | (simp only [List.append_nil, List.nil_append, List.map_nil]; first | exact List.nodup_nil | exact nodup_bid1 _ | exact nodup_bid2 (by assumption))
      | ((first | refine fresh_tup ?_ | skip); (repeat (first |  exact FreshA.sl _ _ FreshA_bs | exact FreshA.sl _ _ FreshA_is | exact FreshA.nils | exact FreshA.nilp | exact FreshA.int _ _ | exact FreshA.bool _ | exact FreshA.str _ | exact fresh_nil | refine fresh_cons ?_ ?_ | with_reducible refine fresh_aggR ?_ | with_reducible refine fresh_agg ?_ | with_reducible exact fresh_nilA | with_reducible refine fresh_consA ?_ ?_)); done)
      | exact rfl
      ))
      | ((conv => whnf) <;> (first
      | (with_reducible refine and_same ?_)
      | (with_reducible refine and_side ?_ ?_)
      | ((with_reducible apply Br.no) ; (focus omega))
      | ((with_reducible apply blkAt_step) ; (focus (first
      | exact rfl
      )) ; (focus (first | rfl | assumption | omega)) ; (focus (first | rfl | assumption)) ; (try dsimp only))
      | (with_reducible refine ia_sl ?_ ?_)
      | (with_reducible refine NOut.lit ?_)
      | (with_reducible refine lenR_sl ?_)
      ))
      )
    all_goals (conv => whnf)
    all_goals (try dsimp only)
    exact ret_same rfl
end Go.Proofs.Ythalikgchafjiaa

namespace Go.Proofs.Ythalikgchafjiaa
open Go Go.RowKit Go.Proofs.Ythalikgchafjiaa.V
/-! ### A block of slices of one's own, frozen: who is called sees rows of slices by value -/
theorem rel_frz [Zone] {σ : AH} {E : Env} {w : World} (hr : Rel σ E w) {id : Nat} {b : Blk} {els' : List (List AV)} {σ1 : AH} (hb : σ[id]? = some b) (hpu : b.pure = false) (hfz : frzLL σ b.els = some (els', σ1)) (hb1 : σ1[id]? = some b) (he : b.ext = none := by rfl) :
    ∃ E1, Step E w E1 w ∧ Rel (σ1.set id { b with els := els', pure := true }) E1 w := by
  obtain ⟨m, hm, hok⟩ := hr.blk id b hb
  obtain ⟨k1, k2, k3, k4, k5, k6⟩ := hok.cells he
  obtain ⟨hlen, hrow⟩ := frzLL_len hfz
  have hrow' := hrow b.sz k5
  have key : ∀ (E1 : Env), Step E w E1 w → Rel σ1 E1 w → (∀ m1, E1[id]? = some m1 → BlkOk w E1 b m1 → BlkOk w E1 { b with els := els', pure := true } m1) → ∃ E1, Step E w E1 w ∧ Rel (σ1.set id { b with els := els', pure := true }) E1 w := by
    intro E1 s r hB
    refine ⟨E1, s, by simp [r.len], r.base, r.fresh, ?_, r.inj⟩
    intro id' b' hb'
    by_cases e : id' = id
    · subst e
      rw [get_set' hb1] at hb'; cases hb'
      obtain ⟨m1, hm1, ok1⟩ := r.blk id' b hb1
      exact ⟨m1, hm1, .of (hB m1 hm1 (ok1.cells he)) he⟩
    · rw [List.getElem?_set_ne (fun q => e q.symm)] at hb'
      exact r.blk id' b' hb'
  have same : ∀ (E1 : Env), Step E w E1 w → ∀ m1, E1[id]? = some m1 → m1.gen = b.gen → m1.place = m.place := by
    intro E1 s m1 hm1 hg1
    obtain ⟨m2, hm2, _, h2⟩ := s.metas id m hm
    rw [hm1] at hm2; cases hm2
    exact (h2 (by rw [k1, hg1])).2
  cases hp : m.place with
  | none =>
    have k6' : b.els = [] := by rw [hp] at k6; exact k6
    obtain ⟨E1, s, r, v⟩ := frzLL_ok hfz hr (cs := []) (by rw [k6']; exact .nil)
    refine key E1 s r fun m1 hm1 ok1 => ?_
    obtain ⟨j1, j2, j3, j4, j5, j6⟩ := ok1
    have hpl := same E1 s m1 hm1 j1
    rw [hp] at hpl
    refine ⟨j1, j2, j3, j4, hrow', ?_⟩
    rw [hpl]
    have : els'.length = 0 := by rw [hlen, k6']; rfl
    exact List.length_eq_zero_iff.1 this
  | some q =>
    obtain ⟨g, c⟩ := q
    rw [hp] at k6
    obtain ⟨⟨k7, k7'⟩, k8, cur, e, lo, hi, k9, k10, k11, k12, k13⟩ := k6
    have k13' : RepL w E (cur.toList.take b.els.flatten.length) b.els.flatten := by
      have : (if b.pure then RepVL w (EW E) (cur.toList.take b.els.flatten.length) b.els.flatten else RepL w E (cur.toList.take b.els.flatten.length) b.els.flatten) := k13
      rw [hpu] at this
      simpa using this
    obtain ⟨E1, s, r, v⟩ := frzLL_ok hfz hr k13'
    have hfl : els'.flatten.length = b.els.flatten.length := by
      have p1 := v.length
      have p2 := k13'.length
      omega
    refine key E1 s r fun m1 hm1 ok1 => ?_
    obtain ⟨j1, j2, j3, j4, j5, j6⟩ := ok1
    have hpl := same E1 s m1 hm1 j1
    rw [hp] at hpl
    refine ⟨j1, j2, j3, j4, hrow', ?_⟩
    rw [hpl]
    refine ⟨⟨by show els'.length ≤ c; omega, fun h => by have := k7' h; show c ≤ els'.length; omega⟩, k8, cur, e, lo, hi, k9, k10, k11, k12, ?_⟩
    show RepVL w (EW E1) (cur.toList.take els'.flatten.length) els'.flatten
    rw [hfl]; exact v
theorem CallS.frz {P : Program} {f : Nat} (hB : Bodied P f) {args : List AV} {σ : AH} {Q : AV → AH → Prop} {id : Nat} {b : Blk} {els' : List (List AV)} {σ1 : AH} (hb : σ[id]? = some b) (hpu : b.pure = false) (hfz : frzLL σ b.els = some (els', σ1)) (hb1 : σ1[id]? = some b)
    (h : CallS P f args (σ1.set id { b with els := els', pure := true }) Q) (he : b.ext = none := by rfl) : CallS P f args σ Q := by
  refine ⟨hB, fun z w E cs hr hrep => ?_⟩
  obtain ⟨E1, s, r⟩ := rel_frz hr hb hpu hfz hb1 he
  have h2 := h.2 z w E1 cs r (hrep.step s)
  refine h2.mono ?_
  rintro en w' ⟨v, E', y, σ', rfl, h1, h2, h3, h4⟩
  exact ⟨v, E', y, σ', rfl, h1, h2, s.trans h3, h4⟩
/-- The same behind a call: what was handed over is seen by value. -/
theorem CallS.frzPost {P : Program} {f : Nat} {args : List AV} {σ : AH} {Q : AV → AH → Prop}
    (h : CallS P f args σ fun x τ => ∃ id b els' τ1, τ[id]? = some b ∧ b.pure = false ∧ b.ext = none ∧ frzLL τ b.els = some (els', τ1) ∧ τ1[id]? = some b ∧ Q x (τ1.set id { b with els := els', pure := true })) : CallS P f args σ Q := by
  refine ⟨h.1, fun z w E cs hr hrep => ?_⟩
  refine (h.2 z w E cs hr hrep).mono ?_
  rintro en w' ⟨v, E', y, σ', rfl, h1, h2, h3, id, b, els', τ1, hb, hpu, he, hfz, hb1, hQ⟩
  obtain ⟨E1, s, r⟩ := rel_frz h2 hb hpu hfz hb1 he
  exact ⟨v, E1, y, _, rfl, h1.step s, r, h3.trans s, hQ⟩
end Go.Proofs.Ythalikgchafjiaa

namespace Go.Proofs.Ythalikgchafjiaa
open Go Go.Proofs.Ythalikgchafjiaa.V
set_option maxRecDepth 20000
attribute [local irreducible] CallS AOK AOKn ALoop Side Ref.ok
/-! Nodes by value. -/
def ndV (leaf : Bool) (ps : List (Int × Int)) (k : Nat) : List AV := [.bool leaf, .sl 2 (sp ((ps.drop (7 * k)).take 7)) true]
def nds (leaf : Bool) (ps : List (Int × Int)) : List (List AV) := (List.range ((ps.length + 6) / 7)).map (ndV leaf ps)
theorem sp_cut {ps : List (Int × Int)} {spr : List (List AV)} {k : Nat} (hk : 7 * k ≤ ps.length) : ((sp ps ++ spr).drop (7 * k)).take (min 7 (ps.length - 7 * k)) = sp ((ps.drop (7 * k)).take 7) := by
  rw [List.drop_append_of_le_length (by rw [sp_length]; exact hk), List.take_append_of_le_length (by simp [sp_length]; omega)]
  simp only [sp, ← List.map_drop, ← List.map_take]
  congr 1
  apply List.ext_getElem?
  intro j
  simp only [List.getElem?_take, List.getElem?_drop]
  by_cases h : j < 7
  · by_cases h2 : j < ps.length - 7 * k
    · rw [if_pos (by omega), if_pos h]
    · rw [if_neg (by omega), if_pos h, List.getElem?_eq_none (by omega)]
  · rw [if_neg (by omega), if_neg h]
theorem frz_hrows {leaf : Bool} {idp gp : Nat} {ps : List (Int × Int)} {spr : List (List AV)} : ∀ (l : List Nat), (∀ k, k ∈ l → 7 * k ≤ ps.length) → ∀ (τ : AH) (w : Bool), τ[idp]? = some { sz := 2, els := sp ps ++ spr, gen := gp, wr := w, pure := true } →
    ∃ τ' w', frzLL τ (l.map (hrow leaf idp gp ps.length)) = some (l.map (ndV leaf ps), τ') ∧ τ'.length = τ.length ∧ (∀ id, id ≠ idp → τ'[id]? = τ[id]?) ∧ τ'[idp]? = some { sz := 2, els := sp ps ++ spr, gen := gp, wr := w', pure := true }
  | [], _, τ, w, h => ⟨τ, w, rfl, rfl, fun _ _ => rfl, h⟩
  | k :: l, hk, τ, w, h => by
    have hk0 := hk k (by simp)
    have h1 : (τ.set idp { sz := 2, els := sp ps ++ spr, gen := gp, wr := false, pure := true })[idp]? = some { sz := 2, els := sp ps ++ spr, gen := gp, wr := false, pure := true } := get_set h
    obtain ⟨τ', w', e1, e2, e3, e4⟩ := frz_hrows l (fun j hj => hk j (by simp [hj])) _ false h1
    refine ⟨τ', w', ?_, by rw [e2, List.length_set], fun id hid => by rw [e3 id hid, List.getElem?_set_ne (fun q => hid q.symm)], e4⟩
    have hc : frzC τ (.rsl idp gp (7 * k) (min 7 (ps.length - 7 * k)) (some (min 7 (ps.length - 7 * k)))) = some (.sl 2 (sp ((ps.drop (7 * k)).take 7)) true, τ.set idp { sz := 2, els := sp ps ++ spr, gen := gp, wr := false, pure := true }) := by
      simp only [frzC, h]
      rw [if_pos ⟨trivial, trivial, by rw [List.length_append, sp_length]; omega⟩, sp_cut hk0]
    have hb : frzC τ (.bool leaf) = some (.bool leaf, τ) := rfl
    rw [List.map_cons, List.map_cons]
    simp only [frzLL, frzL, hrow, hb, hc]
    rw [show l.map (hrow leaf idp gp ps.length) = l.map (fun k => hrow leaf idp gp ps.length k) from rfl] at e1
    simp only [e1, ndV]
theorem held_val (leaf : Bool) (ps : List (Int × Int)) (h0 : 0 < ps.length) (hl : ps.length ≤ 1048576) {σ : AH} {x : AV} (hx : Own σ 2 x (sp ps)) (Q : AV → AH → Prop)
    (h : ∀ σ' a, Gr σ σ' x.bid → Own σ' 2 a (nds leaf ps) → (∀ id, a.bid = some id → σ.length ≤ id) → Q a σ') : CallS Try.prog F.tree_held [x, .bool leaf] σ Q := by
  rcases hx with ⟨rfl, he⟩ | ⟨idp, gp, spr, rfl, hb⟩
  · have := congrArg List.length he
    rw [sp_length, List.length_nil] at this
    omega
  · rw [sp_length] at h ⊢
    have hpl := (List.getElem?_eq_some_iff.1 hb).1
    refine CallS.frzPost (held_call leaf ps h0 hl hb _ fun σ' a g hn hf hnew => ?_)
    have hb' := g.2 _ _ hb (by simp)
    rcases hn with ⟨rfl, hz⟩ | ⟨ida, ga, p, rfl, hba, hnn⟩
    · have := congrArg List.length hz
      simp [hrows] at this
      omega
    · obtain ⟨pf, _, _⟩ := hf ida _ rfl hba
      dsimp only at pf
      subst pf
      obtain ⟨τ', w', e1, e2, e3, e4⟩ := frz_hrows (leaf := leaf) (List.range ((ps.length + 6) / 7)) (fun k hk => by have := List.mem_range.1 hk; omega) σ' true hb'
      have hida := hnew ida rfl
      have hne : ida ≠ idp := by omega
      have hbt : τ'[ida]? = _ := (e3 ida hne).trans hba
      refine ⟨ida, _, nds leaf ps, τ', hba, rfl, rfl, e1, hbt, h _ _ ⟨by rw [List.length_set, e2]; exact g.1, fun id b hbk hn => ?_⟩ (.inr ⟨ida, ga, [], by simp [hrows, nds], by rw [get_set hbt]; simp⟩) hnew⟩
      have hlt := (List.getElem?_eq_some_iff.1 hbk).1
      have hid : id ≠ idp := fun q => hn (by rw [q]; rfl)
      rw [List.getElem?_set_ne (by omega), e3 id hid]
      exact g.2 id b hbk (by simp)
theorem held_nilV (leaf : Bool) (σ : AH) (Q : AV → AH → Prop) (h : ∀ σ' a, Gr σ σ' none → Own σ' 2 a [[.bool leaf, .nils]] → (∀ id, a.bid = some id → σ.length ≤ id) → Q a σ') : CallS Try.prog F.tree_held [.nils, .bool leaf] σ Q := by
  refine call_of_body mixed fc_tree_held_ok (by simp [fc_tree_held]) ?_
  repeat' (first
    | ((with_reducible refine Side.intro ?_) <;> (first
    | omega
    | exact Nat.le_of_ble_eq_true rfl
    | exact rfl
    ))
    | ((conv => whnf) <;> (first
    | (with_reducible refine and_same ?_)
    | (with_reducible refine and_side ?_ ?_)
    | (with_reducible refine Br.yes rfl ?_)
    | ((with_reducible apply blkAt_step) ; (focus (first
    | ((repeat (first
    | exact get_new
    )); done)
    )) ; (focus (first | rfl | assumption | omega)) ; (focus (first | rfl | assumption)) ; (try dsimp only))
    | (with_reducible refine lenR_nils ?_)
    ))
    )
  all_goals (conv => whnf)
  all_goals (try dsimp only)
  refine h _ _ ?_ (.inr ⟨_, _, [], rfl, by rw [List.append_nil]; exact get_new⟩) ?_
  · exact Gr.newN (Gr.newN (Gr.refl _ _) _ _ _) _ _ _
  · intro id hid
    cases hid
    simp only [newB_length]; omega
end Go.Proofs.Ythalikgchafjiaa

namespace Go.Proofs.Ythalikgchafjiaa
open Go Go.Proofs.Ythalikgchafjiaa.V
set_option maxRecDepth 20000
attribute [local irreducible] CallS AOK AOKn ALoop Side Ref.ok
/-! A node is read. -/
theorem GetC (s : List UInt8) (i : Int) (hs : s.length ≤ 4611686018427) {σ : AH} {x : AV} (hx : Looks σ x (.sl 1 (bs s) false)) {Q : AV → AH → Prop} (h : ∀ σ', Gr σ σ' none → Q (.tup [.int .i64 (getV s i : Nat), .bool (getOk s i)]) σ') : CallS Try.prog F.words_Get [x, .int .i64 i] σ Q :=
  call_two (words_Get_ok s i hs) (.cons hx (.cons (.int _ _ _) .nil)) rfl rfl h
def ndB (b : List UInt8) (k : Nat) : List UInt8 := (b.take (128 * k + 128)).drop (128 * k)
theorem get1_call (b : List UInt8) (k : Nat) (i : Int) (hk : 128 * k + 128 ≤ b.length) (hb : b.length ≤ 4611686018427) {σ : AH} {idb idf : Nat} {p q : Bool} (h1 : σ[idb]? = some { sz := 1, els := [[.sl 1 (bs b) false]], gen := 0, wr := true, pure := p }) (h2 : σ[idf]? = some { sz := 1, els := [[.int .i64 ((128 * k : Nat) : Int)]], gen := 0, wr := true, pure := q })
    (Q : AV → AH → Prop) (h : ∀ σ', Gr σ σ' none → Q (.int .i64 (getV (ndB b k) i : Nat)) σ') : CallS Try.prog F.tree_get_1 [.int .i64 i, .ptr idb 0 0 0, .ptr idf 0 0 0] σ Q := by
  have hn := bs_length b
  refine call_of_body mixed fc_tree_get_1_ok (by simp [fc_tree_get_1]) ?_
  repeat' (first
    | ((with_reducible refine Side.intro ?_) <;> (first
    | omega
    ))
    | ((conv => whnf) <;> (first
    | (with_reducible refine and_same ?_)
    | (with_reducible refine and_side ?_ ?_)
    | ((with_reducible apply Br.yes) ; (focus omega))
    | ((with_reducible apply blkAt_step) ; (focus (first
    | ((repeat (first
    | assumption
    )); done)
    )) ; (focus (first | rfl | assumption | omega)) ; (focus (first | rfl | assumption)) ; (try dsimp only))
    | (with_reducible refine SliceW.of ?_)
    ))
    )
  all_goals (conv => whnf)
  all_goals (try dsimp only)
  have e1 : ((128 * k : Nat) : Int).toNat = 128 * k := by omega
  have e2 : (((128 * k : Nat) : Int) + 128).toNat = 128 * k + 128 := by omega
  simp only [e1, e2, bs_take, bs_drop]
  refine GetC (ndB b k) i (by simp only [ndB, List.length_drop, List.length_take]; omega) (.bs _ _ _) fun σ' hg => ?_
  skip
  all_goals (conv => whnf)
  all_goals (try dsimp only)
  exact h _ hg
theorem getV_bd8 (s : List UInt8) (i : Int) : getV s i < 4611686018427387904 := by
  unfold getV
  split
  · rename_i h
    simp only [getOk, Bool.and_eq_true, inR, decide_eq_true_eq] at h
    exact val_top _ 7 (by rw [wd_length (by omega)]) (by simpa [okW] using h.2)
  · omega
theorem and64 {m : Nat} (h : m < 4611686018427387904) : IntKind.i64.wrap ((BitVec.ofInt IntKind.i64.bits (m : Int) &&& BitVec.ofInt IntKind.i64.bits 1).toNat : Int) = ((m % 2 : Nat) : Int) := by
  have b1 : (BitVec.ofInt 64 (m : Int)).toNat = m := by
    rw [BitVec.toNat_ofInt]
    omega
  have e : (BitVec.ofInt IntKind.i64.bits (m : Int) &&& BitVec.ofInt IntKind.i64.bits 1).toNat = m % 2 := by
    show (BitVec.ofInt 64 (m : Int) &&& BitVec.ofInt 64 1).toNat = m % 2
    rw [BitVec.toNat_and, b1, show (BitVec.ofInt 64 1).toNat = 1 from rfl, Nat.and_one_is_mod]
  rw [e]
  rcases Nat.mod_two_eq_zero_or_one m with q | q <;> rw [q] <;> rfl
/-- The node that stands there. -/
def gtH (b : List UInt8) (k : Nat) : Nat := getV (ndB b k) 0
def gtP (b : List UInt8) (k m : Nat) : List (Int × Int) := (List.range m).map fun (i : Nat) => (((getV (ndB b k) (1 + 2 * (i : Int)) : Nat) : Int), ((getV (ndB b k) (2 + 2 * (i : Int)) : Nat) : Int))
def gtN (b : List UInt8) (k : Nat) : Nat := min (gtH b k / 2) 7
theorem gtP_succ (b : List UInt8) (k m : Nat) : gtP b k (m + 1) = gtP b k m ++ [(((getV (ndB b k) (1 + 2 * (m : Int)) : Nat) : Int), ((getV (ndB b k) (2 + 2 * (m : Int)) : Nat) : Int))] := by simp [gtP, List.range_succ]
theorem gtP_length (b : List UInt8) (k m : Nat) : (gtP b k m).length = m := by simp [gtP]
def gtV (b : List UInt8) (k : Nat) : AV := if gtN b k = 0 then .nils else .sl 2 (sp (gtP b k (gtN b k))) true
theorem get_ok (b : List UInt8) (k : Nat) (hk : 128 * k + 128 ≤ b.length) (hb : b.length ≤ 4611686018427) : AOKn Try.prog F.tree_get [.sl 1 (bs b) false, .int .i64 k] fun y => y = .agg [.bool (decide (gtH b k % 2 = 1)), gtV b k] := by
  have hn := bs_length b
  refine AOKn.by_steps mixed fc_tree_get_ok (by simp [fc_tree_get]) ?_
  repeat' (first
    | ((with_reducible refine Side.intro ?_) <;> (first
    | exact Nat.le_of_ble_eq_true rfl
    | exact rfl
    ))
    | ((conv => whnf) <;> (first
    | (with_reducible refine and_same ?_)
    | (with_reducible refine and_side ?_ ?_)
    | ((with_reducible apply Br.yes) ; (focus omega))
    | ((with_reducible apply blkAt_step) ; (focus (first
    | exact rfl
    )) ; (focus (first | rfl | assumption | omega)) ; (focus (first | rfl | assumption)) ; (try dsimp only))
    ))
    )
  all_goals (conv => whnf)
  all_goals (try dsimp only)
  refine get1_call b k 0 hk hb (idb := 0) (idf := 2) (p := true) (q := true) rfl (by rw [show ((128 * k : Nat) : Int) = (k : Int) * 128 from by omega]; rfl) _ fun σ1 hg1 => ?_
  have b0 := hg1.2 0 _ rfl (by simp)
  have b1 := hg1.2 1 _ rfl (by simp)
  have b2 := hg1.2 2 _ rfl (by simp)
  have hl1 : 3 ≤ σ1.length := hg1.1
  have hgb := getV_bd8 (ndB b k) 0
  have hand := and64 hgb
  have hH : gtH b k = getV (ndB b k) 0 := rfl
  have hN : gtN b k = min (getV (ndB b k) 0 / 2) 7 := rfl
  unfold gtV
  rw [hH, hN]
  generalize getV (ndB b k) 0 = H at *
  rcases Nat.mod_two_eq_zero_or_one H with hpar | hpar
  · rw [hpar] at hand
    by_cases h7 : 7 < H / 2
    · repeat' (first
        | ((with_reducible refine Side.intro ?_) <;> (first
        | omega
        | exact Nat.le_of_ble_eq_true rfl
        | exact rfl
        ))
        | ((conv => whnf) <;> (first
        | (with_reducible refine and_same ?_)
        | (with_reducible refine and_side ?_ ?_)
        | ((with_reducible apply Br.yes) ; (focus omega))
        | ((with_reducible apply Br.no) ; (focus omega))
        | ((with_reducible apply blkAt_step) ; (focus (first
        | ((repeat (first
        | exact get_new
        )); done)
        )) ; (focus (first | rfl | assumption | omega)) ; (focus (first | rfl | assumption)) ; (try dsimp only))
        ))
        )
      all_goals (conv => whnf)
      all_goals (try dsimp only)
      refine loop_at (α := Nat × AH × AV) (fun a => [(22, .int .i64 a.1)]) (fun a => a.2.1) (fun a => a.1 ≤ 7 ∧ a.2.1[0]? = some { sz := 1, els := [[.sl 1 (bs b) false]], gen := 0, wr := true, pure := true } ∧ a.2.1[2]? = some { sz := 1, els := [[.int .i64 ((128 * k : Nat) : Int)]], gen := 0, wr := true, pure := true } ∧ (∃ p, a.2.1[1]? = some { sz := 2, els := [[.bool false, .nils]], gen := 0, wr := true, pure := p }) ∧ (∃ p, a.2.1[σ1.length]? = some { sz := 2, els := [[.bool false, a.2.2]], gen := 0, wr := true, pure := p }) ∧ Own a.2.1 2 a.2.2 (sp (gtP b k a.1)) ∧ (∀ id, a.2.2.bid = some id → σ1.length < id) ∧ (a.1 = 0 → a.2.2 = .nils)) (fun a => 7 - a.1) (0, _, .nils) ⟨Nat.zero_le _, ?_, ?_, ⟨true, ?_⟩, ⟨true, ?_⟩, Own.nil _ _, (fun id h => by cases h), fun _ => rfl⟩ rfl rfl ?_
      · exact get_set_ne (by omega) (get_old b0)
      · rw [show ((128 * k : Nat) : Int) = (k : Int) * 128 from by omega]
        exact get_set_ne (by omega) (get_old b2)
      · exact get_set_ne (by omega) (get_old b1)
      · exact get_set get_new
      rintro ⟨i, σ, x⟩ ⟨hi, c0, c2, ⟨p1, c1⟩, ⟨p, cx⟩, hx, hxb, hx0⟩
      dsimp only at hi c0 c2 c1 cx hx hxb hx0 ⊢
      repeat' (first
        | ((with_reducible refine Side.intro ?_) <;> (first
        | exact Nat.le_of_ble_eq_true rfl
        | exact rfl
        ))
        | ((conv => whnf) <;> (first
        | (with_reducible refine and_same ?_)
        | (with_reducible refine and_side ?_ ?_)
        | ((with_reducible apply Br.yes) ; (focus omega))
        | (with_reducible refine Br.mk (fun _ => ?_) (fun _ => ?_))
        | ((with_reducible apply blkAt_step) ; (focus (first
        | ((repeat (first
        | assumption
        | exact get_set (by assumption)
        )); done)
        )) ; (focus (first | rfl | assumption | omega)) ; (focus (first | rfl | assumption)) ; (try dsimp only))
        | (with_reducible refine NOut.lit ?_)
        ))
        )
      all_goals (conv => whnf)
      all_goals (try dsimp only)
      · refine get1_call b k (1 + 2 * i) hk hb (idb := 0) (idf := 2) (p := true) (q := true) c0 c2 _ fun σ2 hg2 => ?_
        replace c0 := hg2.2 _ _ c0 (by simp)
        replace c2 := hg2.2 _ _ c2 (by simp)
        replace c1 := hg2.2 _ _ c1 (by simp)
        replace cx := hg2.2 _ _ cx (by simp)
        replace hx := hx.keepN hg2
        repeat' (first
          | ((with_reducible apply Gr.side) ; with_reducible assumption)
          | ((conv => whnf) <;> (first
          | (with_reducible refine and_side ?_ ?_)
          ))
          )
        all_goals (conv => whnf)
        all_goals (try dsimp only)
        refine get1_call b k (2 + 2 * i) hk hb (idb := 0) (idf := 2) (p := true) (q := true) c0 c2 _ fun σ3 hg3 => ?_
        replace c0 := hg3.2 _ _ c0 (by simp)
        replace c2 := hg3.2 _ _ c2 (by simp)
        replace c1 := hg3.2 _ _ c1 (by simp)
        replace cx := hg3.2 _ _ cx (by simp)
        replace hx := hx.keepN hg3
        have hl3 : σ1.length < σ3.length := (List.getElem?_eq_some_iff.1 cx).1
        repeat' (first
          | ((with_reducible apply Gr.side) ; with_reducible assumption)
          | ((with_reducible apply Gr.side) ; (repeat (first | exact Gr.refl _ _ | assumption | with_reducible refine Gr.trans ?_ (Gr.boxN _ _ _ _ _) | refine Gr.setNew ?_ (by first | exact Nat.le_refl _ | (simp only [newB_length, List.length_set, List.length_append, List.length_singleton]; omega) | omega) _ | refine Gr.addN ?_ _ | refine Gr.newN ?_ _ _ _ | exact Gr.trans (by assumption) (by assumption) | refine Gr.trans ?_ (by assumption) | refine Gr.trans (by assumption) ?_)) ; (first | done | fail))
          | ((with_reducible refine Side.intro ?_) <;> (first
          | omega
          | exact Nat.le_of_ble_eq_true rfl
          | exact rfl
          ))
          | ((conv => whnf) <;> (first
          | (with_reducible refine and_same ?_)
          | (with_reducible refine and_side ?_ ?_)
          | ((with_reducible apply blkAt_step) ; (focus (first
          | ((repeat (first
          | exact get_new
          )); done)
          )) ; (focus (first | rfl | assumption | omega)) ; (focus (first | rfl | assumption)) ; (try dsimp only))
          | (with_reducible refine AppC.frz ?_)
          | (with_reducible refine rowsR_rsl ?_)
          ))
          )
        all_goals (conv => whnf)
        all_goals (try dsimp only)
        refine appendR_own (rows := sp (gtP b k i)) (hx.keepN (by (repeat (first
              | exact Gr.refl _ _
              | refine Gr.addN ?_ _
              )))) (by rw [sp_length, gtP_length]; show (i + 1) * 16 ≤ _; omega) ?_
        intro x' σ4 ho' hg' hb'
        have hne : ∀ j, j ≤ σ1.length → x.bid ≠ some j := fun j hj e => by have := hxb j e; omega
        replace c0 := hg'.2 _ _ (get_old c0) (hne _ (by omega))
        replace c2 := hg'.2 _ _ (get_old c2) (hne _ (by omega))
        replace c1 := hg'.2 _ _ (get_old c1) (hne _ (by omega))
        replace cx := hg'.2 _ _ (get_old cx) (hne _ (Nat.le_refl _))
        obtain ⟨o1, o2, o3⟩ := ho'.one
        have hl4 := (List.getElem?_eq_some_iff.1 cx).1
        repeat' (first
          | ((with_reducible refine Side.intro ?_) <;> (first
          | omega
          | (simp only [bs_length, List.length_append, List.length_cons, List.length_nil, List.length_take, List.length_drop, List.length_set, List.length_replicate]; omega)
          ))
          | ((conv => whnf) <;> (first
          | (with_reducible refine and_same ?_)
          | (with_reducible refine and_side ?_ ?_)
          | ((with_reducible apply blkAt_step) ; (focus (first
          | ((repeat (first
          | assumption
          )); done)
          )) ; (focus (first | rfl | assumption | omega)) ; (focus (first | rfl | assumption)) ; (try dsimp only))
          ))
          )
        all_goals (conv => whnf)
        all_goals (try dsimp only)
        rw [o1]
        repeat' (first
          | ((conv => whnf) <;> (first
          | (with_reducible refine and_same ?_)
          | ((with_reducible apply Br.yes) ; (focus omega))
          ))
          )
        all_goals (conv => whnf)
        all_goals (try dsimp only)
        refine ⟨(i + 1, _, x'), rfl, rfl, ⟨by omega, get_set_ne (by omega) c0, get_set_ne (by omega) c2, ⟨_, get_set_ne (by omega) c1⟩, ⟨_, get_set cx⟩, ?_, fun id hid => ?_, fun q => by omega⟩, by omega⟩
        · refine Own.keep (Gr.set _ _ _) ?_ (.inr fun e => ?_)
          · rw [gtP_succ, sp_append]
            exact ho'
          · rcases hb' with q | q
            · exact hne _ (Nat.le_refl _) (q ▸ e.symm)
            · rw [q] at e; simp only [newB_length, Option.some.injEq] at e; omega
        · rcases hb' with q | q
          · exact hxb id (q ▸ hid)
          · rw [q] at hid; cases hid; simp only [newB_length]; omega
      · have hiC : i = 7 := by omega
        subst hiC
        rw [show min (H / 2) 7 = 7 from by omega, show decide (H % 2 = 1) = false from by simp [hpar]]
        rcases hx with ⟨rfl, he⟩ | ⟨idx, gx, sx, rfl, hbx⟩
        · have := congrArg List.length he
          rw [sp_length, gtP_length] at this
          cases this
        · have hidx := hxb idx rfl
          refine blkAt_intro (get_set_ne (by simp only [newB_length, List.length_nil]; omega) hbx) rfl ⟨rfl, by rw [Nat.zero_add, List.length_append]; omega, ?_⟩
          dsimp only
          rw [List.drop_zero, List.take_left' rfl]
          rw [if_neg (by decide)]
          repeat' (first
            | ((with_reducible refine Side.intro ?_) <;> (first
            | ((first | refine fresh_tup ?_ | skip); (repeat (first | exact fresh_sp _ |  exact FreshA.sl _ _ FreshA_bs | exact FreshA.sl _ _ FreshA_is | exact FreshA.nils | exact FreshA.nilp | exact FreshA.int _ _ | exact FreshA.bool _ | exact FreshA.str _ | exact fresh_nil | refine fresh_cons ?_ ?_ | with_reducible refine fresh_aggR ?_ | with_reducible refine fresh_agg ?_ | with_reducible exact fresh_nilA | with_reducible refine fresh_consA ?_ ?_)); done)
            | (simp; done)
            ))
            | ((conv => whnf) <;> (first
            | (with_reducible refine and_side ?_ ?_)
            ))
            )
          all_goals (conv => whnf)
          all_goals (try dsimp only)
          exact ret_same rfl
    · repeat' (first
        | ((with_reducible refine Side.intro ?_) <;> (first
        | omega
        | exact Nat.le_of_ble_eq_true rfl
        | exact rfl
        ))
        | ((conv => whnf) <;> (first
        | (with_reducible refine and_same ?_)
        | (with_reducible refine and_side ?_ ?_)
        | ((with_reducible apply Br.yes) ; (focus omega))
        | ((with_reducible apply Br.no) ; (focus omega))
        | ((with_reducible apply blkAt_step) ; (focus (first
        | ((repeat (first
        | exact get_new
        )); done)
        )) ; (focus (first | rfl | assumption | omega)) ; (focus (first | rfl | assumption)) ; (try dsimp only))
        ))
        )
      all_goals (conv => whnf)
      all_goals (try dsimp only)
      refine loop_at (α := Nat × AH × AV) (fun a => [(22, .int .i64 a.1)]) (fun a => a.2.1) (fun a => a.1 ≤ H / 2 ∧ a.2.1[0]? = some { sz := 1, els := [[.sl 1 (bs b) false]], gen := 0, wr := true, pure := true } ∧ a.2.1[2]? = some { sz := 1, els := [[.int .i64 ((128 * k : Nat) : Int)]], gen := 0, wr := true, pure := true } ∧ (∃ p, a.2.1[1]? = some { sz := 2, els := [[.bool false, .nils]], gen := 0, wr := true, pure := p }) ∧ (∃ p, a.2.1[σ1.length]? = some { sz := 2, els := [[.bool false, a.2.2]], gen := 0, wr := true, pure := p }) ∧ Own a.2.1 2 a.2.2 (sp (gtP b k a.1)) ∧ (∀ id, a.2.2.bid = some id → σ1.length < id) ∧ (a.1 = 0 → a.2.2 = .nils)) (fun a => H / 2 - a.1) (0, _, .nils) ⟨Nat.zero_le _, ?_, ?_, ⟨true, ?_⟩, ⟨true, ?_⟩, Own.nil _ _, (fun id h => by cases h), fun _ => rfl⟩ rfl rfl ?_
      · exact get_set_ne (by omega) (get_old b0)
      · rw [show ((128 * k : Nat) : Int) = (k : Int) * 128 from by omega]
        exact get_set_ne (by omega) (get_old b2)
      · exact get_set_ne (by omega) (get_old b1)
      · exact get_set get_new
      rintro ⟨i, σ, x⟩ ⟨hi, c0, c2, ⟨p1, c1⟩, ⟨p, cx⟩, hx, hxb, hx0⟩
      dsimp only at hi c0 c2 c1 cx hx hxb hx0 ⊢
      repeat' (first
        | ((with_reducible refine Side.intro ?_) <;> (first
        | exact Nat.le_of_ble_eq_true rfl
        | exact rfl
        ))
        | ((conv => whnf) <;> (first
        | (with_reducible refine and_same ?_)
        | (with_reducible refine and_side ?_ ?_)
        | ((with_reducible apply Br.yes) ; (focus omega))
        | (with_reducible refine Br.mk (fun _ => ?_) (fun _ => ?_))
        | ((with_reducible apply blkAt_step) ; (focus (first
        | ((repeat (first
        | assumption
        | exact get_set (by assumption)
        )); done)
        )) ; (focus (first | rfl | assumption | omega)) ; (focus (first | rfl | assumption)) ; (try dsimp only))
        | (with_reducible refine NOut.lit ?_)
        ))
        )
      all_goals (conv => whnf)
      all_goals (try dsimp only)
      · refine get1_call b k (1 + 2 * i) hk hb (idb := 0) (idf := 2) (p := true) (q := true) c0 c2 _ fun σ2 hg2 => ?_
        replace c0 := hg2.2 _ _ c0 (by simp)
        replace c2 := hg2.2 _ _ c2 (by simp)
        replace c1 := hg2.2 _ _ c1 (by simp)
        replace cx := hg2.2 _ _ cx (by simp)
        replace hx := hx.keepN hg2
        repeat' (first
          | ((with_reducible apply Gr.side) ; with_reducible assumption)
          | ((conv => whnf) <;> (first
          | (with_reducible refine and_side ?_ ?_)
          ))
          )
        all_goals (conv => whnf)
        all_goals (try dsimp only)
        refine get1_call b k (2 + 2 * i) hk hb (idb := 0) (idf := 2) (p := true) (q := true) c0 c2 _ fun σ3 hg3 => ?_
        replace c0 := hg3.2 _ _ c0 (by simp)
        replace c2 := hg3.2 _ _ c2 (by simp)
        replace c1 := hg3.2 _ _ c1 (by simp)
        replace cx := hg3.2 _ _ cx (by simp)
        replace hx := hx.keepN hg3
        have hl3 : σ1.length < σ3.length := (List.getElem?_eq_some_iff.1 cx).1
        repeat' (first
          | ((with_reducible apply Gr.side) ; with_reducible assumption)
          | ((with_reducible apply Gr.side) ; (repeat (first | exact Gr.refl _ _ | assumption | with_reducible refine Gr.trans ?_ (Gr.boxN _ _ _ _ _) | refine Gr.setNew ?_ (by first | exact Nat.le_refl _ | (simp only [newB_length, List.length_set, List.length_append, List.length_singleton]; omega) | omega) _ | refine Gr.addN ?_ _ | refine Gr.newN ?_ _ _ _ | exact Gr.trans (by assumption) (by assumption) | refine Gr.trans ?_ (by assumption) | refine Gr.trans (by assumption) ?_)) ; (first | done | fail))
          | ((with_reducible refine Side.intro ?_) <;> (first
          | omega
          | exact Nat.le_of_ble_eq_true rfl
          | exact rfl
          ))
          | ((conv => whnf) <;> (first
          | (with_reducible refine and_same ?_)
          | (with_reducible refine and_side ?_ ?_)
          | ((with_reducible apply blkAt_step) ; (focus (first
          | ((repeat (first
          | exact get_new
          )); done)
          )) ; (focus (first | rfl | assumption | omega)) ; (focus (first | rfl | assumption)) ; (try dsimp only))
          | (with_reducible refine AppC.frz ?_)
          | (with_reducible refine rowsR_rsl ?_)
          ))
          )
        all_goals (conv => whnf)
        all_goals (try dsimp only)
        refine appendR_own (rows := sp (gtP b k i)) (hx.keepN (by (repeat (first
              | exact Gr.refl _ _
              | refine Gr.addN ?_ _
              )))) (by rw [sp_length, gtP_length]; show (i + 1) * 16 ≤ _; omega) ?_
        intro x' σ4 ho' hg' hb'
        have hne : ∀ j, j ≤ σ1.length → x.bid ≠ some j := fun j hj e => by have := hxb j e; omega
        replace c0 := hg'.2 _ _ (get_old c0) (hne _ (by omega))
        replace c2 := hg'.2 _ _ (get_old c2) (hne _ (by omega))
        replace c1 := hg'.2 _ _ (get_old c1) (hne _ (by omega))
        replace cx := hg'.2 _ _ (get_old cx) (hne _ (Nat.le_refl _))
        obtain ⟨o1, o2, o3⟩ := ho'.one
        have hl4 := (List.getElem?_eq_some_iff.1 cx).1
        repeat' (first
          | ((with_reducible refine Side.intro ?_) <;> (first
          | omega
          | (simp only [bs_length, List.length_append, List.length_cons, List.length_nil, List.length_take, List.length_drop, List.length_set, List.length_replicate]; omega)
          ))
          | ((conv => whnf) <;> (first
          | (with_reducible refine and_same ?_)
          | (with_reducible refine and_side ?_ ?_)
          | ((with_reducible apply blkAt_step) ; (focus (first
          | ((repeat (first
          | assumption
          )); done)
          )) ; (focus (first | rfl | assumption | omega)) ; (focus (first | rfl | assumption)) ; (try dsimp only))
          ))
          )
        all_goals (conv => whnf)
        all_goals (try dsimp only)
        rw [o1]
        repeat' (first
          | ((conv => whnf) <;> (first
          | (with_reducible refine and_same ?_)
          | ((with_reducible apply Br.yes) ; (focus omega))
          ))
          )
        all_goals (conv => whnf)
        all_goals (try dsimp only)
        refine ⟨(i + 1, _, x'), rfl, rfl, ⟨by omega, get_set_ne (by omega) c0, get_set_ne (by omega) c2, ⟨_, get_set_ne (by omega) c1⟩, ⟨_, get_set cx⟩, ?_, fun id hid => ?_, fun q => by omega⟩, by omega⟩
        · refine Own.keep (Gr.set _ _ _) ?_ (.inr fun e => ?_)
          · rw [gtP_succ, sp_append]
            exact ho'
          · rcases hb' with q | q
            · exact hne _ (Nat.le_refl _) (q ▸ e.symm)
            · rw [q] at e; simp only [newB_length, Option.some.injEq] at e; omega
        · rcases hb' with q | q
          · exact hxb id (q ▸ hid)
          · rw [q] at hid; cases hid; simp only [newB_length]; omega
      · have hiC : i = H / 2 := by omega
        rw [hiC] at hx
        rw [show min (H / 2) 7 = H / 2 from by omega, show decide (H % 2 = 1) = false from by simp [hpar]]
        rcases hx with ⟨rfl, he⟩ | ⟨idx, gx, sx, rfl, hbx⟩
        · have := congrArg List.length he
          rw [sp_length, gtP_length, List.length_nil] at this
          rw [if_pos this]
          repeat' (first
            | ((with_reducible refine Side.intro ?_) <;> (first
            | (simp only [List.append_nil, List.nil_append, List.map_nil]; first | exact List.nodup_nil | exact nodup_bid1 _ | exact nodup_bid2 (by assumption))
            | ((first | refine fresh_tup ?_ | skip); (repeat (first | exact fresh_sp _ |  exact FreshA.sl _ _ FreshA_bs | exact FreshA.sl _ _ FreshA_is | exact FreshA.nils | exact FreshA.nilp | exact FreshA.int _ _ | exact FreshA.bool _ | exact FreshA.str _ | exact fresh_nil | refine fresh_cons ?_ ?_ | with_reducible refine fresh_aggR ?_ | with_reducible refine fresh_agg ?_ | with_reducible exact fresh_nilA | with_reducible refine fresh_consA ?_ ?_)); done)
            ))
            | ((conv => whnf) <;> (first
            | (with_reducible refine and_side ?_ ?_)
            ))
            )
          all_goals (conv => whnf)
          all_goals (try dsimp only)
          exact ret_same rfl
        · have hidx := hxb idx rfl
          refine blkAt_intro (get_set_ne (by simp only [newB_length, List.length_nil]; omega) hbx) rfl ⟨rfl, by rw [Nat.zero_add, List.length_append]; omega, ?_⟩
          dsimp only
          rw [List.drop_zero, List.take_left' rfl]
          rw [if_neg (fun q => by cases hx0 (by omega))]
          repeat' (first
            | ((with_reducible refine Side.intro ?_) <;> (first
            | ((first | refine fresh_tup ?_ | skip); (repeat (first | exact fresh_sp _ |  exact FreshA.sl _ _ FreshA_bs | exact FreshA.sl _ _ FreshA_is | exact FreshA.nils | exact FreshA.nilp | exact FreshA.int _ _ | exact FreshA.bool _ | exact FreshA.str _ | exact fresh_nil | refine fresh_cons ?_ ?_ | with_reducible refine fresh_aggR ?_ | with_reducible refine fresh_agg ?_ | with_reducible exact fresh_nilA | with_reducible refine fresh_consA ?_ ?_)); done)
            | (simp; done)
            ))
            | ((conv => whnf) <;> (first
            | (with_reducible refine and_side ?_ ?_)
            ))
            )
          all_goals (conv => whnf)
          all_goals (try dsimp only)
          exact ret_same rfl
  · rw [hpar] at hand
    by_cases h7 : 7 < H / 2
    · repeat' (first
        | ((with_reducible refine Side.intro ?_) <;> (first
        | omega
        | exact Nat.le_of_ble_eq_true rfl
        | exact rfl
        ))
        | ((conv => whnf) <;> (first
        | (with_reducible refine and_same ?_)
        | (with_reducible refine and_side ?_ ?_)
        | ((with_reducible apply Br.yes) ; (focus omega))
        | ((with_reducible apply blkAt_step) ; (focus (first
        | ((repeat (first
        | exact get_new
        )); done)
        )) ; (focus (first | rfl | assumption | omega)) ; (focus (first | rfl | assumption)) ; (try dsimp only))
        ))
        )
      all_goals (conv => whnf)
      all_goals (try dsimp only)
      refine loop_at (α := Nat × AH × AV) (fun a => [(22, .int .i64 a.1)]) (fun a => a.2.1) (fun a => a.1 ≤ 7 ∧ a.2.1[0]? = some { sz := 1, els := [[.sl 1 (bs b) false]], gen := 0, wr := true, pure := true } ∧ a.2.1[2]? = some { sz := 1, els := [[.int .i64 ((128 * k : Nat) : Int)]], gen := 0, wr := true, pure := true } ∧ (∃ p, a.2.1[1]? = some { sz := 2, els := [[.bool false, .nils]], gen := 0, wr := true, pure := p }) ∧ (∃ p, a.2.1[σ1.length]? = some { sz := 2, els := [[.bool true, a.2.2]], gen := 0, wr := true, pure := p }) ∧ Own a.2.1 2 a.2.2 (sp (gtP b k a.1)) ∧ (∀ id, a.2.2.bid = some id → σ1.length < id) ∧ (a.1 = 0 → a.2.2 = .nils)) (fun a => 7 - a.1) (0, _, .nils) ⟨Nat.zero_le _, ?_, ?_, ⟨true, ?_⟩, ⟨true, ?_⟩, Own.nil _ _, (fun id h => by cases h), fun _ => rfl⟩ rfl rfl ?_
      · exact get_set_ne (by omega) (get_old b0)
      · rw [show ((128 * k : Nat) : Int) = (k : Int) * 128 from by omega]
        exact get_set_ne (by omega) (get_old b2)
      · exact get_set_ne (by omega) (get_old b1)
      · exact get_set get_new
      rintro ⟨i, σ, x⟩ ⟨hi, c0, c2, ⟨p1, c1⟩, ⟨p, cx⟩, hx, hxb, hx0⟩
      dsimp only at hi c0 c2 c1 cx hx hxb hx0 ⊢
      repeat' (first
        | ((with_reducible refine Side.intro ?_) <;> (first
        | exact Nat.le_of_ble_eq_true rfl
        | exact rfl
        ))
        | ((conv => whnf) <;> (first
        | (with_reducible refine and_same ?_)
        | (with_reducible refine and_side ?_ ?_)
        | ((with_reducible apply Br.yes) ; (focus omega))
        | (with_reducible refine Br.mk (fun _ => ?_) (fun _ => ?_))
        | ((with_reducible apply blkAt_step) ; (focus (first
        | ((repeat (first
        | assumption
        | exact get_set (by assumption)
        )); done)
        )) ; (focus (first | rfl | assumption | omega)) ; (focus (first | rfl | assumption)) ; (try dsimp only))
        | (with_reducible refine NOut.lit ?_)
        ))
        )
      all_goals (conv => whnf)
      all_goals (try dsimp only)
      · refine get1_call b k (1 + 2 * i) hk hb (idb := 0) (idf := 2) (p := true) (q := true) c0 c2 _ fun σ2 hg2 => ?_
        replace c0 := hg2.2 _ _ c0 (by simp)
        replace c2 := hg2.2 _ _ c2 (by simp)
        replace c1 := hg2.2 _ _ c1 (by simp)
        replace cx := hg2.2 _ _ cx (by simp)
        replace hx := hx.keepN hg2
        repeat' (first
          | ((with_reducible apply Gr.side) ; with_reducible assumption)
          | ((conv => whnf) <;> (first
          | (with_reducible refine and_side ?_ ?_)
          ))
          )
        all_goals (conv => whnf)
        all_goals (try dsimp only)
        refine get1_call b k (2 + 2 * i) hk hb (idb := 0) (idf := 2) (p := true) (q := true) c0 c2 _ fun σ3 hg3 => ?_
        replace c0 := hg3.2 _ _ c0 (by simp)
        replace c2 := hg3.2 _ _ c2 (by simp)
        replace c1 := hg3.2 _ _ c1 (by simp)
        replace cx := hg3.2 _ _ cx (by simp)
        replace hx := hx.keepN hg3
        have hl3 : σ1.length < σ3.length := (List.getElem?_eq_some_iff.1 cx).1
        repeat' (first
          | ((with_reducible apply Gr.side) ; with_reducible assumption)
          | ((with_reducible apply Gr.side) ; (repeat (first | exact Gr.refl _ _ | assumption | with_reducible refine Gr.trans ?_ (Gr.boxN _ _ _ _ _) | refine Gr.setNew ?_ (by first | exact Nat.le_refl _ | (simp only [newB_length, List.length_set, List.length_append, List.length_singleton]; omega) | omega) _ | refine Gr.addN ?_ _ | refine Gr.newN ?_ _ _ _ | exact Gr.trans (by assumption) (by assumption) | refine Gr.trans ?_ (by assumption) | refine Gr.trans (by assumption) ?_)) ; (first | done | fail))
          | ((with_reducible refine Side.intro ?_) <;> (first
          | omega
          | exact Nat.le_of_ble_eq_true rfl
          | exact rfl
          ))
          | ((conv => whnf) <;> (first
          | (with_reducible refine and_same ?_)
          | (with_reducible refine and_side ?_ ?_)
          | ((with_reducible apply blkAt_step) ; (focus (first
          | ((repeat (first
          | exact get_new
          )); done)
          )) ; (focus (first | rfl | assumption | omega)) ; (focus (first | rfl | assumption)) ; (try dsimp only))
          | (with_reducible refine AppC.frz ?_)
          | (with_reducible refine rowsR_rsl ?_)
          ))
          )
        all_goals (conv => whnf)
        all_goals (try dsimp only)
        refine appendR_own (rows := sp (gtP b k i)) (hx.keepN (by (repeat (first
              | exact Gr.refl _ _
              | refine Gr.addN ?_ _
              )))) (by rw [sp_length, gtP_length]; show (i + 1) * 16 ≤ _; omega) ?_
        intro x' σ4 ho' hg' hb'
        have hne : ∀ j, j ≤ σ1.length → x.bid ≠ some j := fun j hj e => by have := hxb j e; omega
        replace c0 := hg'.2 _ _ (get_old c0) (hne _ (by omega))
        replace c2 := hg'.2 _ _ (get_old c2) (hne _ (by omega))
        replace c1 := hg'.2 _ _ (get_old c1) (hne _ (by omega))
        replace cx := hg'.2 _ _ (get_old cx) (hne _ (Nat.le_refl _))
        obtain ⟨o1, o2, o3⟩ := ho'.one
        have hl4 := (List.getElem?_eq_some_iff.1 cx).1
        repeat' (first
          | ((with_reducible refine Side.intro ?_) <;> (first
          | omega
          | (simp only [bs_length, List.length_append, List.length_cons, List.length_nil, List.length_take, List.length_drop, List.length_set, List.length_replicate]; omega)
          ))
          | ((conv => whnf) <;> (first
          | (with_reducible refine and_same ?_)
          | (with_reducible refine and_side ?_ ?_)
          | ((with_reducible apply blkAt_step) ; (focus (first
          | ((repeat (first
          | assumption
          )); done)
          )) ; (focus (first | rfl | assumption | omega)) ; (focus (first | rfl | assumption)) ; (try dsimp only))
          ))
          )
        all_goals (conv => whnf)
        all_goals (try dsimp only)
        rw [o1]
        repeat' (first
          | ((conv => whnf) <;> (first
          | (with_reducible refine and_same ?_)
          | ((with_reducible apply Br.yes) ; (focus omega))
          ))
          )
        all_goals (conv => whnf)
        all_goals (try dsimp only)
        refine ⟨(i + 1, _, x'), rfl, rfl, ⟨by omega, get_set_ne (by omega) c0, get_set_ne (by omega) c2, ⟨_, get_set_ne (by omega) c1⟩, ⟨_, get_set cx⟩, ?_, fun id hid => ?_, fun q => by omega⟩, by omega⟩
        · refine Own.keep (Gr.set _ _ _) ?_ (.inr fun e => ?_)
          · rw [gtP_succ, sp_append]
            exact ho'
          · rcases hb' with q | q
            · exact hne _ (Nat.le_refl _) (q ▸ e.symm)
            · rw [q] at e; simp only [newB_length, Option.some.injEq] at e; omega
        · rcases hb' with q | q
          · exact hxb id (q ▸ hid)
          · rw [q] at hid; cases hid; simp only [newB_length]; omega
      · have hiC : i = 7 := by omega
        subst hiC
        rw [show min (H / 2) 7 = 7 from by omega, show decide (H % 2 = 1) = true from by simp [hpar]]
        rcases hx with ⟨rfl, he⟩ | ⟨idx, gx, sx, rfl, hbx⟩
        · have := congrArg List.length he
          rw [sp_length, gtP_length] at this
          cases this
        · have hidx := hxb idx rfl
          refine blkAt_intro (get_set_ne (by simp only [newB_length, List.length_nil]; omega) hbx) rfl ⟨rfl, by rw [Nat.zero_add, List.length_append]; omega, ?_⟩
          dsimp only
          rw [List.drop_zero, List.take_left' rfl]
          rw [if_neg (by decide)]
          repeat' (first
            | ((with_reducible refine Side.intro ?_) <;> (first
            | ((first | refine fresh_tup ?_ | skip); (repeat (first | exact fresh_sp _ |  exact FreshA.sl _ _ FreshA_bs | exact FreshA.sl _ _ FreshA_is | exact FreshA.nils | exact FreshA.nilp | exact FreshA.int _ _ | exact FreshA.bool _ | exact FreshA.str _ | exact fresh_nil | refine fresh_cons ?_ ?_ | with_reducible refine fresh_aggR ?_ | with_reducible refine fresh_agg ?_ | with_reducible exact fresh_nilA | with_reducible refine fresh_consA ?_ ?_)); done)
            | (simp; done)
            ))
            | ((conv => whnf) <;> (first
            | (with_reducible refine and_side ?_ ?_)
            ))
            )
          all_goals (conv => whnf)
          all_goals (try dsimp only)
          exact ret_same rfl
    · repeat' (first
        | ((with_reducible refine Side.intro ?_) <;> (first
        | omega
        | exact Nat.le_of_ble_eq_true rfl
        | exact rfl
        ))
        | ((conv => whnf) <;> (first
        | (with_reducible refine and_same ?_)
        | (with_reducible refine and_side ?_ ?_)
        | ((with_reducible apply Br.yes) ; (focus omega))
        | ((with_reducible apply Br.no) ; (focus omega))
        | ((with_reducible apply blkAt_step) ; (focus (first
        | ((repeat (first
        | exact get_new
        )); done)
        )) ; (focus (first | rfl | assumption | omega)) ; (focus (first | rfl | assumption)) ; (try dsimp only))
        ))
        )
      all_goals (conv => whnf)
      all_goals (try dsimp only)
      refine loop_at (α := Nat × AH × AV) (fun a => [(22, .int .i64 a.1)]) (fun a => a.2.1) (fun a => a.1 ≤ H / 2 ∧ a.2.1[0]? = some { sz := 1, els := [[.sl 1 (bs b) false]], gen := 0, wr := true, pure := true } ∧ a.2.1[2]? = some { sz := 1, els := [[.int .i64 ((128 * k : Nat) : Int)]], gen := 0, wr := true, pure := true } ∧ (∃ p, a.2.1[1]? = some { sz := 2, els := [[.bool false, .nils]], gen := 0, wr := true, pure := p }) ∧ (∃ p, a.2.1[σ1.length]? = some { sz := 2, els := [[.bool true, a.2.2]], gen := 0, wr := true, pure := p }) ∧ Own a.2.1 2 a.2.2 (sp (gtP b k a.1)) ∧ (∀ id, a.2.2.bid = some id → σ1.length < id) ∧ (a.1 = 0 → a.2.2 = .nils)) (fun a => H / 2 - a.1) (0, _, .nils) ⟨Nat.zero_le _, ?_, ?_, ⟨true, ?_⟩, ⟨true, ?_⟩, Own.nil _ _, (fun id h => by cases h), fun _ => rfl⟩ rfl rfl ?_
      · exact get_set_ne (by omega) (get_old b0)
      · rw [show ((128 * k : Nat) : Int) = (k : Int) * 128 from by omega]
        exact get_set_ne (by omega) (get_old b2)
      · exact get_set_ne (by omega) (get_old b1)
      · exact get_set get_new
      rintro ⟨i, σ, x⟩ ⟨hi, c0, c2, ⟨p1, c1⟩, ⟨p, cx⟩, hx, hxb, hx0⟩
      dsimp only at hi c0 c2 c1 cx hx hxb hx0 ⊢
      repeat' (first
        | ((with_reducible refine Side.intro ?_) <;> (first
        | exact Nat.le_of_ble_eq_true rfl
        | exact rfl
        ))
        | ((conv => whnf) <;> (first
        | (with_reducible refine and_same ?_)
        | (with_reducible refine and_side ?_ ?_)
        | ((with_reducible apply Br.yes) ; (focus omega))
        | (with_reducible refine Br.mk (fun _ => ?_) (fun _ => ?_))
        | ((with_reducible apply blkAt_step) ; (focus (first
        | ((repeat (first
        | assumption
        | exact get_set (by assumption)
        )); done)
        )) ; (focus (first | rfl | assumption | omega)) ; (focus (first | rfl | assumption)) ; (try dsimp only))
        | (with_reducible refine NOut.lit ?_)
        ))
        )
      all_goals (conv => whnf)
      all_goals (try dsimp only)
      · refine get1_call b k (1 + 2 * i) hk hb (idb := 0) (idf := 2) (p := true) (q := true) c0 c2 _ fun σ2 hg2 => ?_
        replace c0 := hg2.2 _ _ c0 (by simp)
        replace c2 := hg2.2 _ _ c2 (by simp)
        replace c1 := hg2.2 _ _ c1 (by simp)
        replace cx := hg2.2 _ _ cx (by simp)
        replace hx := hx.keepN hg2
        repeat' (first
          | ((with_reducible apply Gr.side) ; with_reducible assumption)
          | ((conv => whnf) <;> (first
          | (with_reducible refine and_side ?_ ?_)
          ))
          )
        all_goals (conv => whnf)
        all_goals (try dsimp only)
        refine get1_call b k (2 + 2 * i) hk hb (idb := 0) (idf := 2) (p := true) (q := true) c0 c2 _ fun σ3 hg3 => ?_
        replace c0 := hg3.2 _ _ c0 (by simp)
        replace c2 := hg3.2 _ _ c2 (by simp)
        replace c1 := hg3.2 _ _ c1 (by simp)
        replace cx := hg3.2 _ _ cx (by simp)
        replace hx := hx.keepN hg3
        have hl3 : σ1.length < σ3.length := (List.getElem?_eq_some_iff.1 cx).1
        repeat' (first
          | ((with_reducible apply Gr.side) ; with_reducible assumption)
          | ((with_reducible apply Gr.side) ; (repeat (first | exact Gr.refl _ _ | assumption | with_reducible refine Gr.trans ?_ (Gr.boxN _ _ _ _ _) | refine Gr.setNew ?_ (by first | exact Nat.le_refl _ | (simp only [newB_length, List.length_set, List.length_append, List.length_singleton]; omega) | omega) _ | refine Gr.addN ?_ _ | refine Gr.newN ?_ _ _ _ | exact Gr.trans (by assumption) (by assumption) | refine Gr.trans ?_ (by assumption) | refine Gr.trans (by assumption) ?_)) ; (first | done | fail))
          | ((with_reducible refine Side.intro ?_) <;> (first
          | omega
          | exact Nat.le_of_ble_eq_true rfl
          | exact rfl
          ))
          | ((conv => whnf) <;> (first
          | (with_reducible refine and_same ?_)
          | (with_reducible refine and_side ?_ ?_)
          | ((with_reducible apply blkAt_step) ; (focus (first
          | ((repeat (first
          | exact get_new
          )); done)
          )) ; (focus (first | rfl | assumption | omega)) ; (focus (first | rfl | assumption)) ; (try dsimp only))
          | (with_reducible refine AppC.frz ?_)
          | (with_reducible refine rowsR_rsl ?_)
          ))
          )
        all_goals (conv => whnf)
        all_goals (try dsimp only)
        refine appendR_own (rows := sp (gtP b k i)) (hx.keepN (by (repeat (first
              | exact Gr.refl _ _
              | refine Gr.addN ?_ _
              )))) (by rw [sp_length, gtP_length]; show (i + 1) * 16 ≤ _; omega) ?_
        intro x' σ4 ho' hg' hb'
        have hne : ∀ j, j ≤ σ1.length → x.bid ≠ some j := fun j hj e => by have := hxb j e; omega
        replace c0 := hg'.2 _ _ (get_old c0) (hne _ (by omega))
        replace c2 := hg'.2 _ _ (get_old c2) (hne _ (by omega))
        replace c1 := hg'.2 _ _ (get_old c1) (hne _ (by omega))
        replace cx := hg'.2 _ _ (get_old cx) (hne _ (Nat.le_refl _))
        obtain ⟨o1, o2, o3⟩ := ho'.one
        have hl4 := (List.getElem?_eq_some_iff.1 cx).1
        repeat' (first
          | ((with_reducible refine Side.intro ?_) <;> (first
          | omega
          | (simp only [bs_length, List.length_append, List.length_cons, List.length_nil, List.length_take, List.length_drop, List.length_set, List.length_replicate]; omega)
          ))
          | ((conv => whnf) <;> (first
          | (with_reducible refine and_same ?_)
          | (with_reducible refine and_side ?_ ?_)
          | ((with_reducible apply blkAt_step) ; (focus (first
          | ((repeat (first
          | assumption
          )); done)
          )) ; (focus (first | rfl | assumption | omega)) ; (focus (first | rfl | assumption)) ; (try dsimp only))
          ))
          )
        all_goals (conv => whnf)
        all_goals (try dsimp only)
        rw [o1]
        repeat' (first
          | ((conv => whnf) <;> (first
          | (with_reducible refine and_same ?_)
          | ((with_reducible apply Br.yes) ; (focus omega))
          ))
          )
        all_goals (conv => whnf)
        all_goals (try dsimp only)
        refine ⟨(i + 1, _, x'), rfl, rfl, ⟨by omega, get_set_ne (by omega) c0, get_set_ne (by omega) c2, ⟨_, get_set_ne (by omega) c1⟩, ⟨_, get_set cx⟩, ?_, fun id hid => ?_, fun q => by omega⟩, by omega⟩
        · refine Own.keep (Gr.set _ _ _) ?_ (.inr fun e => ?_)
          · rw [gtP_succ, sp_append]
            exact ho'
          · rcases hb' with q | q
            · exact hne _ (Nat.le_refl _) (q ▸ e.symm)
            · rw [q] at e; simp only [newB_length, Option.some.injEq] at e; omega
        · rcases hb' with q | q
          · exact hxb id (q ▸ hid)
          · rw [q] at hid; cases hid; simp only [newB_length]; omega
      · have hiC : i = H / 2 := by omega
        rw [hiC] at hx
        rw [show min (H / 2) 7 = H / 2 from by omega, show decide (H % 2 = 1) = true from by simp [hpar]]
        rcases hx with ⟨rfl, he⟩ | ⟨idx, gx, sx, rfl, hbx⟩
        · have := congrArg List.length he
          rw [sp_length, gtP_length, List.length_nil] at this
          rw [if_pos this]
          repeat' (first
            | ((with_reducible refine Side.intro ?_) <;> (first
            | (simp only [List.append_nil, List.nil_append, List.map_nil]; first | exact List.nodup_nil | exact nodup_bid1 _ | exact nodup_bid2 (by assumption))
            | ((first | refine fresh_tup ?_ | skip); (repeat (first | exact fresh_sp _ |  exact FreshA.sl _ _ FreshA_bs | exact FreshA.sl _ _ FreshA_is | exact FreshA.nils | exact FreshA.nilp | exact FreshA.int _ _ | exact FreshA.bool _ | exact FreshA.str _ | exact fresh_nil | refine fresh_cons ?_ ?_ | with_reducible refine fresh_aggR ?_ | with_reducible refine fresh_agg ?_ | with_reducible exact fresh_nilA | with_reducible refine fresh_consA ?_ ?_)); done)
            ))
            | ((conv => whnf) <;> (first
            | (with_reducible refine and_side ?_ ?_)
            ))
            )
          all_goals (conv => whnf)
          all_goals (try dsimp only)
          exact ret_same rfl
        · have hidx := hxb idx rfl
          refine blkAt_intro (get_set_ne (by simp only [newB_length, List.length_nil]; omega) hbx) rfl ⟨rfl, by rw [Nat.zero_add, List.length_append]; omega, ?_⟩
          dsimp only
          rw [List.drop_zero, List.take_left' rfl]
          rw [if_neg (fun q => by cases hx0 (by omega))]
          repeat' (first
            | ((with_reducible refine Side.intro ?_) <;> (first
            | ((first | refine fresh_tup ?_ | skip); (repeat (first | exact fresh_sp _ |  exact FreshA.sl _ _ FreshA_bs | exact FreshA.sl _ _ FreshA_is | exact FreshA.nils | exact FreshA.nilp | exact FreshA.int _ _ | exact FreshA.bool _ | exact FreshA.str _ | exact fresh_nil | refine fresh_cons ?_ ?_ | with_reducible refine fresh_aggR ?_ | with_reducible refine fresh_agg ?_ | with_reducible exact fresh_nilA | with_reducible refine fresh_consA ?_ ?_)); done)
            | (simp; done)
            ))
            | ((conv => whnf) <;> (first
            | (with_reducible refine and_side ?_ ?_)
            ))
            )
          all_goals (conv => whnf)
          all_goals (try dsimp only)
          exact ret_same rfl
end Go.Proofs.Ythalikgchafjiaa

namespace Go.Proofs.Ythalikgchafjiaa
open Go Go.Proofs.Ythalikgchafjiaa.V
/-! Slices, each in a block of its own, of any rows. -/
structure SepR (σ : AH) (sz : Nat) (xs : List AV) (D : List (List (List AV))) : Prop where
  len : xs.length = D.length
  own : ∀ (j : Nat) (x : AV) (d : List (List AV)), xs[j]? = some x → D[j]? = some d → Own σ sz x d
  dis : ∀ (j k : Nat) (x y : AV), xs[j]? = some x → xs[k]? = some y → j ≠ k → x.bid = none ∨ x.bid ≠ y.bid
theorem SepR.nil (σ : AH) (sz : Nat) : SepR σ sz [] [] := ⟨rfl, fun j x d h => by simp at h, fun j k x y h => by simp at h⟩
theorem SepR.row {σ : AH} {sz : Nat} {xs : List AV} {D : List (List (List AV))} (h : SepR σ sz xs D) {j : Nat} {x : AV} (hx : xs[j]? = some x) : ∃ d, D[j]? = some d ∧ Own σ sz x d := by
  have hj : j < D.length := by rw [← h.len]; exact (List.getElem?_eq_some_iff.1 hx).1
  exact ⟨_, List.getElem?_eq_getElem hj, h.own j x _ hx (List.getElem?_eq_getElem hj)⟩
theorem SepR.mem {σ : AH} {sz : Nat} {xs : List AV} {D : List (List (List AV))} (h : SepR σ sz xs D) {x : AV} (hx : x ∈ xs) : ∃ d, Own σ sz x d := by
  obtain ⟨j, hj⟩ := List.mem_iff_getElem?.1 hx
  obtain ⟨d, _, h2⟩ := h.row hj
  exact ⟨d, h2⟩
theorem SepR.keep {σ σ' : AH} {sz : Nat} {o : Option Nat} {xs : List AV} {D : List (List (List AV))} (h : SepR σ sz xs D) (hg : Gr σ σ' o) (hd : ∀ x, x ∈ xs → x.bid = none ∨ o ≠ x.bid) : SepR σ' sz xs D :=
  ⟨h.len, fun j x d h1 h2 => Own.keep hg (h.own j x d h1 h2) (hd x (List.mem_of_getElem? h1)), h.dis⟩
theorem SepR.keepN {σ σ' : AH} {sz : Nat} {xs : List AV} {D : List (List (List AV))} (hg : Gr σ σ' none) (h : SepR σ sz xs D) : SepR σ' sz xs D :=
  ⟨h.len, fun j x d h1 h2 => (h.own j x d h1 h2).keepN hg, h.dis⟩
theorem SepR.lt {σ : AH} {sz : Nat} {xs : List AV} {D : List (List (List AV))} (h : SepR σ sz xs D) {y : AV} (hy : y ∈ xs) {id : Nat} (hi : y.bid = some id) : id < σ.length := by
  obtain ⟨d, ho⟩ := h.mem hy
  exact ho.lt hi
theorem SepR.apart {σ : AH} {sz : Nat} {xs : List AV} {D : List (List (List AV))} (h : SepR σ sz xs D) {y : AV} (hy : ∀ id, y.bid = some id → σ.length ≤ id) : ∀ w, w ∈ xs → w.bid = none ∨ w.bid ≠ y.bid := fun w hw => by
  cases hb : w.bid with
  | none => exact .inl rfl
  | some a =>
    right
    intro e
    have p1 := hy a e.symm
    have p2 := h.lt hw hb
    omega
theorem SepR.snoc {σ : AH} {sz : Nat} {xs : List AV} {D : List (List (List AV))} {x : AV} {d : List (List AV)} (h : SepR σ sz xs D) (hx : Own σ sz x d) (hn : ∀ y, y ∈ xs → y.bid = none ∨ y.bid ≠ x.bid) : SepR σ sz (xs ++ [x]) (D ++ [d]) := by
  have sp : ∀ {j : Nat} {y : AV}, (xs ++ [x])[j]? = some y → (j < xs.length ∧ xs[j]? = some y) ∨ (j = xs.length ∧ y = x) := by
    intro j y hy
    rw [List.getElem?_append] at hy
    split at hy
    · rename_i hl; exact .inl ⟨hl, hy⟩
    · rename_i hl
      right
      have : j - xs.length = 0 := by
        cases q : j - xs.length with
        | zero => rfl
        | succ n => rw [q] at hy; simp at hy
      rw [this] at hy
      simp at hy
      exact ⟨by omega, hy.symm⟩
  refine ⟨by rw [List.length_append, List.length_append, h.len]; rfl, ?_, ?_⟩
  · intro j y e h1 h2
    rcases sp h1 with ⟨hl, h1⟩ | ⟨hl, rfl⟩
    · rw [List.getElem?_append_left (by rw [← h.len]; exact hl)] at h2
      exact h.own j y e h1 h2
    · rw [List.getElem?_append_right (by rw [← h.len]; omega), show j - D.length = 0 from by rw [← h.len]; omega] at h2
      simp at h2
      rw [← h2]; exact hx
  · intro j k y y' h1 h2 hne
    rcases sp h1 with ⟨hl, h3⟩ | ⟨hl, h3⟩ <;> rcases sp h2 with ⟨hl', h4⟩ | ⟨hl', h4⟩
    · exact h.dis j k y y' h3 h4 hne
    · rw [h4]; exact hn y (List.mem_of_getElem? h3)
    · subst h3
      rcases hn y' (List.mem_of_getElem? h4) with q | q
      · cases hx' : y.bid with
        | none => exact .inl rfl
        | some a => exact .inr (by rw [q]; simp)
      · exact .inr fun e => q e.symm
    · omega
theorem SepR.cons {σ : AH} {sz : Nat} {xs : List AV} {D : List (List (List AV))} {x : AV} {d : List (List AV)} (h : SepR σ sz xs D) (hx : Own σ sz x d) (hn : ∀ y, y ∈ xs → y.bid = none ∨ y.bid ≠ x.bid) : SepR σ sz (x :: xs) (d :: D) := by
  refine ⟨by simp [h.len], ?_, ?_⟩
  · intro j y e h1 h2
    cases j with
    | zero => cases h1; cases h2; exact hx
    | succ j => exact h.own j y e (by simpa using h1) (by simpa using h2)
  · intro j k y y' h1 h2 hne
    cases j with
    | zero =>
      cases h1
      cases k with
      | zero => exact absurd rfl hne
      | succ k =>
        rcases hn y' (List.mem_of_getElem? (by simpa using h2)) with q | q
        · cases hx' : x.bid with
          | none => exact .inl rfl
          | some a => exact .inr (by rw [q]; simp)
        · exact .inr fun e => q e.symm
    | succ j =>
      cases k with
      | zero => cases h2; exact hn y (List.mem_of_getElem? (by simpa using h1))
      | succ k => exact h.dis j k y y' (by simpa using h1) (by simpa using h2) (by omega)
theorem SepR.tail {σ : AH} {sz : Nat} {xs : List AV} {D : List (List (List AV))} {x : AV} {d : List (List AV)} (h : SepR σ sz (x :: xs) (d :: D)) : SepR σ sz xs D :=
  ⟨by simpa using h.len, fun j y e h1 h2 => h.own (j + 1) y e (by simpa using h1) (by simpa using h2), fun j k y y' h1 h2 hne => h.dis (j + 1) (k + 1) y y' (by simpa using h1) (by simpa using h2) (by omega)⟩
theorem SepR.fs {σ : AH} {sz : Nat} {xs : List AV} {D : List (List (List AV))} (h : SepR σ sz xs D) : ∀ x, x ∈ xs → FreshS x := fun x hx => by
  obtain ⟨d, ho⟩ := h.mem hx
  exact ho.fs
/-- All frozen: who asks sees rows by value. -/
theorem SepR.frz {sz : Nat} : ∀ {xs : List AV} {D : List (List (List AV))} {σ : AH}, SepR σ sz xs D → (∀ d, d ∈ D → d ≠ []) → ∃ σ', frzLL σ (xs.map fun x => [x]) = some (D.map fun d => [.sl sz d true], σ') ∧ σ'.length = σ.length ∧ ∀ id, (∀ x, x ∈ xs → x.bid ≠ some id) → σ'[id]? = σ[id]?
  | [], [], σ, h, hd => ⟨σ, rfl, rfl, fun _ _ => rfl⟩
  | [], d :: D, σ, h, hd => by cases h.len
  | x :: xs, [], σ, h, hd => by cases h.len
  | x :: xs, d :: D, σ, h, hd => by
    obtain ⟨id, gen, spr, rfl, hb⟩ := (h.own 0 x d rfl rfl).ne (hd d (by simp))
    have h1 : SepR (σ.set id { sz := sz, els := d ++ spr, gen := gen, wr := false, pure := true }) sz xs D := by
      refine h.tail.keep (Gr.set _ _ _) fun y hy => ?_
      obtain ⟨j, hj⟩ := List.mem_iff_getElem?.1 hy
      rcases h.dis 0 (j + 1) _ y rfl (by simpa using hj) (by omega) with q | q
      · cases q
      · exact .inr q
    obtain ⟨σ', e1, e2, e3⟩ := SepR.frz h1 fun d hd' => hd d (by simp [hd'])
    refine ⟨σ', ?_, by rw [e2, List.length_set], fun i hi => ?_⟩
    · have hc : frzC σ (.rsl id gen 0 d.length none) = some (.sl sz d true, σ.set id { sz := sz, els := d ++ spr, gen := gen, wr := false, pure := true }) := by
        simp only [frzC, hb]
        rw [if_pos ⟨trivial, trivial, by rw [List.length_append]; omega⟩, List.drop_zero, List.take_left' rfl]
      rw [List.map_cons, List.map_cons]
      simp only [frzLL, frzL, hc, e1]
    · rw [e3 i fun y hy => hi y (by simp [hy]), List.getElem?_set_ne fun q => hi (.rsl id gen 0 d.length none) (by simp) (by rw [← q]; rfl)]
theorem outNR_rows {σ : AH} {id gen sz : Nat} {rows : List (List AV)} {post : AV → Prop} {b : Blk} (hb : σ[id]? = some b) (he : b = { sz := sz, els := rows, gen := gen, wr := true, pure := true }) (hf : FreshA (.sl sz rows true)) (hp : post (.sl sz rows true)) : outNR σ (.rsl id gen 0 rows.length none) fun z => ∃ y0, NilR z y0 ∧ post y0 := by
  subst he
  show NOut σ _ _
  exact outNR_own (.inr ⟨id, gen, [], rfl, by rw [List.append_nil]; exact hb⟩) hf hp
/-- A contract out of a body, run by itself: its block of slices is frozen on its way out. -/
theorem AOKn.of_callS {P : Program} {f : Nat} {args : List AV} {post : AV → Prop} (h : CallS P f args [] fun x σ => outNR σ x fun z => ∃ y0, NilR z y0 ∧ post y0) : AOKn P f args post := by
  refine AOK.of_call (h.mono fun x σ hx => ?_)
  unfold outNR at hx
  split at hx
  · obtain ⟨m, m', ts, nest, ids, k1, k2, k3, k4, k5, k6⟩ := outNL_elim hx
    exact ⟨.tup m, ts, nest, by simp [expR, k1], nodup_of_count k3 k4, k2.fresh k5, NilR.transL k2 k6⟩
  · rename_i hnt
    obtain ⟨y, z, ts, nest, ids, h1, h2, h3, h4, h5, h6⟩ := hx.ok
    have hz : FreshE z := by
      unfold FreshR at h5
      split at h5
      · rename_i l
        cases h2 with
        | refl =>
          exfalso
          unfold expC at h1
          split at h1
          · split at h1
            · split at h1 <;> cases h1
            · cases h1
          · obtain ⟨p, _, he⟩ := Option.map_eq_some_iff.1 h1; cases he
          · cases h1
          · split at h1
            · rename_i hz; cases h1; cases hz
            · cases h1
      · exact h5
    have hy := h2.fresh hz
    refine ⟨y, ts, nest, ?_, nodup_of_count h3 h4, ?_, NilR.trans1 h2 h6⟩
    · unfold expR
      split
      · exact absurd rfl (hnt _)
      · exact h1
    · unfold FreshR
      split
      · rename_i l
        have : FreshA (.tup l) := hy
        cases this
      · exact hy
end Go.Proofs.Ythalikgchafjiaa

namespace Go.Proofs.Ythalikgchafjiaa
open Go Go.Proofs.Ythalikgchafjiaa.V
set_option maxRecDepth 20000
attribute [local irreducible] CallS AOK AOKn ALoop Side Ref.ok
/-! The levels of a tree. -/
def lvR (leaf : Bool) (ps : List (Int × Int)) : List (List AV) := if ps.length = 0 then [[.bool leaf, .nils]] else nds leaf ps
def upK (ps : List (Int × Int)) (k : Nat) : List (Int × Int) := (List.range k).map fun (i : Nat) => ((ps[7 * i]?.getD (0, 0)).1, (i : Int))
def upP (ps : List (Int × Int)) : List (Int × Int) := upK ps (hol1 ps.length)
theorem upK_length (ps : List (Int × Int)) (k : Nat) : (upK ps k).length = k := by simp [upK]
theorem upK_succ (ps : List (Int × Int)) (k : Nat) : upK ps (k + 1) = upK ps k ++ [((ps[7 * k]?.getD (0, 0)).1, (k : Int))] := by simp [upK, List.range_succ]
theorem upP_length (ps : List (Int × Int)) : (upP ps).length = hol1 ps.length := upK_length _ _
theorem hol1_lt {n : Nat} (h : 1 < hol1 n) : hol1 n < n := by unfold hol1 hol at *; omega
theorem hol1_pos (n : Nat) : 1 ≤ hol1 n := by unfold hol1; omega
/-- The levels from these pairs up: each told by its pairs. -/
def lvP (leaf : Bool) (ps : List (Int × Int)) : List (Bool × List (Int × Int)) := (leaf, ps) :: (if h : 1 < hol1 ps.length then lvP false (upP ps) else [])
  termination_by ps.length
  decreasing_by rw [upP_length]; exact hol1_lt h
theorem lvP_one {leaf : Bool} {ps : List (Int × Int)} (h : ¬ 1 < hol1 ps.length) : lvP leaf ps = [(leaf, ps)] := by rw [lvP, dif_neg h]
theorem lvP_more {leaf : Bool} {ps : List (Int × Int)} (h : 1 < hol1 ps.length) : lvP leaf ps = (leaf, ps) :: lvP false (upP ps) := by rw [lvP, dif_pos h]
def lvD (l : List (Bool × List (Int × Int))) : List (List (List AV)) := l.map fun q => lvR q.1 q.2
def prL (l : List (Int × Int × Int)) : List (Int × Int) := l.map fun e => (e.1, e.2.1 * 4 + e.2.2)
theorem nds_length (leaf : Bool) (ps : List (Int × Int)) : (nds leaf ps).length = hol ps.length := by simp [nds, hol]
theorem lvR_length (leaf : Bool) (ps : List (Int × Int)) : (lvR leaf ps).length = hol1 ps.length := by
  unfold lvR
  split
  · rename_i h; rw [h]; rfl
  · rw [nds_length]; unfold hol1 hol; omega
theorem lvR_ne (leaf : Bool) (ps : List (Int × Int)) : lvR leaf ps ≠ [] := by
  intro e
  have := lvR_length leaf ps
  rw [e] at this
  have h2 := hol1_pos ps.length
  simp only [List.length_nil] at this
  omega
theorem lvR_get {leaf : Bool} {ps : List (Int × Int)} {k : Nat} (h : 7 * k < ps.length) : (lvR leaf ps)[k]? = some (ndV leaf ps k) := by
  unfold lvR
  rw [if_neg (by omega)]
  simp only [nds, List.getElem?_map]
  rw [List.getElem?_range (by omega)]
  rfl
theorem fresh_lvR (leaf : Bool) (ps : List (Int × Int)) : ∀ x, x ∈ (lvR leaf ps).flatten → FreshA x := by
  intro x hx
  obtain ⟨r, hr, hx⟩ := List.mem_flatten.1 hx
  unfold lvR at hr
  split at hr
  · simp only [List.mem_singleton] at hr
    subst hr
    simp only [List.mem_cons, List.not_mem_nil, or_false] at hx
    rcases hx with rfl | rfl
    · exact .bool _
    · exact .nils
  · simp only [nds, List.mem_map] at hr
    obtain ⟨k, _, rfl⟩ := hr
    simp only [ndV, List.mem_cons, List.not_mem_nil, or_false] at hx
    rcases hx with rfl | rfl
    · exact .bool _
    · exact fresh_sp _
def lvV (l : List (Bool × List (Int × Int))) : List (List AV) := (lvD l).map fun d => [.sl 2 d true]
theorem fresh_lvV (l : List (Bool × List (Int × Int))) : FreshA (.sl 1 (lvV l) true) := by
  refine FreshA.sl _ _ fun x hx => ?_
  simp only [lvV, lvD, List.map_map, List.mem_flatten, List.mem_map] at hx
  obtain ⟨r, ⟨p, _, rfl⟩, hx⟩ := hx
  simp only [Function.comp_apply, List.mem_singleton] at hx
  subst hx
  exact .sl _ _ (fresh_lvR _ _)
theorem looks_nd (σ : AH) (leaf : Bool) (ps : List (Int × Int)) : Looks σ (.agg [.bool leaf, .sl 2 (sp ps) true]) (.agg [.bool leaf, .sl 2 (sp ps) false]) := by
  refine .same ?_
  simp [derefV, derefCs, derefC, AV.flat, untag, untag_sp]
theorem nthR_at {rows spr : List (List AV)} {i : Int} {r : List AV} {K : List AV → Prop} (h : rows[i.toNat]? = some r) (hk : K r) : nthR (rows ++ spr) (0 + i.toNat) K :=
  nthR_intro (x := r) (by rw [Nat.zero_add, List.getElem?_append_left (List.getElem?_eq_some_iff.1 h).1]; exact h) hk
/-- Nodes that hold pairs, none or some. -/
theorem held_lv (leaf : Bool) (ps : List (Int × Int)) (hl : ps.length ≤ 1048576) {σ : AH} {x : AV} (hx : Own σ 2 x (sp ps)) (h0 : ps = [] → x = .nils) (Q : AV → AH → Prop)
    (h : ∀ σ' a, Gr σ σ' x.bid → Own σ' 2 a (lvR leaf ps) → (∀ id, a.bid = some id → σ.length ≤ id) → Q a σ') : CallS Try.prog F.tree_held [x, .bool leaf] σ Q := by
  by_cases hp : ps.length = 0
  · have hp' : ps = [] := List.length_eq_zero_iff.1 hp
    obtain rfl := h0 hp'
    subst hp'
    exact held_nilV leaf σ Q fun σ' a g ho hn => h σ' a g ho hn
  · have e : lvR leaf ps = nds leaf ps := by rw [lvR, if_neg hp]
    rw [e] at h
    exact held_val leaf ps (by omega) hl hx Q h
theorem nest_at0 {xs : List AV} {j : Int} {x : AV} {K : List AV → Prop} (h : xs[j.toNat]? = some x) (hk : K [x]) : nthR (xs.map fun x => [x]) j.toNat K :=
  nthR_intro (x := [x]) (by simp [h]) hk
theorem NestR.off {σ : AH} {sz : Nat} {a : AV} {rows : List (List AV)} (h : NestR σ sz a rows) : ∀ r, r ∈ rows → ∀ x, x ∈ r → x.bid = none ∨ a.bid ≠ x.bid := by
  intro r hr x hx
  rcases h with ⟨rfl, rfl⟩ | ⟨id, gen, p, rfl, hb, hn⟩
  · cases hr
  · exact .inr fun e => hn r hr x hx e.symm
theorem gr_over {σ σ1 σ2 : AH} {o : Option Nat} (h : Gr σ σ1 none) (k : Gr σ1 σ2 o) (hn : ∀ id, o = some id → σ.length ≤ id) : Gr σ σ2 none :=
  ⟨Nat.le_trans h.1 k.1, fun id b hb _ => k.2 id b (h.2 id b hb (by simp)) fun e => by
    have := hn id e
    have := (List.getElem?_eq_some_iff.1 hb).1
    omega⟩
theorem ndV_eq (leaf : Bool) (ps : List (Int × Int)) (k : Nat) : ndV leaf ps k = [.bool leaf, .sl 2 (sp ((ps.drop (7 * k)).take 7)) true] := rfl
attribute [local irreducible] lvR nds ndV
theorem levels_ok (l : List (Int × Int × Int)) (hl : l.length ≤ 64) (hb : ∀ e, e ∈ l → 0 ≤ e.2.1 ∧ e.2.1 ≤ 64 ∧ 0 ≤ e.2.2 ∧ e.2.2 ≤ 3) : AOKn Try.prog F.tree_levels [.sl 3 (bk l) false] fun y => y = .sl 1 (lvV (lvP true (prL l))) true := by
  have hn := bk_length l
  have hpl : ∀ k, (prL (l.take k)).length = min k l.length := by simp [prL]
  refine AOKn.of_callS (CallS.frzPost (call_of_body mixed fc_tree_levels_ok (by simp [fc_tree_levels]) ?_))
  repeat' (first
    | ((conv => whnf) <;> (first
    | (with_reducible refine lenR_sl ?_)
    ))
    )
  all_goals (conv => whnf)
  all_goals (try dsimp only)
  refine loop_at (α := Nat × AH × AV) (fun a => [(3, a.2.2), (12, .int .i64 a.1)]) (fun a => a.2.1) (fun a => a.1 ≤ l.length ∧ Own a.2.1 2 a.2.2 (sp (prL (l.take a.1))) ∧ (a.1 = 0 → a.2.2 = .nils)) (fun a => l.length - a.1) (0, [], .nils) ⟨by omega, Own.nil _ _, fun _ => rfl⟩ rfl rfl ?_
  rintro ⟨i, σ, x⟩ ⟨hi, hx, hx0⟩
  dsimp only at hi hx hx0 ⊢
  by_cases hlt : i < l.length
  · obtain ⟨e, he1, he2⟩ := getN (l := l) (k := i) hlt
    have hbe := hb e (List.mem_of_getElem? he2)
    have htk : prL (l.take (i + 1)) = prL (l.take i) ++ [(e.1, e.2.1 * 4 + e.2.2)] := by rw [List.take_add_one, he2]; simp [prL]
    repeat' (first
      | ((with_reducible refine Side.intro ?_) <;> (first
      | omega
      | exact Nat.le_of_ble_eq_true rfl
      | exact rfl
      ))
      | ((conv => whnf) <;> (first
      | (with_reducible refine and_same ?_)
      | (with_reducible refine and_side ?_ ?_)
      | ((with_reducible apply Br.yes) ; (focus omega))
      | ((with_reducible apply blkAt_step) ; (focus (first
      | ((repeat (first
      | exact get_new
      | exact get_set get_new
      )); done)
      )) ; (focus (first | rfl | assumption | omega)) ; (focus (first | rfl | assumption)) ; (try dsimp only))
      | ((with_reducible apply nthR_bk) ; (focus assumption))
      | (with_reducible refine ia_sl ?_ ?_)
      | (with_reducible refine AppC.frz ?_)
      | (with_reducible refine rowsR_rsl ?_)
      ))
      )
    all_goals (conv => whnf)
    all_goals (try dsimp only)
    refine appendR_own (rows := sp (prL (l.take i))) (hx.keepN (by (repeat (first
          | exact Gr.refl _ _
          | refine Gr.setNew ?_ (by first | exact Nat.le_refl _ | (simp only [newB_length, List.length_set, List.length_append, List.length_singleton]; omega) | omega) _
          | refine Gr.addN ?_ _
          )))) (by rw [sp_length, hpl]; show (min i l.length + 1) * 16 ≤ _; omega) ?_
    intro x' σ' ho' hg' hb'
    repeat' (first
      | ((conv => whnf) <;> (first
      | (with_reducible refine and_same ?_)
      | ((with_reducible apply Br.yes) ; (focus omega))
      ))
      )
    all_goals (conv => whnf)
    all_goals (try dsimp only)
    exact ⟨(i + 1, σ', x'), rfl, rfl, ⟨by omega, by rw [htk, sp_append]; exact ho', fun q => by omega⟩, by omega⟩
  · have e : i = l.length := by omega
    subst e
    rw [List.take_length] at hx
    have hpn : (prL l).length = l.length := by simp [prL]
    repeat' (first
      | ((conv => whnf) <;> (first
      | (with_reducible refine and_same ?_)
      | ((with_reducible apply Br.no) ; (focus omega))
      ))
      )
    all_goals (conv => whnf)
    all_goals (try dsimp only)
    refine held_lv true (prL l) (by omega) hx (fun q => hx0 (by rw [← hpn, q]; rfl)) _ fun σ1 a hg ho hna => ?_
    obtain ⟨ida, ga, spa, rfl, hba⟩ := ho.ne (lvR_ne _ _)
    rw [lvR_length] at ho ⊢
    repeat' (first
      | ((with_reducible refine Side.intro ?_) <;> (first
      | omega
      | exact Nat.le_of_ble_eq_true rfl
      | exact rfl
      ))
      | ((conv => whnf) <;> (first
      | (with_reducible refine and_side ?_ ?_)
      ))
      )
    all_goals (conv => whnf)
    all_goals (try dsimp only)
    refine loop_at (α := List (Bool × List (Int × Int)) × (Bool × List (Int × Int)) × AH × AV) (fun a => [(6, a.2.2.2)]) (fun a => a.2.2.1) (fun a => a.1 ++ lvP a.2.1.1 a.2.1.2 = lvP true (prL l) ∧ a.2.1.2.length ≤ 64 ∧ a.1.length ≤ 64 - a.2.1.2.length ∧ RefB a.2.2.1 a.2.2.2 ∧ ∃ xs, NestS a.2.2.1 a.2.2.2 xs ∧ SepR a.2.2.1 2 xs (lvD (a.1 ++ [a.2.1]))) (fun a => a.2.1.2.length) ([], (true, prL l), _, _) ⟨rfl, by dsimp only; omega, by dsimp only [List.length_nil]; omega, ?_, [.rsl ida ga 0 (hol1 (prL l).length) none], ?_, ?_⟩ rfl rfl ?_
    · intro id b h1 h2
      cases h1
      dsimp only at h2
      rw [get_new] at h2
      cases h2
      exact ⟨rfl, rfl, rfl⟩
    · refine .inr ⟨σ1.length, 0, _, rfl, get_new, fun r hr z hz => ?_⟩
      simp only [List.map_cons, List.map_nil, List.mem_singleton] at hr
      subst hr
      simp only [List.mem_singleton] at hz
      subst hz
      have := (List.getElem?_eq_some_iff.1 hba).1
      intro q
      cases q
      omega
    · refine SepR.snoc (xs := []) (D := []) (SepR.nil _ _) ?_ (by simp)
      exact Own.keepN (Gr.append _ _) ho
    rintro ⟨prev, ⟨leaf, ps⟩, σ2, x2⟩ ⟨hP, hps, hpv, hR, xs, hN, hS⟩
    dsimp only at hP hps hpv hR hN hS ⊢
    have hxl : xs.length = prev.length + 1 := by rw [hS.len]; simp [lvD]
    obtain ⟨y, hy⟩ : ∃ y, xs[(((xs.map fun x => [x]).length : Int) - 1).toNat]? = some y := ⟨_, List.getElem?_eq_getElem (by rw [List.length_map]; omega)⟩
    have hyo : Own σ2 2 y (lvR leaf ps) := by
      refine hS.own _ y _ hy ?_
      rw [List.length_map, show ((xs.length : Int) - 1).toNat = prev.length from by omega]
      simp [lvD]
    have hml : (xs.map fun x => [x]).length = xs.length := List.length_map _
    have hyl := lvR_length leaf ps
    have hhp := hol1_pos ps.length
    by_cases hone : hol1 ps.length = 1
    · repeat' (first
        | ((with_reducible refine Side.intro ?_) <;> (first
        | omega
        ))
        | ((conv => whnf) <;> (first
        | (with_reducible refine and_same ?_)
        | ((with_reducible apply Br.yes) ; (focus omega))
        | ((with_reducible apply blkAt_step) ; (focus (first
        | ((repeat (first
        | assumption
        )); done)
        )) ; (focus (first | rfl | assumption | omega)) ; (focus (first | rfl | assumption)) ; (try dsimp only))
        | ((with_reducible apply nest_at0) ; (focus assumption))
        | ((with_reducible apply lenR_own) ; (focus assumption))
        | ((with_reducible apply NestR.ia) ; (focus assumption))
        | ((with_reducible apply NestR.lenW) ; (focus assumption))
        | (with_reducible refine nthR_z ?_)
        | (with_reducible intro _)
        ))
        )
      all_goals (conv => whnf)
      all_goals (try dsimp only)
      rw [lvP_one (by omega)] at hP
      rcases hN with ⟨rfl, hz⟩ | ⟨id, gen, p, rfl, hbk, hno⟩
      · have := congrArg List.length hz
        rw [hml, List.length_nil] at this
        omega
      have hpf := (hR id _ rfl hbk).1
      dsimp only at hpf
      subst hpf
      obtain ⟨τ1, f1, f2, f3⟩ := hS.frz fun d hd => by
        simp only [lvD, List.mem_map] at hd
        obtain ⟨q, _, rfl⟩ := hd
        exact lvR_ne _ _
      have hb1 : τ1[id]? = _ := (f3 id fun z hz => hno [z] (List.mem_map.2 ⟨z, hz, rfl⟩) z (by simp)).trans hbk
      refine ⟨id, _, _, τ1, hbk, rfl, rfl, f1, hb1, ?_⟩
      rw [hP]
      have hll : (xs.map fun x => [x]).length = (lvV (lvP true (prL l))).length := by rw [hml, hS.len, hP]; simp [lvV]
      rw [hll]
      exact outNR_rows (get_set hb1) rfl (fresh_lvV _) rfl
    · repeat' (first
        | ((with_reducible refine Side.intro ?_) <;> (first
        | omega
        ))
        | ((conv => whnf) <;> (first
        | (with_reducible refine and_same ?_)
        | ((with_reducible apply Br.yes) ; (focus omega))
        | ((with_reducible apply Br.no) ; (focus omega))
        | ((with_reducible apply blkAt_step) ; (focus (first
        | ((repeat (first
        | assumption
        )); done)
        )) ; (focus (first | rfl | assumption | omega)) ; (focus (first | rfl | assumption)) ; (try dsimp only))
        | ((with_reducible apply nest_at0) ; (focus assumption))
        | ((with_reducible apply lenR_own) ; (focus assumption))
        | ((with_reducible apply NestR.ia) ; (focus assumption))
        | ((with_reducible apply NestR.lenW) ; (focus assumption))
        | (with_reducible refine nthR_z ?_)
        | (with_reducible intro _)
        ))
        )
      all_goals (conv => whnf)
      all_goals (try dsimp only)
      refine loop_at (α := Nat × AH × AV) (fun a => [(3, a.2.2), (43, .int .i64 a.1)]) (fun a => a.2.1) (fun a => a.1 ≤ hol1 ps.length ∧ Own a.2.1 2 a.2.2 (sp (upK ps a.1)) ∧ Gr σ2 a.2.1 none ∧ (∀ id, a.2.2.bid = some id → σ2.length ≤ id) ∧ (a.1 = 0 → a.2.2 = .nils)) (fun a => hol1 ps.length - a.1) (0, σ2, .nils) ⟨by omega, Own.nil _ _, Gr.refl _ _, (fun id q => by cases q), fun _ => rfl⟩ rfl rfl ?_
      rintro ⟨i, σ3, pv⟩ ⟨hi, hpo, hg3, hnw, hp0⟩
      dsimp only at hi hpo hg3 hnw hp0 ⊢
      have hyo3 := hyo.keepN hg3
      have hh1 : hol1 ps.length = (ps.length + 6) / 7 := by unfold hol1 hol at *; omega
      by_cases hlt : i < hol1 ps.length
      · have hrow : (lvR leaf ps)[(i : Int).toNat]? = some (ndV leaf ps i) := by rw [Int.toNat_natCast]; exact lvR_get (by omega)
        have hrow' : (lvR leaf ps)[(i : Int).toNat]? = some [.bool leaf, .sl 2 (sp ((ps.drop (7 * i)).take 7)) true] := by rw [hrow, ndV_eq]
        have hfst : ((ps.drop (7 * i)).take 7)[0]? = ps[7 * i]? := by simp [List.getElem?_take]
        repeat' (first
          | ((with_reducible refine Side.intro ?_) <;> (first
          | omega
          | exact Nat.le_of_ble_eq_true rfl
          | exact rfl
          ))
          | ((conv => whnf) <;> (first
          | (with_reducible refine and_same ?_)
          | (with_reducible refine and_side ?_ ?_)
          | ((with_reducible apply Br.yes) ; (focus omega))
          | ((with_reducible apply blkAt_step) ; (focus (first
          | ((repeat (first
          | assumption
          | exact get_new
          | exact get_set get_new
          )); done)
          )) ; (focus (first | rfl | assumption | omega)) ; (focus (first | rfl | assumption)) ; (try dsimp only))
          | ((with_reducible apply nthR_at) ; (focus assumption))
          | ((with_reducible apply ia_own) ; (focus assumption))
          | (with_reducible intro _)
          ))
          )
        all_goals (conv => whnf)
        all_goals (try dsimp only)
        refine call_one (first_ok leaf _) (.cons (looks_nd _ _ _) .nil) rfl fun σ4 hg4 => ?_
        rw [hfst]
        have hg4' : Gr σ3 σ4 none := Gr.trans (Gr.setNew (Gr.newN (Gr.refl _ _) _ _ _) (Nat.le_refl _) _) hg4
        repeat' (first
          | ((with_reducible refine Side.intro ?_) <;> (first
          | omega
          | exact Nat.le_of_ble_eq_true rfl
          | exact rfl
          ))
          | ((conv => whnf) <;> (first
          | (with_reducible refine and_same ?_)
          | (with_reducible refine and_side ?_ ?_)
          | ((with_reducible apply blkAt_step) ; (focus (first
          | ((repeat (first
          | exact get_new
          )); done)
          )) ; (focus (first | rfl | assumption | omega)) ; (focus (first | rfl | assumption)) ; (try dsimp only))
          | (with_reducible refine AppC.frz ?_)
          | (with_reducible refine rowsR_rsl ?_)
          ))
          )
        all_goals (conv => whnf)
        all_goals (try dsimp only)
        refine appendR_own (rows := sp (upK ps i)) (Own.keepN (Gr.newN hg4' _ _ _) hpo) (by rw [sp_length, upK_length]; show (i + 1) * 16 ≤ _; omega) ?_
        intro x' σ' ho' hg' hb'
        have hl4 := hg4'.1
        have hl3 := hg3.1
        repeat' (first
          | ((conv => whnf) <;> (first
          | (with_reducible refine and_same ?_)
          | ((with_reducible apply Br.yes) ; (focus omega))
          ))
          )
        all_goals (conv => whnf)
        all_goals (try dsimp only)
        refine ⟨(i + 1, σ', x'), rfl, rfl, ⟨by omega, by rw [upK_succ, sp_append]; exact ho', gr_over (Gr.newN (Gr.trans hg3 hg4') _ _ _) hg' hnw, fun id hid => ?_, fun q => by omega⟩, by omega⟩
        rcases hb' with q | q
        · exact hnw id (q ▸ hid)
        · rw [q] at hid
          cases hid
          simp only [newB_length]
          omega
      · have raw : UseRaw := ⟨⟩
        have hiE : i = hol1 ps.length := by omega
        rw [hiE] at hpo hp0
        repeat' (first
          | ((conv => whnf) <;> (first
          | (with_reducible refine and_same ?_)
          | ((with_reducible apply Br.no) ; (focus omega))
          ))
          )
        all_goals (conv => whnf)
        all_goals (try dsimp only)
        refine held_lv false (upP ps) (by rw [upP_length]; omega) hpo (fun q => hp0 (by rw [← upP_length, q]; rfl)) _ fun σ4 a hg4 ho4 hn4 => ?_
        obtain ⟨ida4, ga4, spa4, rfl, hba4⟩ := ho4.ne (lvR_ne _ _)
        have hg4' : Gr σ2 σ4 none := gr_over hg3 hg4 hnw
        have hida : σ2.length ≤ ida4 := Nat.le_trans hg3.1 (hn4 ida4 rfl)
        have hlt4 := (List.getElem?_eq_some_iff.1 hba4).1
        have hN4 : NestS (newB σ4 1 [[.rsl ida4 ga4 0 (lvR false (upP ps)).length none]] false) x2 xs := hN.keepN (Gr.newN hg4' _ _ _)
        have hR4 : RefB (newB σ4 1 [[.rsl ida4 ga4 0 (lvR false (upP ps)).length none]] false) x2 := hR.keep (Gr.newN hg4' _ _ _) (by cases x2.bid <;> simp) fun id hid => hN.lt hid
        repeat' (first
          | ((with_reducible refine Side.intro ?_) <;> (first
          | omega
          | exact Nat.le_of_ble_eq_true rfl
          | exact rfl
          ))
          | ((conv => whnf) <;> (first
          | (with_reducible refine and_same ?_)
          | (with_reducible refine and_side ?_ ?_)
          | ((with_reducible apply blkAt_step) ; (focus (first
          | ((repeat (first
          | exact get_new
          )); done)
          )) ; (focus (first | rfl | assumption | omega)) ; (focus (first | rfl | assumption)) ; (try dsimp only))
          | ((with_reducible apply AppC.raw) ; (focus assumption))
          | (with_reducible refine rowsR_rsl ?_)
          ))
          )
        all_goals (conv => whnf)
        all_goals (try dsimp only)
        refine NestR.append_f (row := [.rsl ida4 ga4 0 (lvR false (upP ps)).length none]) hN4 (by rw [hml]; omega) (fun z hz => ?_) fun x' σ' h1 h2 h3 h4 => ?_
        · simp only [List.mem_singleton] at hz
          subst hz
          refine ⟨fun id hid => by cases hid; simp only [newB_length]; omega, .inr fun e => ?_⟩
          have := hN.lt e.symm
          omega
        skip
        all_goals (conv => whnf)
        all_goals (try dsimp only)
        have hlt1 := hol1_lt (n := ps.length) (by omega)
        refine ⟨(prev ++ [(leaf, ps)], (false, upP ps), σ', x'), rfl, rfl, ⟨?_, ?_, ?_, h4, xs ++ [.rsl ida4 ga4 0 (lvR false (upP ps)).length none], ?_, ?_⟩, ?_⟩
        · rw [lvP_more (by omega)] at hP
          simpa using hP
        · dsimp only; rw [upP_length]; omega
        · dsimp only; rw [upP_length, List.length_append, List.length_singleton]; omega
        · dsimp only; simpa [NestS] using h1
        · dsimp only
          rw [show lvD (prev ++ [(leaf, ps)] ++ [(false, upP ps)]) = lvD (prev ++ [(leaf, ps)]) ++ [lvR false (upP ps)] from by simp [lvD]]
          have hS4 : SepR (newB σ4 1 [[.rsl ida4 ga4 0 (lvR false (upP ps)).length none]] false) 2 xs (lvD (prev ++ [(leaf, ps)])) := hS.keepN (Gr.newN hg4' _ _ _)
          refine SepR.snoc (hS4.keep h2 fun z hz => NestR.off hN4 [z] (List.mem_map.2 ⟨z, hz, rfl⟩) z (by simp)) (Own.keep h2 (Own.keepN (Gr.append _ _) ho4) (.inr fun e => ?_)) fun z hz => .inr fun e => ?_
          · have := hN.lt e
            omega
          · have := hS.lt hz e
            omega
        · dsimp only; rw [upP_length]; omega
end Go.Proofs.Ythalikgchafjiaa

