import Derived.Test.YtjbfdhnfdehdeaaPcalls
import Derived.Test.YtjbfdhnfdehdeaaVL
namespace Go.Proofs.Ytjbfdhnfdehdeaa
open Go Go.Proofs.Ytjbfdhnfdehdeaa.V
/-! Rows of rows of bytes. -/
def dat (D : List (List UInt8)) : List (List AV) := D.map fun d => [.sl 1 (bs d) false]
theorem dat_length (D : List (List UInt8)) : (dat D).length = D.length := by simp [dat]
theorem nthR_dat {D : List (List UInt8)} {k : Nat} {K : List AV → Prop} {d : List UInt8} (h : D[k]? = some d) (hk : K [.sl 1 (bs d) false]) : nthR (dat D) k K :=
  nthR_intro (x := [.sl 1 (bs d) false]) (by simp [dat, h]) hk
def datT (D : List (List UInt8)) : List (List AV) := D.map fun d => [.sl 1 (bs d) true]
theorem datT_length (D : List (List UInt8)) : (datT D).length = D.length := by simp [datT]
theorem datT_append (D E : List (List UInt8)) : datT (D ++ E) = datT D ++ datT E := by simp [datT]
theorem fresh_datT (D : List (List UInt8)) : FreshA (.sl 1 (datT D) true) := by
  refine FreshA.sl _ _ fun x hx => ?_
  simp only [datT, List.mem_flatten, List.mem_map] at hx
  obtain ⟨r, ⟨p, _, rfl⟩, hx⟩ := hx
  simp only [List.mem_singleton] at hx
  subst hx
  exact .sl _ _ FreshA_bs
theorem untag_datT (D : List (List UInt8)) : untagLL (datT D) = dat D := by
  induction D with
  | nil => rfl
  | cons d D ih =>
    have e1 : datT (d :: D) = [.sl 1 (bs d) true] :: datT D := rfl
    have e2 : dat (d :: D) = [.sl 1 (bs d) false] :: dat D := rfl
    rw [e1, e2, untagLL, ih]
    simp [untagL, untag, untagLL_bs]
theorem untag_dat (D : List (List UInt8)) : untagLL (dat D) = dat D := by
  induction D with
  | nil => rfl
  | cons d D ih =>
    have e2 : dat (d :: D) = [.sl 1 (bs d) false] :: dat D := rfl
    rw [e2, untagLL, ih]
    simp [untagL, untag, untagLL_bs]
theorem Looks.dat (σ : AH) (D : List (List UInt8)) (fr : Bool) : Looks σ (.sl 1 (Go.Proofs.Ytjbfdhnfdehdeaa.dat D) fr) (.sl 1 (Go.Proofs.Ytjbfdhnfdehdeaa.dat D) false) := by
  refine .same ?_
  simp [derefV, derefC, AV.flat, untag, untag_dat]
theorem Looks.owndat {σ : AH} {x : AV} {D : List (List UInt8)} (h : Own σ 1 x (datT D)) : Looks σ x (.sl 1 (Go.Proofs.Ytjbfdhnfdehdeaa.dat D) false) := by
  have := Looks.own h
  rwa [untag_datT] at this
theorem nthR_datT {D : List (List UInt8)} {k : Nat} {K : List AV → Prop} {d : List UInt8} (h : D[k]? = some d) (hk : K [.sl 1 (bs d) true]) : nthR (datT D) k K :=
  nthR_intro (x := [.sl 1 (bs d) true]) (by simp [datT, h]) hk
theorem looks_xs {σ : AH} {d : AV} {xs : List AV} {D : List (List UInt8)} (h : NestS σ d xs) (hs : Sep σ xs D) : Looks σ d (.sl 1 (Go.Proofs.Ytjbfdhnfdehdeaa.dat D) false) := NestS.looks h hs
/-! Rows of two, of three whole numbers. -/
def sp (L : List (Int × Int)) : List (List AV) := L.map fun p => [.int .i64 p.1, .int .i64 p.2]
theorem sp_length (L : List (Int × Int)) : (sp L).length = L.length := by simp [sp]
theorem sp_append (L M : List (Int × Int)) : sp (L ++ M) = sp L ++ sp M := by simp [sp]
theorem nthR_sp {L : List (Int × Int)} {k : Nat} {K : List AV → Prop} {p : Int × Int} (h : L[k]? = some p) (hk : K [.int .i64 p.1, .int .i64 p.2]) : nthR (sp L) k K :=
  nthR_intro (x := [.int .i64 p.1, .int .i64 p.2]) (by simp [sp, h]) hk
theorem fresh_sp (L : List (Int × Int)) : FreshA (.sl 2 (sp L) true) := by
  refine FreshA.sl _ _ fun x hx => ?_
  simp only [sp, List.mem_flatten, List.mem_map] at hx
  obtain ⟨r, ⟨p, _, rfl⟩, hx⟩ := hx
  simp only [List.mem_cons, List.not_mem_nil, or_false] at hx
  rcases hx with rfl | rfl <;> exact .int _ _
theorem untag_sp (L : List (Int × Int)) : untagLL (sp L) = sp L := by
  induction L with
  | nil => rfl
  | cons d D ih =>
    have e2 : sp (d :: D) = [.int .i64 d.1, .int .i64 d.2] :: sp D := rfl
    rw [e2, untagLL, ih]; rfl
theorem Looks.sp (σ : AH) (L : List (Int × Int)) (fr : Bool) : Looks σ (.sl 2 (Go.Proofs.Ytjbfdhnfdehdeaa.sp L) fr) (.sl 2 (Go.Proofs.Ytjbfdhnfdehdeaa.sp L) false) := by
  refine .same ?_
  simp [derefV, derefC, AV.flat, untag, untag_sp]
theorem Looks.ownsp {σ : AH} {x : AV} {L : List (Int × Int)} (h : Own σ 2 x (Go.Proofs.Ytjbfdhnfdehdeaa.sp L)) : Looks σ x (.sl 2 (Go.Proofs.Ytjbfdhnfdehdeaa.sp L) false) := by
  have := Looks.own h
  rwa [untag_sp] at this
def bk (U : List (Int × Int × Int)) : List (List AV) := U.map fun p => [.int .i64 p.1, .int .i64 p.2.1, .int .i64 p.2.2]
theorem bk_length (L : List (Int × Int × Int)) : (bk L).length = L.length := by simp [bk]
theorem bk_append (L M : List (Int × Int × Int)) : bk (L ++ M) = bk L ++ bk M := by simp [bk]
theorem nthR_bk {L : List (Int × Int × Int)} {k : Nat} {K : List AV → Prop} {p : Int × Int × Int} (h : L[k]? = some p) (hk : K [.int .i64 p.1, .int .i64 p.2.1, .int .i64 p.2.2]) : nthR (bk L) k K :=
  nthR_intro (x := [.int .i64 p.1, .int .i64 p.2.1, .int .i64 p.2.2]) (by simp [bk, h]) hk
theorem fresh_bk (L : List (Int × Int × Int)) : FreshA (.sl 3 (bk L) true) := by
  refine FreshA.sl _ _ fun x hx => ?_
  simp only [bk, List.mem_flatten, List.mem_map] at hx
  obtain ⟨r, ⟨p, _, rfl⟩, hx⟩ := hx
  simp only [List.mem_cons, List.not_mem_nil, or_false] at hx
  rcases hx with rfl | rfl | rfl <;> exact .int _ _
theorem untag_bk (L : List (Int × Int × Int)) : untagLL (bk L) = bk L := by
  induction L with
  | nil => rfl
  | cons d D ih =>
    have e2 : bk (d :: D) = [.int .i64 d.1, .int .i64 d.2.1, .int .i64 d.2.2] :: bk D := rfl
    rw [e2, untagLL, ih]; rfl
theorem Looks.bk (σ : AH) (L : List (Int × Int × Int)) (fr : Bool) : Looks σ (.sl 3 (Go.Proofs.Ytjbfdhnfdehdeaa.bk L) fr) (.sl 3 (Go.Proofs.Ytjbfdhnfdehdeaa.bk L) false) := by
  refine .same ?_
  simp [derefV, derefC, AV.flat, untag, untag_bk]
theorem Looks.ownbk {σ : AH} {x : AV} {L : List (Int × Int × Int)} (h : Own σ 3 x (Go.Proofs.Ytjbfdhnfdehdeaa.bk L)) : Looks σ x (.sl 3 (Go.Proofs.Ytjbfdhnfdehdeaa.bk L) false) := by
  have := Looks.own h
  rwa [untag_bk] at this
theorem outNR_own {σ : AH} {sz : Nat} {x : AV} {rows : List (List AV)} {post : AV → Prop} (h : Own σ sz x rows) (hf : FreshR (.sl sz rows true)) (hp : post (.sl sz rows true)) : outNR σ x fun z => ∃ y0, NilR z y0 ∧ post y0 := by
  have key : NOut σ x fun y ids => ids.Nodup ∧ FreshR y ∧ ∃ y0, NilR y y0 ∧ post y0 := NOut.own h ⟨nodup_bid1 x, hf, _, .one (.refl _), hp⟩
  rcases h with ⟨rfl, rfl⟩ | ⟨i, g, sp, rfl, h⟩ <;> exact key
theorem gr_get {σ σ' : AH} (h : Gr σ σ' none) {id : Nat} {b : Blk} (hb : σ[id]? = some b) : σ'[id]? = some b := h.2 id b hb (by simp)
theorem getI {α : Type} {l : List α} {k : Int} (h0 : 0 ≤ k) (h : k < l.length) : ∃ p, l[k.toNat]? = some p := ⟨l[k.toNat]'(by omega), by simp⟩
end Go.Proofs.Ytjbfdhnfdehdeaa
