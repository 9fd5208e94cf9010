import Derived.Shelf.Sort.Plain
import Derived.Test.YtppccaacbpkgiaaProg
import Derived.Test.YtppccaacbpkgiaaI
import Derived.Test.YtppccaacbpkgiaaVI
import Derived.Test.YtppccaacbpkgiaaVL
/-
  DERIVED: THE SHELF's CONTRACTS AT THIS DUMP, IN PLAIN WORDS (tools/lay-plain.mjs out of 'YtppccaacbpkgiaaSh.lean', which tools/lay-shelf.mjs wrote): THE SAME DECLARATIONS UNDER THE SAME NAMES: 'import', 'namespace', 'open', 'def', 'theorem' AND NOTHING ELSE: no command of the shelf's: FOR A HAND-IN. Each laying: the table of numbers ('.._ren') and one theorem, a field a fact of the dump's own or the kernel's comparison; each contract: ONE APPLICATION.
-/
namespace Go.Proofs
open Go.Shelf
def Try.lays189_ren : Go.Shelf.Ren := ⟨fun | 189 => 55 | 125 => 76 | 257 => 75 | 128 => 96 | 129 => 97 | 294 => 87 | 295 => 88 | 296 => 89 | 297 => 90 | 298 => 91 | 299 => 92 | 216 => 93 | 300 => 94 | 301 => 95 | 328 => 99 | 329 => 100 | 330 => 101 | 331 => 102 | 332 => 103 | 215 => 104 | 343 => 105 | n => n, fun | 28 => 56 | 3 => 3 | 46 => 101 | 0 => 0 | 51 => 91 | 53 => 120 | 4 => 4 | 183 => 112 | 182 => 111 | 131 => 83 | 5 => 5 | 9 => 9 | 218 => 121 | 222 => 125 | 228 => 127 | 229 => 128 | n => n, fun | n => n⟩
theorem Try.lays189 : Go.Proofs.Lays.n189 Try.prog Try.lays189_ren := {
  mixed := by kernel_rfl
  f125 := Try.func76.trans (congrArg some (by kernel_rfl))
  f128 := Try.func96.trans (congrArg some (by kernel_rfl))
  f129 := Try.func97.trans (congrArg some (by kernel_rfl))
  f189 := Try.func55.trans (congrArg some (by kernel_rfl))
  f215 := Try.func104.trans (congrArg some (by kernel_rfl))
  f216 := Try.func93.trans (congrArg some (by kernel_rfl))
  f257 := Try.func75.trans (congrArg some (by kernel_rfl))
  f294 := Try.func87.trans (congrArg some (by kernel_rfl))
  f295 := Try.func88.trans (congrArg some (by kernel_rfl))
  f296 := Try.func89.trans (congrArg some (by kernel_rfl))
  f297 := Try.func90.trans (congrArg some (by kernel_rfl))
  f298 := Try.func91.trans (congrArg some (by kernel_rfl))
  f299 := Try.func92.trans (congrArg some (by kernel_rfl))
  f300 := Try.func94.trans (congrArg some (by kernel_rfl))
  f301 := Try.func95.trans (congrArg some (by kernel_rfl))
  f328 := Try.func99.trans (congrArg some (by kernel_rfl))
  f329 := Try.func100.trans (congrArg some (by kernel_rfl))
  f330 := Try.func101.trans (congrArg some (by kernel_rfl))
  f331 := Try.func102.trans (congrArg some (by kernel_rfl))
  f332 := Try.func103.trans (congrArg some (by kernel_rfl))
  f343 := Try.func105.trans (congrArg some (by kernel_rfl))
  t0 := Try.underlying0
  a0 := Try.isAgg0
  z0 := Try.sizeOf0
  v0 := Try.zeroValue0
  t3 := Try.underlying3
  a3 := Try.isAgg3
  z3 := Try.sizeOf3
  v3 := Try.zeroValue3
  t4 := Try.underlying4
  a4 := Try.isAgg4
  z4 := Try.sizeOf4
  v4 := Try.zeroValue4
  t5 := Try.underlying5
  a5 := Try.isAgg5
  z5 := Try.sizeOf5
  v5 := Try.zeroValue5
  t9 := Try.underlying9
  a9 := Try.isAgg9
  z9 := Try.sizeOf9
  v9 := Try.zeroValue9
  t28 := Try.underlying56
  a28 := Try.isAgg56
  z28 := Try.sizeOf56
  v28 := Try.zeroValue56
  t46 := Try.underlying101
  a46 := Try.isAgg101
  z46 := Try.sizeOf101
  v46 := Try.zeroValue101
  t51 := Try.underlying91
  a51 := Try.isAgg91
  z51 := Try.sizeOf91
  v51 := Try.zeroValue91
  t53 := Try.underlying120
  a53 := Try.isAgg120
  z53 := Try.sizeOf120
  v53 := Try.zeroValue120
  t131 := Try.underlying83
  a131 := Try.isAgg83
  z131 := Try.sizeOf83
  v131 := Try.zeroValue83
  t182 := Try.underlying111
  a182 := Try.isAgg111
  z182 := Try.sizeOf111
  v182 := Try.zeroValue111
  t183 := Try.underlying112
  a183 := Try.isAgg112
  z183 := Try.sizeOf112
  v183 := Try.zeroValue112
  t218 := Try.underlying121
  a218 := Try.isAgg121
  z218 := Try.sizeOf121
  v218 := Try.zeroValue121
  t222 := Try.underlying125
  a222 := Try.isAgg125
  z222 := Try.sizeOf125
  v222 := Try.zeroValue125
  t228 := Try.underlying127
  a228 := Try.isAgg127
  z228 := Try.sizeOf127
  v228 := Try.zeroValue127
  t229 := Try.underlying128
  a229 := Try.isAgg128
  z229 := Try.sizeOf128
  v229 := Try.zeroValue128 }
end Go.Proofs

namespace Go.Proofs.Ytppccaacbpkgiaa
open Go Go.Proofs.Ytppccaacbpkgiaa.V
set_option maxRecDepth 20000
attribute [local irreducible] CallS AOK AOKn ALoop Side Ref.ok
theorem Gives.plain_inv {σ : AH} {n : Nat} {y x : AV} (h : Gives σ n y x) (hy : y.plain = true) : x = y := by
  cases h with
  | one h hb => exact h.same_inv hy
  | tup h => cases hy
theorem call_one {f : Nat} {xs vs : List AV} {σ : AH} {Q : AV → AH → Prop} {y0 : AV} (h : AOKn Try.prog f vs fun y => y = y0) (hs : LooksL σ xs vs) (hf : y0.plain = true) (hQ : ∀ σ', Gr σ σ' none → Q y0 σ') : CallS Try.prog f xs σ Q := by
  refine h.call hs ?_
  rintro _ x σ1 rfl hg hG
  obtain rfl := Gives.plain_inv hG hf
  exact hQ σ1 hg
theorem call_two {f : Nat} {xs vs : List AV} {σ : AH} {Q : AV → AH → Prop} {y1 y2 : AV} (h : AOKn Try.prog f vs fun y => y = .tup [y1, y2]) (hs : LooksL σ xs vs) (h1 : y1.plain = true) (h2 : y2.plain = true) (hQ : ∀ σ', Gr σ σ' none → Q (.tup [y1, y2]) σ') : CallS Try.prog f xs σ Q := by
  refine h.call hs ?_
  rintro _ x σ1 rfl hg hG
  obtain ⟨_, _, rfl, a1, a2, _⟩ := hG.two
  obtain rfl := a1.same_inv h1
  obtain rfl := a2.same_inv h2
  exact hQ σ1 hg
def New (σ : AH) (y : AV) : Prop := ∀ id, y.bid = some id → σ.length ≤ id
/-- One slice of one's own comes back. -/
theorem call_sl {f : Nat} {xs vs : List AV} {σ : AH} {Q : AV → AH → Prop} {sz : Nat} {rows : List (List AV)} (h : AOKn Try.prog f vs fun y => y = .sl sz rows true) (hs : LooksL σ xs vs) (hQ : ∀ σ' y, Gr σ σ' none → Own σ' sz y rows → New σ y → Q y σ') : CallS Try.prog f xs σ Q := by
  refine h.call hs ?_
  rintro _ x σ1 rfl hg hG
  obtain ⟨h1, h2⟩ := hG.sl_inv
  exact hQ σ1 x hg h1 h2
/-- A slice and a plain value. -/
theorem call_sl1 {f : Nat} {xs vs : List AV} {σ : AH} {Q : AV → AH → Prop} {sz : Nat} {rows : List (List AV)} {y2 : AV} (h : AOKn Try.prog f vs fun y => y = .tup [.sl sz rows true, y2]) (hs : LooksL σ xs vs) (h2 : y2.plain = true) (hQ : ∀ σ' y, Gr σ σ' none → Own σ' sz y rows → New σ y → Q (.tup [y, y2]) σ') : CallS Try.prog f xs σ Q := by
  refine h.call hs ?_
  rintro _ x σ1 rfl hg hG
  obtain ⟨_, _, rfl, a1, a2, hn, _⟩ := hG.two
  obtain rfl := a2.same_inv h2
  exact hQ σ1 _ hg a1.own_inv hn
/-- A slice and two plain values. -/
theorem call_sl2 {f : Nat} {xs vs : List AV} {σ : AH} {Q : AV → AH → Prop} {sz : Nat} {rows : List (List AV)} {y2 y3 : AV} (h : AOKn Try.prog f vs fun y => y = .tup [.sl sz rows true, y2, y3]) (hs : LooksL σ xs vs) (h2 : y2.plain = true) (h3 : y3.plain = true) (hQ : ∀ σ' y, Gr σ σ' none → Own σ' sz y rows → New σ y → Q (.tup [y, y2, y3]) σ') : CallS Try.prog f xs σ Q := by
  refine h.call hs ?_
  rintro _ x σ1 rfl hg hG
  obtain ⟨_, _, _, rfl, a1, a2, a3, hn, _⟩ := hG.three
  obtain rfl := a2.same_inv h2
  obtain rfl := a3.same_inv h3
  exact hQ σ1 _ hg a1.own_inv hn
theorem disj_new {σ : AH} {sz : Nat} {x y : AV} {rows : List (List AV)} (hx : Own σ sz x rows) (hy : New σ y) : x.bid = none ∨ x.bid ≠ y.bid := by
  cases hb : x.bid with
  | none => exact .inl rfl
  | some id =>
    refine .inr fun e => ?_
    have h1 := hx.lt hb
    have h2 := hy id e.symm
    omega
theorem disj_symm {x y : AV} (h : x.bid = none ∨ x.bid ≠ y.bid) : y.bid = none ∨ y.bid ≠ x.bid := by
  rcases h with h | h
  · cases hy : y.bid with
    | none => exact .inl rfl
    | some a => right; rw [h]; simp
  · exact .inr fun e => h e.symm
theorem not_new {σ : AH} {sz : Nat} {x : AV} {rows : List (List AV)} (hx : Own σ sz x rows) : x.bid ≠ some σ.length := fun e => by
  have := hx.lt e
  omega
end Go.Proofs.Ytppccaacbpkgiaa

namespace Go.Proofs.Ytppccaacbpkgiaa
open Go Go.Proofs.Ytppccaacbpkgiaa.V
set_option maxRecDepth 20000
attribute [local irreducible] CallS AOK AOKn ALoop Side Ref.ok
theorem fresh_bs (s : List UInt8) : FreshR (.sl 1 (bs s) true) := FreshA.sl _ _ FreshA_bs
theorem bytes_Equal_val (σ : AH) (a b : Bool) (s t : List UInt8) (Q : AV → AH → Prop) (h1 : s = t → Q (.bool true) σ) (h2 : s ≠ t → Q (.bool false) σ) : CallS Try.prog F.bytes_Equal [.sl 1 (bs s) a, .sl 1 (bs t) b] σ Q := by
  refine call_of_body mixed fc_bytes_Equal_ok (by simp [fc_bytes_Equal]) ?_
  repeat' (first
    | ((conv => whnf) <;> (first
    | (with_reducible refine Br.mk (fun _ => ?_) (fun _ => ?_))
    | (with_reducible refine rowsR_sl ?_)
    | ((with_reducible apply bytesR_intro) ; (focus (first | rfl | (simp only [bs_take, bs_drop, bs_append]; rfl))))
    ))
    )
  all_goals (conv => whnf)
  all_goals (try dsimp only)
  · exact h1 ‹_›
  · exact h2 ‹_›
theorem bytes_Clone_ok (s : List UInt8) (hl : s.length ≤ 4611686018427) : AOKn Try.prog F.bytes_Clone [.sl 1 (bs s) false] fun y => y = .sl 1 (bs s) true := by
  have hn := bs_length s
  refine AOKn.by_steps mixed fc_bytes_Clone_ok (by simp [fc_bytes_Clone]) ?_
  repeat' (first
    | ((with_reducible refine Side.intro ?_) <;> (first
    | omega
    | (simp only [bs_length, List.length_append, List.length_cons, List.length_nil, List.length_take, List.length_drop, List.length_set, List.length_replicate]; omega)
    | (simp only [List.append_nil, List.nil_append, List.map_nil]; first | exact List.nodup_nil | exact nodup_bid1 _ | exact nodup_bid2 (by assumption))
    | ((first | refine fresh_tup ?_ | skip); (repeat (first |  exact FreshA.sl _ _ FreshA_bs | exact FreshA.sl _ _ FreshA_is | exact FreshA.nils | exact FreshA.nilp | exact FreshA.int _ _ | exact FreshA.bool _ | exact FreshA.str _ | exact fresh_nil | refine fresh_cons ?_ ?_ | with_reducible refine fresh_aggR ?_ | with_reducible refine fresh_agg ?_ | with_reducible exact fresh_nilA | with_reducible refine fresh_consA ?_ ?_)); done)
    | (simp; done)
    ))
    | ((conv => whnf) <;> (first
    | (with_reducible refine and_same ?_)
    | (with_reducible refine and_side ?_ ?_)
    | (with_reducible refine Br.mk (fun _ => ?_) (fun _ => ?_))
    | (with_reducible refine Both.mk ?_ ?_)
    | ((with_reducible apply blkAt_step) ; (focus (first
    | exact rfl
    )) ; (focus (first | rfl | assumption | omega)) ; (focus (first | rfl | assumption)) ; (try dsimp only))
    | ((with_reducible apply appendR_lit) ; (focus (first
    | exact rfl
    )) ; (focus (first | rfl | assumption)) ; (focus (first | rfl | assumption)) ; (focus rfl) ; (focus rfl) ; (focus rfl) ; (focus (first | exact Nat.zero_le _ | omega | (simp; done) | (simp; omega))) ; (try dsimp only))
    | (with_reducible refine AppC.frz ?_)
    | (with_reducible refine EqnW.of ?_)
    | (with_reducible refine NOut.lit ?_)
    | (with_reducible refine rowsR_sl ?_)
    ))
    )
  all_goals (conv => whnf)
  all_goals (try dsimp only)
  · exact ret_same (by simp)
  · simp only [List.take_zero, List.nil_append, Nat.zero_add, List.take_length]; exact Side.intro (fresh_bs s)
  · exact ret_nil ‹_›
  · exact ret_same (by simp)
  · simp only [List.take_zero, List.nil_append, Nat.zero_add, List.take_length]; exact Side.intro (fresh_bs s)
end Go.Proofs.Ytppccaacbpkgiaa

namespace Go.Proofs.Ytppccaacbpkgiaa
open Go Go.Proofs.Ytppccaacbpkgiaa.V
set_option maxRecDepth 20000
attribute [local irreducible] CallS AOK AOKn ALoop Side Ref.ok
theorem line_val (σ : AH) (s : List UInt8) (fr : Bool) (i : Int) (h0 : 0 ≤ i) (h1 : (i+1)*64 ≤ s.length) (hl: s.length ≤ 4611686018427387904) (Q : AV → AH → Prop) (h : Q (.sl 1 (bs ((s.take ((i+1)*64).toNat).drop (i*64).toNat)) fr) σ) : CallS Try.prog F.lines_line [.sl 1 (bs s) fr, .int .i64 i] σ Q := by
  have hn := bs_length s
  refine call_of_body mixed fc_lines_line_ok (by simp [fc_lines_line]) ?_
  repeat' (first
    | ((with_reducible refine Side.intro ?_) <;> (first
    | omega
    ))
    | ((conv => whnf) <;> (first
    | (with_reducible refine and_same ?_)
    | (with_reducible refine and_side ?_ ?_)
    | ((with_reducible apply Br.yes) ; (focus omega))
    | (with_reducible refine SliceW.of ?_)
    ))
    )
  all_goals (conv => whnf)
  all_goals (try dsimp only)
  simpa only [packA, bs_take, bs_drop] using h
def ln (s : List UInt8) (i : Nat) : List UInt8 := (s.take ((i+1)*64)).drop (i*64)
def diffs (s t : List UInt8) (n : Nat) : List (Int × List UInt8) := ((List.range n).filter fun i => ln s i ≠ ln t i).map fun i => (Int.ofNat i, ln t i)
def chg (fr : Bool) (l : List (Int × List UInt8)) : List (List AV) := l.map fun p => [.int .i64 p.1, .sl 1 (bs p.2) fr]
theorem chg_length (fr : Bool) (l : List (Int × List UInt8)) : (chg fr l).length = l.length := by simp [chg]
theorem chg_append (fr : Bool) (l m : List (Int × List UInt8)) : chg fr (l ++ m) = chg fr l ++ chg fr m := by simp [chg]
theorem fresh_chg (l : List (Int × List UInt8)) : FreshE (.sl 2 (chg true l) true) := by
  refine FreshA.sl _ _ fun x hx => ?_
  simp only [chg, List.mem_flatten, List.mem_map] at hx
  obtain ⟨r, ⟨p, _, rfl⟩, hx⟩ := hx
  simp only [List.mem_cons, List.not_mem_nil, or_false] at hx
  rcases hx with rfl | rfl
  · exact .int _ _
  · exact .sl _ _ FreshA_bs
theorem chg_nil {fr : Bool} {l : List (Int × List UInt8)} (h : chg fr l = []) : l = [] := by
  simpa [chg] using h
theorem diffs_succ (s t : List UInt8) (n : Nat) : diffs s t (n + 1) = diffs s t n ++ (if ln s n ≠ ln t n then [(Int.ofNat n, ln t n)] else []) := by
  unfold diffs
  rw [List.range_succ, List.filter_append, List.map_append]
  congr 1
  by_cases h : ln s n = ln t n <;> simp [h]
theorem diffs_le (s t : List UInt8) : ∀ n, (diffs s t n).length ≤ n := fun n => by
  unfold diffs
  rw [List.length_map]
  exact Nat.le_trans (List.length_filter_le _ _) (by simp)
section
end
theorem fits_ok (n i : Int) (s : List UInt8) : AOKn Try.prog F.lines_fits [.int .i64 n, .agg [.int .i64 i, .sl 1 (bs s) false]] fun y => y = .bool (decide (0 ≤ i ∧ i < n ∧ s.length = 64)) := by
  have hn := bs_length s
  refine AOKn.by_steps mixed fc_lines_fits_ok (by simp [fc_lines_fits]) ?_
  repeat' (first
    | ((with_reducible refine Side.intro ?_) <;> (first
    | (simp only [List.append_nil, List.nil_append, List.map_nil]; first | exact List.nodup_nil | exact nodup_bid1 _ | exact nodup_bid2 (by assumption))
    | ((first | refine fresh_tup ?_ | skip); (repeat (first | exact fresh_chg _ |  exact FreshA.sl _ _ FreshA_bs | exact FreshA.sl _ _ FreshA_is | exact FreshA.nils | exact FreshA.nilp | exact FreshA.int _ _ | exact FreshA.bool _ | exact FreshA.str _ | exact fresh_nil | refine fresh_cons ?_ ?_ | with_reducible refine fresh_aggR ?_ | with_reducible refine fresh_agg ?_ | with_reducible exact fresh_nilA | with_reducible refine fresh_consA ?_ ?_)); done)
    | exact rfl
    ))
    | ((conv => whnf) <;> (first
    | (with_reducible refine and_same ?_)
    | (with_reducible refine and_side ?_ ?_)
    | (with_reducible refine Br.mk (fun _ => ?_) (fun _ => ?_))
    | ((with_reducible apply blkAt_step) ; (focus (first
    | exact rfl
    )) ; (focus (first | rfl | assumption | omega)) ; (focus (first | rfl | assumption)) ; (try dsimp only))
    | (with_reducible refine NOut.lit ?_)
    | (with_reducible refine lenR_sl ?_)
    ))
    )
  all_goals (conv => whnf)
  all_goals (try dsimp only)
  all_goals exact ret_same (by simp; omega)
/-- A change that fits. -/
def Fits (n : Nat) (p : Int × List UInt8) : Prop := 0 ≤ p.1 ∧ p.1 < n ∧ p.2.length = 64
instance (n : Nat) (p : Int × List UInt8) : Decidable (Fits n p) := by unfold Fits; infer_instance
def lay1 (s : List UInt8) (p : Int × List UInt8) : List UInt8 := s.take (p.1.toNat * 64) ++ p.2 ++ s.drop (p.1.toNat * 64 + 64)
def layL (s : List UInt8) (l : List (Int × List UInt8)) : List UInt8 := l.foldl lay1 s
theorem lay1_length {s : List UInt8} {p : Int × List UInt8} (h : Fits (s.length / 64) p) : (lay1 s p).length = s.length := by
  obtain ⟨h1, h2, h3⟩ := h
  simp only [lay1, List.length_append, List.length_take, List.length_drop, h3]
  omega
theorem layL_length {s : List UInt8} : ∀ {l : List (Int × List UInt8)} {t : List UInt8}, t.length = s.length → (∀ p, p ∈ l → Fits (s.length / 64) p) → (layL t l).length = s.length
  | [], t, ht, _ => ht
  | p :: l, t, ht, h => by
    refine layL_length (l := l) (t := lay1 t p) ?_ (fun q hq => h q (by simp [hq]))
    rw [lay1_length (by rw [ht]; exact h p (by simp)), ht]
theorem nthR_chg {fr : Bool} {l : List (Int × List UInt8)} {n : Nat} {K : List AV → Prop} (hn : n < l.length) (hk : ∀ p, l[n]? = some p → K [.int .i64 p.1, .sl 1 (bs p.2) fr]) : nthR (chg fr l) n K := by
  have h := List.getElem?_eq_getElem hn
  exact nthR_intro (x := [.int .i64 l[n].1, .sl 1 (bs l[n].2) fr]) (by simp [chg, h]) (hk _ h)
theorem looks_chg1 (σ : AH) (i : Int) (s : List UInt8) (fr : Bool) : Looks σ (.agg [.int .i64 i, .sl 1 (bs s) fr]) (.agg [.int .i64 i, .sl 1 (bs s) false]) := by
  refine .same ?_
  simp [derefV, derefCs, derefC, AV.flat, untag, untagLL_bs]
theorem line_own (σ : AH) (id gen n : Nat) (b : Blk) (i : Int) (h0 : 0 ≤ i) (h1 : (i+1)*64 ≤ n) (hl: n ≤ 4611686018427387904) (hb : σ[id]? = some b) (hg : b.gen = gen) (hs : b.sz = 1) (hbe : b.ext = none) (Q : AV → AH → Prop) (h : Q (.rsl id gen (i*64).toNat 64 none) σ) : CallS Try.prog F.lines_line [.rsl id gen 0 n none, .int .i64 i] σ Q := by
  refine call_of_body mixed fc_lines_line_ok (by simp [fc_lines_line]) ?_
  repeat' (first
    | ((with_reducible refine Side.intro ?_) <;> (first
    | omega
    ))
    | ((conv => whnf) <;> (first
    | (with_reducible refine and_same ?_)
    | (with_reducible refine and_side ?_ ?_)
    | ((with_reducible apply Br.yes) ; (focus omega))
    | ((with_reducible apply blkAt_step) ; (focus (first
    | ((repeat (first
    | assumption
    )); done)
    )) ; (focus (first | rfl | assumption | omega)) ; (focus (first | rfl | assumption)) ; (try dsimp only))
    | (with_reducible refine SliceW.of ?_)
    ))
    )
  all_goals (conv => whnf)
  all_goals (try dsimp only)
  have e : ((i + 1) * 64).toNat - (i * 64).toNat = 64 := by omega
  simpa only [packA, e, Nat.zero_add, Option.map_none] using h
theorem lay_rows (s : List UInt8) (p : Int × List UInt8) (sp : List (List AV)) (h : (p.1 * 64).toNat + 64 ≤ s.length) (h3 : p.2.length = 64) :
    (bs s ++ sp).take (p.1 * 64).toNat ++ (bs p.2).take 64 ++ (bs s ++ sp).drop ((p.1 * 64).toNat + 64) = bs (lay1 s p) ++ sp := by
  have e : (p.1 * 64).toNat = p.1.toNat * 64 := by omega
  have hl := bs_length s
  rw [e] at h ⊢
  rw [List.take_append_of_le_length (by omega), List.drop_append_of_le_length (by omega), List.take_of_length_le (l := bs p.2) (by rw [bs_length]; omega), bs_take, bs_drop, ← List.append_assoc, bs_append, bs_append]
  rfl
theorem lines_Apply_ok (s : List UInt8) (L : List (Int × List UInt8)) (hs : s.length ≤ 4611686018427) (hL : L.length ≤ 4611686018427) : AOKn Try.prog F.lines_Apply [.sl 1 (bs s) false, .sl 2 (chg false L) false]
    fun y => y = if s.length % 64 = 0 ∧ ∀ p, p ∈ L → Fits (s.length / 64) p then .tup [.sl 1 (bs (layL s L)) true, .int .i64 0] else .tup [.nils, .int .i64 1] := by
  have hn := bs_length s
  have hm := chg_length false L
  refine AOKn.by_steps mixed fc_lines_Apply_ok (by simp [fc_lines_Apply]) ?_
  repeat' (first
    | ((with_reducible refine Side.intro ?_) <;> (first
    | omega
    | (simp only [List.append_nil, List.nil_append, List.map_nil]; first | exact List.nodup_nil | exact nodup_bid1 _ | exact nodup_bid2 (by assumption))
    | ((first | refine fresh_tup ?_ | skip); (repeat (first | exact fresh_chg _ |  exact FreshA.sl _ _ FreshA_bs | exact FreshA.sl _ _ FreshA_is | exact FreshA.nils | exact FreshA.nilp | exact FreshA.int _ _ | exact FreshA.bool _ | exact FreshA.str _ | exact fresh_nil | refine fresh_cons ?_ ?_ | with_reducible refine fresh_aggR ?_ | with_reducible refine fresh_agg ?_ | with_reducible exact fresh_nilA | with_reducible refine fresh_consA ?_ ?_)); done)
    ))
    | ((conv => whnf) <;> (first
    | (with_reducible refine and_same ?_)
    | (with_reducible refine and_side ?_ ?_)
    | ((with_reducible apply Br.yes) ; (focus omega))
    | (with_reducible refine Br.mk (fun _ => ?_) (fun _ => ?_))
    | (with_reducible refine NOut.lit ?_)
    | (with_reducible refine lenR_sl ?_)
    ))
    )
  all_goals (conv => whnf)
  all_goals (try dsimp only)
  · rename_i h
    exact ret_same (by rw [if_neg (by omega)])
  · rename_i h64
    refine (bytes_Clone_ok s (by omega)).call (.cons (.bs _ _ _) .nil) ?_
    rintro _ x σ1 rfl hg hG
    obtain ⟨hx, hxb⟩ := hG.sl_inv
    repeat' (first
      | ((conv => whnf) <;> (first
      | (with_reducible refine lenR_sl ?_)
      ))
      )
    all_goals (conv => whnf)
    all_goals (try dsimp only)
    refine loop_by (α := Nat × AH) (fun a => [(0, .sl 1 (bs s) false), (6, x), (15, .sl 2 (chg false L) false), (16, .int .i64 L.length), (17, .int .i64 a.1)]) (fun a => a.2)
      (fun a => a.1 ≤ L.length ∧ (∀ p, p ∈ L.take a.1 → Fits (s.length / 64) p) ∧ Own a.2 1 x (bs (layL s (L.take a.1)))) (fun a => L.length - a.1) ?_ (0, σ1) ⟨by omega, by simp, by simpa [layL] using hx⟩ (by rw [hm]; rfl) rfl
    rintro ⟨k, σ⟩ ⟨hk, hfit, hown⟩
    dsimp only at hk hfit hown ⊢
    repeat' (first
      | ((with_reducible refine Side.intro ?_) <;> (first
      | omega
      | (simp only [List.append_nil, List.nil_append, List.map_nil]; first | exact List.nodup_nil | exact nodup_bid1 _ | exact nodup_bid2 (by assumption))
      | ((first | refine fresh_tup ?_ | skip); (repeat (first | exact fresh_chg _ |  exact FreshA.sl _ _ FreshA_bs | exact FreshA.sl _ _ FreshA_is | exact FreshA.nils | exact FreshA.nilp | exact FreshA.int _ _ | exact FreshA.bool _ | exact FreshA.str _ | exact fresh_nil | refine fresh_cons ?_ ?_ | with_reducible refine fresh_aggR ?_ | with_reducible refine fresh_agg ?_ | with_reducible exact fresh_nilA | with_reducible refine fresh_consA ?_ ?_)); done)
      ))
      | ((conv => whnf) <;> (first
      | (with_reducible refine and_same ?_)
      | (with_reducible refine and_side ?_ ?_)
      | (with_reducible refine Br.mk (fun _ => ?_) (fun _ => ?_))
      | (with_reducible refine ia_sl ?_ ?_)
      | ((with_reducible apply NOut.own) ; (focus assumption))
      | (with_reducible refine NOut.lit ?_)
      ))
      )
    all_goals (conv => whnf)
    all_goals (try dsimp only)
    · refine nthR_chg (by omega) fun p hp => ?_
      repeat' (first
        | ((with_reducible refine Side.intro ?_) <;> (first
        | omega
        | exact Nat.le_of_ble_eq_true rfl
        | exact rfl
        ))
        | ((conv => whnf) <;> (first
        | (with_reducible refine and_same ?_)
        | (with_reducible refine and_side ?_ ?_)
        | ((with_reducible apply Br.yes) ; (focus omega))
        | ((with_reducible apply blkAt_step) ; (focus (first
        | ((repeat (first
        | exact get_new
        | exact get_set get_new
        )); done)
        )) ; (focus (first | rfl | assumption | omega)) ; (focus (first | rfl | assumption)) ; (try dsimp only))
        | (with_reducible refine lenR_sl ?_)
        ))
        )
      all_goals (conv => whnf)
      all_goals (try dsimp only)
      have hpk : L[k]? = some p := by simpa using hp
      refine (fits_ok ((s.length / 64 : Nat) : Int) p.1 p.2).call (.cons (by rw [hn]; exact Looks.int _ _ _) (.cons (looks_chg1 _ _ _ _) .nil)) ?_
      rintro _ y σ2 rfl hg2 hG2
      obtain rfl := hG2.flat_inv rfl (by intros; simp)
      by_cases hf : Fits (s.length / 64) p
      · rw [decide_eq_true (by obtain ⟨h1, h2, h3⟩ := hf; exact ⟨h1, by omega, h3⟩)]
        have hlen : (layL s (L.take k)).length = s.length := layL_length rfl hfit
        have hown2 := hown.keepN ((Gr.box σ _ _).trans hg2)
        rcases hown2 with ⟨rfl, h0⟩ | ⟨id, gen, sp, rfl, hb⟩
        · exfalso
          have := congrArg List.length h0
          obtain ⟨q1, q2, q3⟩ := hf
          simp only [bs_length, List.length_nil] at this
          omega
        · have hc : σ2[σ.length]? = some { sz := 2, els := [[AV.int .i64 p.1, .sl 1 (bs p.2) false]], gen := 0, wr := true, pure := true } := hg2.2 _ _ (get_set get_new) (by simp)
          repeat' (first
            | ((conv => whnf) <;> (first
            | ((with_reducible apply blkAt_step) ; (focus (first
            | ((repeat (first
            | assumption
            )); done)
            )) ; (focus (first | rfl | assumption | omega)) ; (focus (first | rfl | assumption)) ; (try dsimp only))
            ))
            )
          all_goals (conv => whnf)
          all_goals (try dsimp only)
          obtain ⟨q1, q2, q3⟩ := hf
          have hl1 : ((bs (layL s (L.take k))).length) = s.length := by rw [bs_length, hlen]
          refine line_own σ2 id gen _ _ p.1 q1 (by omega) (by omega) hb rfl rfl rfl _ ?_
          repeat' (first
            | ((with_reducible apply Gr.side) ; (repeat (first | exact Gr.refl _ _ | assumption | with_reducible refine Gr.trans ?_ (Gr.boxN _ _ _ _ _) | refine Gr.setNew ?_ (by first | exact Nat.le_refl _ | (simp only [newB_length, List.length_set, List.length_append, List.length_singleton]; omega) | omega) _ | refine Gr.addN ?_ _ | refine Gr.newN ?_ _ _ _ | exact Gr.trans (by assumption) (by assumption) | refine Gr.trans ?_ (by assumption) | refine Gr.trans (by assumption) ?_)) ; (first | done | fail))
            | ((with_reducible refine Side.intro ?_) <;> (first
            | (simp only [bs_length, List.length_append, List.length_cons, List.length_nil, List.length_take, List.length_drop, List.length_set, List.length_replicate]; omega)
            ))
            | ((conv => whnf) <;> (first
            | (with_reducible refine and_same ?_)
            | (with_reducible refine and_side ?_ ?_)
            | ((with_reducible apply Br.yes) ; (focus omega))
            | ((with_reducible apply blkAt_step) ; (focus (first
            | ((repeat (first
            | assumption
            )); done)
            )) ; (focus (first | rfl | assumption | omega)) ; (focus (first | rfl | assumption)) ; (try dsimp only))
            | (with_reducible refine CopyW.of ?_)
            | (with_reducible refine rowsR_sl ?_)
            ))
            )
          all_goals (conv => whnf)
          all_goals (try dsimp only)
          refine ⟨(k + 1, _), rfl, rfl, ⟨by omega, ?_, ?_⟩, by omega⟩
          · intro q hq
            rw [List.take_add_one, hpk] at hq
            simp only [Option.toList_some, List.mem_append, List.mem_singleton] at hq
            rcases hq with hq | rfl
            · exact hfit q hq
            · exact ⟨q1, q2, q3⟩
          · dsimp only
            have e1 : (layL s (L.take (k + 1))) = lay1 (layL s (L.take k)) p := by
              rw [List.take_add_one, hpk]
              simp [layL]
            have e2 := lay_rows (layL s (L.take k)) p sp (by omega) q3
            rw [e1]
            have e3 : (bs (layL s (L.take k))).length = (bs (lay1 (layL s (L.take k)) p)).length := by
              rw [bs_length, bs_length, lay1_length (by rw [hlen]; exact ⟨q1, q2, q3⟩)]
            have e4 : (bs p.2).length = 64 := by rw [bs_length, q3]
            rw [e4, Nat.min_self, e2, e3]
            exact .inr ⟨id, gen, sp, rfl, get_set hb⟩
      · rw [decide_eq_false (by intro q; exact hf ⟨q.1, by omega, q.2.2⟩)]
        repeat' (first
          | ((with_reducible refine Side.intro ?_) <;> (first
          | (simp only [List.append_nil, List.nil_append, List.map_nil]; first | exact List.nodup_nil | exact nodup_bid1 _ | exact nodup_bid2 (by assumption))
          | ((first | refine fresh_tup ?_ | skip); (repeat (first | exact fresh_chg _ |  exact FreshA.sl _ _ FreshA_bs | exact FreshA.sl _ _ FreshA_is | exact FreshA.nils | exact FreshA.nilp | exact FreshA.int _ _ | exact FreshA.bool _ | exact FreshA.str _ | exact fresh_nil | refine fresh_cons ?_ ?_ | with_reducible refine fresh_aggR ?_ | with_reducible refine fresh_agg ?_ | with_reducible exact fresh_nilA | with_reducible refine fresh_consA ?_ ?_)); done)
          ))
          | ((conv => whnf) <;> (first
          | (with_reducible refine and_side ?_ ?_)
          | (with_reducible refine NOut.lit ?_)
          ))
          )
        all_goals (conv => whnf)
        all_goals (try dsimp only)
        exact ret_same (by rw [if_neg (fun q => hf (q.2 p (List.mem_of_getElem? hpk)))])
    · have hkL : k = L.length := by omega
      subst hkL
      rw [List.take_length] at hfit hown
      exact ret_same (by rw [if_pos ⟨by omega, hfit⟩, List.take_length])
/-- Is the change at a place right? -/
def okAt (n : Int) (L : List (Int × List UInt8)) (j : Nat) : Bool :=
  match L[j]? with
  | none => true
  | some p => decide (0 ≤ p.1 ∧ p.1 < n ∧ p.2.length = 64) && (match j with | 0 => true | i + 1 => match L[i]? with | some q => decide (q.1 < p.1) | none => true)
def rightB (n : Int) (L : List (Int × List UInt8)) : Bool := (List.range L.length).all (okAt n L)
theorem rightB_true {n : Int} {L : List (Int × List UInt8)} (h : ∀ j, j < L.length → okAt n L j = true) : rightB n L = true := List.all_eq_true.2 fun j hj => h j (List.mem_range.1 hj)
theorem rightB_false {n : Int} {L : List (Int × List UInt8)} {j : Nat} (hj : j < L.length) (h : okAt n L j = false) : rightB n L = false := by
  cases e : rightB n L
  · rfl
  · rw [List.all_eq_true.1 e j (List.mem_range.2 hj)] at h; cases h
theorem lines_Right_ok (n : Int) (L : List (Int × List UInt8)) (hL : L.length ≤ 4611686018427) : AOKn Try.prog F.lines_Right [.int .i64 n, .sl 2 (chg false L) false] fun y => y = .bool (rightB n L) := by
  have hm := chg_length false L
  refine AOKn.by_steps mixed fc_lines_Right_ok (by simp [fc_lines_Right]) ?_
  repeat' (first
    | ((conv => whnf) <;> (first
    | (with_reducible refine lenR_sl ?_)
    ))
    )
  all_goals (conv => whnf)
  all_goals (try dsimp only)
  refine loop_by (α := Nat × AH) (fun a => [(0, .int .i64 n), (1, .sl 2 (chg false L) false), (7, .sl 2 (chg false L) false), (8, .int .i64 L.length), (9, .int .i64 a.1)]) (fun a => a.2)
      (fun a => a.1 ≤ L.length ∧ ∀ j, j < a.1 → okAt n L j = true) (fun a => L.length - a.1) ?_ (0, []) ⟨by omega, by simp⟩ (by rw [hm]; rfl) rfl
  rintro ⟨k, σ⟩ ⟨hk, hok⟩
  dsimp only at hk hok ⊢
  repeat' (first
    | ((with_reducible refine Side.intro ?_) <;> (first
    | omega
    | (simp only [List.append_nil, List.nil_append, List.map_nil]; first | exact List.nodup_nil | exact nodup_bid1 _ | exact nodup_bid2 (by assumption))
    | ((first | refine fresh_tup ?_ | skip); (repeat (first | exact fresh_chg _ |  exact FreshA.sl _ _ FreshA_bs | exact FreshA.sl _ _ FreshA_is | exact FreshA.nils | exact FreshA.nilp | exact FreshA.int _ _ | exact FreshA.bool _ | exact FreshA.str _ | exact fresh_nil | refine fresh_cons ?_ ?_ | with_reducible refine fresh_aggR ?_ | with_reducible refine fresh_agg ?_ | with_reducible exact fresh_nilA | with_reducible refine fresh_consA ?_ ?_)); done)
    ))
    | ((conv => whnf) <;> (first
    | (with_reducible refine and_same ?_)
    | (with_reducible refine and_side ?_ ?_)
    | (with_reducible refine Br.mk (fun _ => ?_) (fun _ => ?_))
    | (with_reducible refine ia_sl ?_ ?_)
    | (with_reducible refine NOut.lit ?_)
    ))
    )
  all_goals (conv => whnf)
  all_goals (try dsimp only)
  · refine nthR_chg (by omega) fun p hp => ?_
    have hpk : L[k]? = some p := by simpa using hp
    repeat' (first
      | ((with_reducible refine Side.intro ?_) <;> (first
      | exact Nat.le_of_ble_eq_true rfl
      | exact rfl
      ))
      | ((conv => whnf) <;> (first
      | (with_reducible refine and_same ?_)
      | (with_reducible refine and_side ?_ ?_)
      | ((with_reducible apply blkAt_step) ; (focus (first
      | ((repeat (first
      | exact get_new
      | exact get_set get_new
      )); done)
      )) ; (focus (first | rfl | assumption | omega)) ; (focus (first | rfl | assumption)) ; (try dsimp only))
      ))
      )
    all_goals (conv => whnf)
    all_goals (try dsimp only)
    refine (fits_ok n p.1 p.2).call (.cons (Looks.int _ _ _) (.cons (looks_chg1 _ _ _ _) .nil)) ?_
    rintro _ y σ2 rfl hg2 hG2
    obtain rfl := hG2.flat_inv rfl (by intros; simp)
    have hc : σ2[σ.length]? = some { sz := 2, els := [[AV.int .i64 p.1, .sl 1 (bs p.2) false]], gen := 0, wr := true, pure := true } := hg2.2 _ _ (get_set get_new) (by simp)
    by_cases hf : 0 ≤ p.1 ∧ p.1 < n ∧ p.2.length = 64
    · rw [decide_eq_true hf]
      repeat' (first
        | ((with_reducible refine Side.intro ?_) <;> (first
        | omega
        ))
        | ((conv => whnf) <;> (first
        | (with_reducible refine and_same ?_)
        | ((with_reducible apply Br.yes) ; (focus omega))
        | (with_reducible refine Br.mk (fun _ => ?_) (fun _ => ?_))
        | ((with_reducible apply blkAt_step) ; (focus (first
        | ((repeat (first
        | assumption
        )); done)
        )) ; (focus (first | rfl | assumption | omega)) ; (focus (first | rfl | assumption)) ; (try dsimp only))
        | (with_reducible refine ia_sl ?_ ?_)
        ))
        )
      all_goals (conv => whnf)
      all_goals (try dsimp only)
      · refine nthR_chg (by omega) fun q hq => ?_
        have e1 : ((k : Int) - 1).toNat = k - 1 := by omega
        rw [e1] at hq
        have hok1 : okAt n L k = decide (q.1 < p.1) := by
          cases k with
          | zero => omega
          | succ i => simp only [Nat.add_sub_cancel] at hq; simp [okAt, hpk, hf, hq]
        repeat' (first
          | ((with_reducible refine Side.intro ?_) <;> (first
          | (simp only [List.append_nil, List.nil_append, List.map_nil]; first | exact List.nodup_nil | exact nodup_bid1 _ | exact nodup_bid2 (by assumption))
          | ((first | refine fresh_tup ?_ | skip); (repeat (first | exact fresh_chg _ |  exact FreshA.sl _ _ FreshA_bs | exact FreshA.sl _ _ FreshA_is | exact FreshA.nils | exact FreshA.nilp | exact FreshA.int _ _ | exact FreshA.bool _ | exact FreshA.str _ | exact fresh_nil | refine fresh_cons ?_ ?_ | with_reducible refine fresh_aggR ?_ | with_reducible refine fresh_agg ?_ | with_reducible exact fresh_nilA | with_reducible refine fresh_consA ?_ ?_)); done)
          ))
          | ((conv => whnf) <;> (first
          | (with_reducible refine and_same ?_)
          | (with_reducible refine and_side ?_ ?_)
          | ((with_reducible apply Br.yes) ; (focus omega))
          | (with_reducible refine Br.mk (fun _ => ?_) (fun _ => ?_))
          | (with_reducible refine NOut.lit ?_)
          ))
          )
        all_goals (conv => whnf)
        all_goals (try dsimp only)
        · exact ret_same (by rw [rightB_false (j := k) (by omega) (by rw [hok1]; simpa using ‹p.1 ≤ q.1›)])
        · refine ⟨(k + 1, σ2), rfl, rfl, ⟨by omega, fun j hj => ?_⟩, by omega⟩
          by_cases e : j = k
          · subst e; rw [hok1]; simp only [decide_eq_true_eq]; omega
          · exact hok j (by omega)
      · refine ⟨(k + 1, σ2), rfl, rfl, ⟨by omega, fun j hj => ?_⟩, by omega⟩
        by_cases e : j = k
        · subst e
          have hk0 : j = 0 := by omega
          subst hk0
          simp [okAt, hpk, hf]
        · exact hok j (by omega)
    · rw [decide_eq_false hf]
      repeat' (first
        | ((with_reducible refine Side.intro ?_) <;> (first
        | (simp only [List.append_nil, List.nil_append, List.map_nil]; first | exact List.nodup_nil | exact nodup_bid1 _ | exact nodup_bid2 (by assumption))
        | ((first | refine fresh_tup ?_ | skip); (repeat (first | exact fresh_chg _ |  exact FreshA.sl _ _ FreshA_bs | exact FreshA.sl _ _ FreshA_is | exact FreshA.nils | exact FreshA.nilp | exact FreshA.int _ _ | exact FreshA.bool _ | exact FreshA.str _ | exact fresh_nil | refine fresh_cons ?_ ?_ | with_reducible refine fresh_aggR ?_ | with_reducible refine fresh_agg ?_ | with_reducible exact fresh_nilA | with_reducible refine fresh_consA ?_ ?_)); done)
        ))
        | ((conv => whnf) <;> (first
        | (with_reducible refine and_side ?_ ?_)
        | (with_reducible refine NOut.lit ?_)
        ))
        )
      all_goals (conv => whnf)
      all_goals (try dsimp only)
      all_goals exact ret_same (by rw [rightB_false (j := k) (by omega) (by simp [okAt, hpk, hf])])
  · exact ret_same (by rw [rightB_true (fun j hj => hok j (by omega))])
theorem nthR_chg1 {fr : Bool} {l : List (Int × List UInt8)} {n : Nat} {K : List AV → Prop} {p : Int × List UInt8} (h : l[n]? = some p) (hk : K [.int .i64 p.1, .sl 1 (bs p.2) fr]) : nthR (chg fr l) n K :=
  nthR_intro (x := [.int .i64 p.1, .sl 1 (bs p.2) fr]) (by simp [chg, h]) hk
/-- What Apply tells. -/
def applyR (s : List UInt8) (L : List (Int × List UInt8)) : List UInt8 := if s.length % 64 = 0 ∧ ∀ p, p ∈ L → Fits (s.length / 64) p then layL s L else []
def applyE (s : List UInt8) (L : List (Int × List UInt8)) : Int := if s.length % 64 = 0 ∧ ∀ p, p ∈ L → Fits (s.length / 64) p then 0 else 1
theorem apply_up {f : Nat} {s : List UInt8} {L : List (Int × List UInt8)} {args : List AV} (h : AOKn Try.prog f args fun y => y = if s.length % 64 = 0 ∧ ∀ p, p ∈ L → Fits (s.length / 64) p then .tup [.sl 1 (bs (layL s L)) true, .int .i64 0] else .tup [.nils, .int .i64 1]) :
    AOKn Try.prog f args fun y => y = .tup [.sl 1 (bs (applyR s L)) true, .int .i64 (applyE s L)] := by
  refine h.monoN fun y hy => ?_
  subst hy
  unfold applyR applyE
  by_cases hc : s.length % 64 = 0 ∧ ∀ p, p ∈ L → Fits (s.length / 64) p
  · simp only [if_pos hc]; exact ret_same rfl
  · simp only [if_neg hc]; exact ret_nilt rfl
end Go.Proofs.Ytppccaacbpkgiaa

namespace Go.Proofs.Ytppccaacbpkgiaa
open Go Go.Proofs.Ytppccaacbpkgiaa.V
set_option maxRecDepth 20000
attribute [local irreducible] CallS AOK AOKn ALoop Side Ref.ok
/-! ### Logs -/
structure LogV where
  Mark : Int
  First : Int
  Room : Int
def logR (g : LogV) : List AV := [.int .i64 g.Mark, .int .i64 g.First, .int .i64 g.Room]
def rightG (g : LogV) (n : Int) : Prop := 1 ≤ g.Room ∧ g.Room ≤ 4096 ∧ 0 ≤ g.First ∧ g.First ≤ n ∧ 2 * g.Room ≤ n - g.First ∧ 0 ≤ g.Mark ∧ g.Mark < n ∧ (g.Mark < g.First ∨ 2 * g.Room ≤ g.Mark - g.First)
instance (g : LogV) (n : Int) : Decidable (rightG g n) := by unfold rightG; infer_instance
def mineG (g : LogV) (k : Int) : Prop := rightG g 4096 ∧ (k = g.Mark ∨ (g.First ≤ k ∧ k - g.First < 2 * g.Room))
instance (g : LogV) (n : Int) : Decidable (mineG g n) := by unfold mineG; infer_instance
theorem looks_log (σ : AH) (g : LogV) : Looks σ (.agg (logR g)) (.agg (logR g)) := .same rfl
theorem right_t {g : LogV} {n : Int} (h : rightG g n) : true = decide (rightG g n) := (decide_eq_true h).symm
theorem right_f {g : LogV} {n : Int} (h : ¬ rightG g n) : false = decide (rightG g n) := (decide_eq_false h).symm
theorem wRight_ok (g : LogV) (n : Int) (hn : n ≤ 9223372036854775807 ∧ -9223372036854775808 ≤ n) : AOKn Try.prog F.wal_Right [.agg (logR g), .int .i64 n] fun y => y = .bool (decide (rightG g n)) := by
  obtain ⟨M, R, W⟩ := g
  dsimp only [logR]
  refine AOKn.by_steps mixed fc_wal_Right_ok (by simp [fc_wal_Right]) ?_
  repeat' (first
    | ((with_reducible refine Side.intro ?_) <;> (first
    | (simp only [List.append_nil, List.nil_append, List.map_nil]; first | exact List.nodup_nil | exact nodup_bid1 _ | exact nodup_bid2 (by assumption))
    | ((first | refine fresh_tup ?_ | skip); (repeat (first |  exact FreshA.sl _ _ FreshA_bs | exact FreshA.sl _ _ FreshA_is | exact FreshA.nils | exact FreshA.nilp | exact FreshA.int _ _ | exact FreshA.bool _ | exact FreshA.str _ | exact fresh_nil | refine fresh_cons ?_ ?_ | with_reducible refine fresh_aggR ?_ | with_reducible refine fresh_agg ?_ | with_reducible exact fresh_nilA | with_reducible refine fresh_consA ?_ ?_)); done)
    | exact rfl
    ))
    | ((conv => whnf) <;> (first
    | (with_reducible refine and_same ?_)
    | (with_reducible refine and_side ?_ ?_)
    | ((with_reducible apply Br.yes) ; (focus omega))
    | (with_reducible refine Br.mk (fun _ => ?_) (fun _ => ?_))
    | ((with_reducible apply blkAt_step) ; (focus (first
    | exact rfl
    )) ; (focus (first | rfl | assumption | omega)) ; (focus (first | rfl | assumption)) ; (try dsimp only))
    | (with_reducible refine NOut.lit ?_)
    ))
    )
  all_goals (conv => whnf)
  all_goals (try dsimp only)
  all_goals first
    | exact ret_bool (right_t (by unfold rightG; dsimp only; omega))
    | exact ret_bool (right_f (by unfold rightG; dsimp only; omega))
    | trace_state
theorem rRight_ok (g : LogV) (n : Int) (hn : n ≤ 9223372036854775807 ∧ -9223372036854775808 ≤ n) : AOKn Try.prog F.joistref05_Right [.agg (logR g), .int .i64 n] fun y => y = .bool (decide (rightG g n)) := by
  obtain ⟨M, R, W⟩ := g
  dsimp only [logR]
  refine AOKn.by_steps mixed fc_joistref05_Right_ok (by simp [fc_joistref05_Right]) ?_
  repeat' (first
    | ((with_reducible refine Side.intro ?_) <;> (first
    | (simp only [List.append_nil, List.nil_append, List.map_nil]; first | exact List.nodup_nil | exact nodup_bid1 _ | exact nodup_bid2 (by assumption))
    | ((first | refine fresh_tup ?_ | skip); (repeat (first |  exact FreshA.sl _ _ FreshA_bs | exact FreshA.sl _ _ FreshA_is | exact FreshA.nils | exact FreshA.nilp | exact FreshA.int _ _ | exact FreshA.bool _ | exact FreshA.str _ | exact fresh_nil | refine fresh_cons ?_ ?_ | with_reducible refine fresh_aggR ?_ | with_reducible refine fresh_agg ?_ | with_reducible exact fresh_nilA | with_reducible refine fresh_consA ?_ ?_)); done)
    | exact rfl
    ))
    | ((conv => whnf) <;> (first
    | (with_reducible refine and_same ?_)
    | (with_reducible refine and_side ?_ ?_)
    | ((with_reducible apply Br.yes) ; (focus omega))
    | (with_reducible refine Br.mk (fun _ => ?_) (fun _ => ?_))
    | ((with_reducible apply blkAt_step) ; (focus (first
    | exact rfl
    )) ; (focus (first | rfl | assumption | omega)) ; (focus (first | rfl | assumption)) ; (try dsimp only))
    | (with_reducible refine NOut.lit ?_)
    ))
    )
  all_goals (conv => whnf)
  all_goals (try dsimp only)
  all_goals first
    | exact ret_bool (right_t (by unfold rightG; dsimp only; omega))
    | exact ret_bool (right_f (by unfold rightG; dsimp only; omega))
    | trace_state
theorem mine_t {g : LogV} {n : Int} (h : mineG g n) : true = decide (mineG g n) := (decide_eq_true h).symm
theorem mine_f {g : LogV} {n : Int} (h : ¬ mineG g n) : false = decide (mineG g n) := (decide_eq_false h).symm
theorem wMine_ok (g : LogV) (k : Int) (hk : k ≤ 9223372036854775807 ∧ -9223372036854775808 ≤ k) : AOKn Try.prog F.wal_Mine [.agg (logR g), .int .i64 k] fun y => y = .bool (decide (mineG g k)) := by
  have hL := looks_log
  obtain ⟨M, R, W⟩ := g
  dsimp only [logR] at hL ⊢
  have hR := wRight_ok ⟨M, R, W⟩ 4096 (by omega)
  refine AOKn.by_steps mixed fc_wal_Mine_ok (by simp [fc_wal_Mine]) ?_
  repeat' (first
    | ((with_reducible refine Side.intro ?_) <;> (first
    | exact Nat.le_of_ble_eq_true rfl
    | exact rfl
    ))
    | ((conv => whnf) <;> (first
    | (with_reducible refine and_side ?_ ?_)
    | ((with_reducible apply blkAt_step) ; (focus (first
    | exact rfl
    )) ; (focus (first | rfl | assumption | omega)) ; (focus (first | rfl | assumption)) ; (try dsimp only))
    ))
    )
  all_goals (conv => whnf)
  all_goals (try dsimp only)
  by_cases hr : rightG ⟨M, R, W⟩ 4096
  · rw [decide_eq_true hr] at hR
    refine call_one hR (.cons (hL _ ⟨M, R, W⟩) (.cons (Looks.int _ _ _) .nil)) rfl fun σ1 hg1 => ?_
    have b1 := hg1.2 0 _ get_new (by simp)
    have hu := hr
    unfold rightG at hu
    dsimp only at hu
    repeat' (first
      | ((with_reducible refine Side.intro ?_) <;> (first
      | (simp only [List.append_nil, List.nil_append, List.map_nil]; first | exact List.nodup_nil | exact nodup_bid1 _ | exact nodup_bid2 (by assumption))
      | ((first | refine fresh_tup ?_ | skip); (repeat (first |  exact FreshA.sl _ _ FreshA_bs | exact FreshA.sl _ _ FreshA_is | exact FreshA.nils | exact FreshA.nilp | exact FreshA.int _ _ | exact FreshA.bool _ | exact FreshA.str _ | exact fresh_nil | refine fresh_cons ?_ ?_ | with_reducible refine fresh_aggR ?_ | with_reducible refine fresh_agg ?_ | with_reducible exact fresh_nilA | with_reducible refine fresh_consA ?_ ?_)); done)
      ))
      | ((conv => whnf) <;> (first
      | (with_reducible refine and_same ?_)
      | (with_reducible refine and_side ?_ ?_)
      | ((with_reducible apply Br.yes) ; (focus omega))
      | (with_reducible refine Br.mk (fun _ => ?_) (fun _ => ?_))
      | ((with_reducible apply blkAt_step) ; (focus (first
      | ((repeat (first
      | assumption
      )); done)
      )) ; (focus (first | rfl | assumption | omega)) ; (focus (first | rfl | assumption)) ; (try dsimp only))
      | (with_reducible refine NOut.lit ?_)
      ))
      )
    all_goals (conv => whnf)
    all_goals (try dsimp only)
    all_goals first
      | exact ret_bool (mine_t ⟨hr, by dsimp only; omega⟩)
      | exact ret_bool (mine_f fun q => by have := q.2; dsimp only at this; omega)
      | trace_state
  · rw [decide_eq_false hr] at hR
    refine call_one hR (.cons (hL _ ⟨M, R, W⟩) (.cons (Looks.int _ _ _) .nil)) rfl fun σ1 hg1 => ?_
    have b1 := hg1.2 0 _ get_new (by simp)
    repeat' (first
      | ((with_reducible refine Side.intro ?_) <;> (first
      | (simp only [List.append_nil, List.nil_append, List.map_nil]; first | exact List.nodup_nil | exact nodup_bid1 _ | exact nodup_bid2 (by assumption))
      | ((first | refine fresh_tup ?_ | skip); (repeat (first |  exact FreshA.sl _ _ FreshA_bs | exact FreshA.sl _ _ FreshA_is | exact FreshA.nils | exact FreshA.nilp | exact FreshA.int _ _ | exact FreshA.bool _ | exact FreshA.str _ | exact fresh_nil | refine fresh_cons ?_ ?_ | with_reducible refine fresh_aggR ?_ | with_reducible refine fresh_agg ?_ | with_reducible exact fresh_nilA | with_reducible refine fresh_consA ?_ ?_)); done)
      ))
      | ((conv => whnf) <;> (first
      | (with_reducible refine and_side ?_ ?_)
      | (with_reducible refine NOut.lit ?_)
      ))
      )
    all_goals (conv => whnf)
    all_goals (try dsimp only)
    exact ret_bool (mine_f fun q => hr q.1)
theorem rMine_ok (g : LogV) (k : Int) (hk : k ≤ 9223372036854775807 ∧ -9223372036854775808 ≤ k) : AOKn Try.prog F.joistref05_Mine [.agg (logR g), .int .i64 k] fun y => y = .bool (decide (mineG g k)) := by
  have hL := looks_log
  obtain ⟨M, R, W⟩ := g
  dsimp only [logR] at hL ⊢
  have hR := rRight_ok ⟨M, R, W⟩ 4096 (by omega)
  refine AOKn.by_steps mixed fc_joistref05_Mine_ok (by simp [fc_joistref05_Mine]) ?_
  repeat' (first
    | ((with_reducible refine Side.intro ?_) <;> (first
    | exact Nat.le_of_ble_eq_true rfl
    | exact rfl
    ))
    | ((conv => whnf) <;> (first
    | (with_reducible refine and_side ?_ ?_)
    | ((with_reducible apply blkAt_step) ; (focus (first
    | exact rfl
    )) ; (focus (first | rfl | assumption | omega)) ; (focus (first | rfl | assumption)) ; (try dsimp only))
    ))
    )
  all_goals (conv => whnf)
  all_goals (try dsimp only)
  by_cases hr : rightG ⟨M, R, W⟩ 4096
  · rw [decide_eq_true hr] at hR
    refine call_one hR (.cons (hL _ ⟨M, R, W⟩) (.cons (Looks.int _ _ _) .nil)) rfl fun σ1 hg1 => ?_
    have b1 := hg1.2 0 _ get_new (by simp)
    have hu := hr
    unfold rightG at hu
    dsimp only at hu
    repeat' (first
      | ((with_reducible refine Side.intro ?_) <;> (first
      | (simp only [List.append_nil, List.nil_append, List.map_nil]; first | exact List.nodup_nil | exact nodup_bid1 _ | exact nodup_bid2 (by assumption))
      | ((first | refine fresh_tup ?_ | skip); (repeat (first |  exact FreshA.sl _ _ FreshA_bs | exact FreshA.sl _ _ FreshA_is | exact FreshA.nils | exact FreshA.nilp | exact FreshA.int _ _ | exact FreshA.bool _ | exact FreshA.str _ | exact fresh_nil | refine fresh_cons ?_ ?_ | with_reducible refine fresh_aggR ?_ | with_reducible refine fresh_agg ?_ | with_reducible exact fresh_nilA | with_reducible refine fresh_consA ?_ ?_)); done)
      ))
      | ((conv => whnf) <;> (first
      | (with_reducible refine and_same ?_)
      | (with_reducible refine and_side ?_ ?_)
      | ((with_reducible apply Br.yes) ; (focus omega))
      | (with_reducible refine Br.mk (fun _ => ?_) (fun _ => ?_))
      | ((with_reducible apply blkAt_step) ; (focus (first
      | ((repeat (first
      | assumption
      )); done)
      )) ; (focus (first | rfl | assumption | omega)) ; (focus (first | rfl | assumption)) ; (try dsimp only))
      | (with_reducible refine NOut.lit ?_)
      ))
      )
    all_goals (conv => whnf)
    all_goals (try dsimp only)
    all_goals first
      | exact ret_bool (mine_t ⟨hr, by dsimp only; omega⟩)
      | exact ret_bool (mine_f fun q => by have := q.2; dsimp only at this; omega)
      | trace_state
  · rw [decide_eq_false hr] at hR
    refine call_one hR (.cons (hL _ ⟨M, R, W⟩) (.cons (Looks.int _ _ _) .nil)) rfl fun σ1 hg1 => ?_
    have b1 := hg1.2 0 _ get_new (by simp)
    repeat' (first
      | ((with_reducible refine Side.intro ?_) <;> (first
      | (simp only [List.append_nil, List.nil_append, List.map_nil]; first | exact List.nodup_nil | exact nodup_bid1 _ | exact nodup_bid2 (by assumption))
      | ((first | refine fresh_tup ?_ | skip); (repeat (first |  exact FreshA.sl _ _ FreshA_bs | exact FreshA.sl _ _ FreshA_is | exact FreshA.nils | exact FreshA.nilp | exact FreshA.int _ _ | exact FreshA.bool _ | exact FreshA.str _ | exact fresh_nil | refine fresh_cons ?_ ?_ | with_reducible refine fresh_aggR ?_ | with_reducible refine fresh_agg ?_ | with_reducible exact fresh_nilA | with_reducible refine fresh_consA ?_ ?_)); done)
      ))
      | ((conv => whnf) <;> (first
      | (with_reducible refine and_side ?_ ?_)
      | (with_reducible refine NOut.lit ?_)
      ))
      )
    all_goals (conv => whnf)
    all_goals (try dsimp only)
    exact ret_bool (mine_f fun q => hr q.1)
end Go.Proofs.Ytppccaacbpkgiaa

namespace Go.Proofs.Ytppccaacbpkgiaa
open Go Go.Proofs.Ytppccaacbpkgiaa.V
set_option maxRecDepth 20000
attribute [local irreducible] CallS AOK AOKn ALoop Side Ref.ok
theorem ref_Right_ok (n : Int) (L : List (Int × List UInt8)) (hL : L.length ≤ 4611686018427) : AOKn Try.prog F.joistref04_Right [.int .i64 n, .sl 2 (chg false L) false] fun y => y = .bool (rightB n L) := by
  have hm := chg_length false L
  refine AOKn.by_steps mixed fc_joistref04_Right_ok (by simp [fc_joistref04_Right]) ?_
  skip
  all_goals (conv => whnf)
  all_goals (try dsimp only)
  refine loop_at (α := Nat) (fun a => [(5, .int .i64 a)]) (fun a => [])
      (fun a => a ≤ L.length ∧ ∀ j, j < a → okAt n L j = true) (fun a => L.length - a) 0 ⟨by omega, by simp⟩ rfl rfl ?_
  rintro k ⟨hk, hok⟩
  repeat' (first
    | ((with_reducible refine Side.intro ?_) <;> (first
    | omega
    | (simp only [List.append_nil, List.nil_append, List.map_nil]; first | exact List.nodup_nil | exact nodup_bid1 _ | exact nodup_bid2 (by assumption))
    | ((first | refine fresh_tup ?_ | skip); (repeat (first | exact fresh_chg _ |  exact FreshA.sl _ _ FreshA_bs | exact FreshA.sl _ _ FreshA_is | exact FreshA.nils | exact FreshA.nilp | exact FreshA.int _ _ | exact FreshA.bool _ | exact FreshA.str _ | exact fresh_nil | refine fresh_cons ?_ ?_ | with_reducible refine fresh_aggR ?_ | with_reducible refine fresh_agg ?_ | with_reducible exact fresh_nilA | with_reducible refine fresh_consA ?_ ?_)); done)
    ))
    | ((conv => whnf) <;> (first
    | (with_reducible refine and_same ?_)
    | (with_reducible refine and_side ?_ ?_)
    | (with_reducible refine Br.mk (fun _ => ?_) (fun _ => ?_))
    | (with_reducible refine ia_sl ?_ ?_)
    | (with_reducible refine NOut.lit ?_)
    | (with_reducible refine lenR_sl ?_)
    ))
    )
  all_goals (conv => whnf)
  all_goals (try dsimp only)
  · obtain ⟨p, hp, hpk⟩ := getN (l := L) (k := k) (by omega)
    repeat' (first
      | ((with_reducible refine Side.intro ?_) <;> (first
      | omega
      | (simp only [List.append_nil, List.nil_append, List.map_nil]; first | exact List.nodup_nil | exact nodup_bid1 _ | exact nodup_bid2 (by assumption))
      | ((first | refine fresh_tup ?_ | skip); (repeat (first | exact fresh_chg _ |  exact FreshA.sl _ _ FreshA_bs | exact FreshA.sl _ _ FreshA_is | exact FreshA.nils | exact FreshA.nilp | exact FreshA.int _ _ | exact FreshA.bool _ | exact FreshA.str _ | exact fresh_nil | refine fresh_cons ?_ ?_ | with_reducible refine fresh_aggR ?_ | with_reducible refine fresh_agg ?_ | with_reducible exact fresh_nilA | with_reducible refine fresh_consA ?_ ?_)); done)
      ))
      | ((conv => whnf) <;> (first
      | (with_reducible refine and_same ?_)
      | (with_reducible refine and_side ?_ ?_)
      | ((with_reducible apply Br.yes) ; (focus omega))
      | (with_reducible refine Br.mk (fun _ => ?_) (fun _ => ?_))
      | ((with_reducible apply nthR_chg1) ; (focus assumption))
      | (with_reducible refine ia_sl ?_ ?_)
      | (with_reducible refine NOut.lit ?_)
      | (with_reducible refine lenR_sl ?_)
      ))
      )
    all_goals (conv => whnf)
    all_goals (try dsimp only)
    · exact ret_bool (rightB_false (j := k) (by omega) (by simp [okAt, hpk]; omega)).symm
    · exact ret_bool (rightB_false (j := k) (by omega) (by simp [okAt, hpk]; omega)).symm
    · have := bs_length p.2
      exact ret_bool (rightB_false (j := k) (by omega) (by simp [okAt, hpk]; omega)).symm
    · have hpl := bs_length p.2
      have hf : 0 ≤ p.1 ∧ p.1 < n ∧ p.2.length = 64 := by omega
      obtain ⟨q, hq⟩ : ∃ q, L[((k : Int) - 1).toNat]? = some q := ⟨_, List.getElem?_eq_getElem (by omega)⟩
      have hok1 : okAt n L k = decide (q.1 < p.1) := by
        cases k with
        | zero => omega
        | succ i =>
          have e1 : (((i + 1 : Nat) : Int) - 1).toNat = i := by omega
          rw [e1] at hq
          simp [okAt, hpk, hf, hq]
      repeat' (first
        | ((with_reducible refine Side.intro ?_) <;> (first
        | (simp only [List.append_nil, List.nil_append, List.map_nil]; first | exact List.nodup_nil | exact nodup_bid1 _ | exact nodup_bid2 (by assumption))
        | ((first | refine fresh_tup ?_ | skip); (repeat (first | exact fresh_chg _ |  exact FreshA.sl _ _ FreshA_bs | exact FreshA.sl _ _ FreshA_is | exact FreshA.nils | exact FreshA.nilp | exact FreshA.int _ _ | exact FreshA.bool _ | exact FreshA.str _ | exact fresh_nil | refine fresh_cons ?_ ?_ | with_reducible refine fresh_aggR ?_ | with_reducible refine fresh_agg ?_ | with_reducible exact fresh_nilA | with_reducible refine fresh_consA ?_ ?_)); done)
        ))
        | ((conv => whnf) <;> (first
        | (with_reducible refine and_same ?_)
        | (with_reducible refine and_side ?_ ?_)
        | ((with_reducible apply Br.yes) ; (focus omega))
        | (with_reducible refine Br.mk (fun _ => ?_) (fun _ => ?_))
        | ((with_reducible apply nthR_chg1) ; (focus assumption))
        | (with_reducible refine NOut.lit ?_)
        ))
        )
      all_goals (conv => whnf)
      all_goals (try dsimp only)
      · exact ret_bool (rightB_false (j := k) (by omega) (by rw [hok1]; simpa using ‹p.1 ≤ q.1›)).symm
      · refine ⟨k + 1, rfl, rfl, ⟨by omega, fun j hj => ?_⟩, by omega⟩
        by_cases e : j = k
        · subst e; rw [hok1]; simp only [decide_eq_true_eq]; omega
        · exact hok j (by omega)
    · have hpl := bs_length p.2
      have hf : 0 ≤ p.1 ∧ p.1 < n ∧ p.2.length = 64 := by omega
      refine ⟨k + 1, rfl, rfl, ⟨by omega, fun j hj => ?_⟩, by omega⟩
      by_cases e : j = k
      · subst e
        have hk0 : j = 0 := by omega
        subst hk0
        simp [okAt, hpk, hf]
      · exact hok j (by omega)
  · exact ret_same (by rw [rightB_true (fun j hj => hok j (by omega))])
theorem ref_Same_ok (L M : List (Int × List UInt8)) (hL : L.length ≤ 4611686018427) (hM : M.length ≤ 4611686018427) : AOKn Try.prog F.joistref04_Same [.sl 2 (chg false L) false, .sl 2 (chg false M) false] fun y => y = .bool (decide (L = M)) := by
  have hm := chg_length false L
  have hn := chg_length false M
  refine AOKn.by_steps mixed fc_joistref04_Same_ok (by simp [fc_joistref04_Same]) ?_
  repeat' (first
    | ((with_reducible refine Side.intro ?_) <;> (first
    | (simp only [List.append_nil, List.nil_append, List.map_nil]; first | exact List.nodup_nil | exact nodup_bid1 _ | exact nodup_bid2 (by assumption))
    | ((first | refine fresh_tup ?_ | skip); (repeat (first | exact fresh_chg _ |  exact FreshA.sl _ _ FreshA_bs | exact FreshA.sl _ _ FreshA_is | exact FreshA.nils | exact FreshA.nilp | exact FreshA.int _ _ | exact FreshA.bool _ | exact FreshA.str _ | exact fresh_nil | refine fresh_cons ?_ ?_ | with_reducible refine fresh_aggR ?_ | with_reducible refine fresh_agg ?_ | with_reducible exact fresh_nilA | with_reducible refine fresh_consA ?_ ?_)); done)
    ))
    | ((conv => whnf) <;> (first
    | (with_reducible refine and_same ?_)
    | (with_reducible refine and_side ?_ ?_)
    | (with_reducible refine Br.mk (fun _ => ?_) (fun _ => ?_))
    | (with_reducible refine NOut.lit ?_)
    | (with_reducible refine lenR_sl ?_)
    ))
    )
  all_goals (conv => whnf)
  all_goals (try dsimp only)
  · rename_i h
    exact ret_same (by rw [decide_eq_false (fun e => h (by rw [e]))])
  refine loop_at (α := Nat) (fun a => [(5, .int .i64 a)]) (fun a => [])
      (fun a => a ≤ L.length ∧ ∀ j, j < a → L[j]? = M[j]?) (fun a => L.length - a) 0 ⟨by omega, by simp⟩ rfl rfl ?_
  rintro k ⟨hk, hok⟩
  repeat' (first
    | ((with_reducible refine Side.intro ?_) <;> (first
    | omega
    | (simp only [List.append_nil, List.nil_append, List.map_nil]; first | exact List.nodup_nil | exact nodup_bid1 _ | exact nodup_bid2 (by assumption))
    | ((first | refine fresh_tup ?_ | skip); (repeat (first | exact fresh_chg _ |  exact FreshA.sl _ _ FreshA_bs | exact FreshA.sl _ _ FreshA_is | exact FreshA.nils | exact FreshA.nilp | exact FreshA.int _ _ | exact FreshA.bool _ | exact FreshA.str _ | exact fresh_nil | refine fresh_cons ?_ ?_ | with_reducible refine fresh_aggR ?_ | with_reducible refine fresh_agg ?_ | with_reducible exact fresh_nilA | with_reducible refine fresh_consA ?_ ?_)); done)
    ))
    | ((conv => whnf) <;> (first
    | (with_reducible refine and_same ?_)
    | (with_reducible refine and_side ?_ ?_)
    | (with_reducible refine Br.mk (fun _ => ?_) (fun _ => ?_))
    | (with_reducible refine ia_sl ?_ ?_)
    | (with_reducible refine NOut.lit ?_)
    | (with_reducible refine lenR_sl ?_)
    ))
    )
  all_goals (conv => whnf)
  all_goals (try dsimp only)
  · obtain ⟨p, hp, hpk⟩ := getN (l := L) (k := k) (by omega)
    obtain ⟨q, hq, hqk⟩ := getN (l := M) (k := k) (by omega)
    repeat' (first
      | ((with_reducible refine Side.intro ?_) <;> (first
      | omega
      | (simp only [List.append_nil, List.nil_append, List.map_nil]; first | exact List.nodup_nil | exact nodup_bid1 _ | exact nodup_bid2 (by assumption))
      | ((first | refine fresh_tup ?_ | skip); (repeat (first | exact fresh_chg _ |  exact FreshA.sl _ _ FreshA_bs | exact FreshA.sl _ _ FreshA_is | exact FreshA.nils | exact FreshA.nilp | exact FreshA.int _ _ | exact FreshA.bool _ | exact FreshA.str _ | exact fresh_nil | refine fresh_cons ?_ ?_ | with_reducible refine fresh_aggR ?_ | with_reducible refine fresh_agg ?_ | with_reducible exact fresh_nilA | with_reducible refine fresh_consA ?_ ?_)); done)
      ))
      | ((conv => whnf) <;> (first
      | (with_reducible refine and_same ?_)
      | (with_reducible refine and_side ?_ ?_)
      | ((with_reducible apply Br.yes) ; (focus omega))
      | (with_reducible refine Br.mk (fun _ => ?_) (fun _ => ?_))
      | ((with_reducible apply nthR_chg1) ; (focus assumption))
      | (with_reducible refine ia_sl ?_ ?_)
      | (with_reducible refine NOut.lit ?_)
      | (with_reducible refine rowsR_sl ?_)
      | ((with_reducible apply bytesR_intro) ; (focus (first | rfl | (simp only [bs_take, bs_drop, bs_append]; rfl))))
      ))
      )
    all_goals (conv => whnf)
    all_goals (try dsimp only)
    · rename_i hne
      exact ret_bool (decide_eq_false fun e => hne (by subst e; rw [hpk] at hqk; cases hqk; rfl)).symm
    · rename_i hne
      exact ret_bool (decide_eq_false fun e => hne (by subst e; rw [hpk] at hqk; cases hqk; rfl)).symm
    · refine ⟨k + 1, rfl, rfl, ⟨by omega, fun j hj => ?_⟩, by omega⟩
      by_cases e : j = k
      · subst e
        rw [hpk, hqk]
        obtain ⟨p1, p2⟩ := p
        obtain ⟨q1, q2⟩ := q
        simp_all
      · exact hok j (by omega)
  · refine ret_bool (decide_eq_true ?_).symm
    apply List.ext_getElem?
    intro j
    by_cases hj : j < k
    · exact hok j hj
    · rw [List.getElem?_eq_none (by omega), List.getElem?_eq_none (by omega)]
section
end
def part (s : List UInt8) (p : Int × List UInt8) (j : Nat) : List UInt8 := s.take (p.1.toNat * 64) ++ p.2.take j ++ s.drop (p.1.toNat * 64 + j)
theorem part_zero (s : List UInt8) (p : Int × List UInt8) : part s p 0 = s := by simp [part]
theorem part_full {s : List UInt8} {p : Int × List UInt8} (h : p.2.length = 64) : part s p 64 = lay1 s p := by
  unfold part lay1; rw [List.take_of_length_le (l := p.2) (by omega)]
theorem part_length {s : List UInt8} {p : Int × List UInt8} {j : Nat} (h : p.2.length = 64) (hj : j ≤ 64) (hs : p.1.toNat * 64 + 64 ≤ s.length) : (part s p j).length = s.length := by
  simp only [part, List.length_append, List.length_take, List.length_drop]; omega
theorem part_succ {s : List UInt8} {p : Int × List UInt8} {j : Nat} {b : UInt8} (hj : j < 64) (hs : p.1.toNat * 64 + 64 ≤ s.length) (hb : p.2[j]? = some b) : (part s p j).set (p.1.toNat * 64 + j) b = part s p (j + 1) := by
  have hjl := (List.getElem?_eq_some_iff.1 hb).1
  unfold part
  rw [List.set_append_right _ _ (by simp; omega)]
  rw [show p.1.toNat * 64 + j - (List.take (p.1.toNat * 64) s ++ List.take j p.2).length = 0 from by simp; omega]
  rw [List.drop_eq_getElem_cons (by omega : p.1.toNat * 64 + j < s.length), List.set_cons_zero, List.take_add_one, hb]
  simp [Nat.add_assoc]
end Go.Proofs.Ytppccaacbpkgiaa

namespace Go.Proofs.Ytppccaacbpkgiaa
open Go Go.Proofs.Ytppccaacbpkgiaa.V
set_option maxRecDepth 20000
attribute [local irreducible] CallS AOK AOKn ALoop Side Ref.ok
theorem lent_rows (s : List UInt8) : List.take 0 (List.replicate ((s.length : Int) + 1).toNat [AV.int .u8 0]) ++ List.take (min s.length (s.length : Int).toNat) (bs s) ++ List.drop (0 + min s.length (s.length : Int).toNat) (List.replicate ((s.length : Int) + 1).toNat [AV.int .u8 0]) = bs (s ++ [0]) := by
  have e1 : ((s.length : Int) + 1).toNat = s.length + 1 := by omega
  have e2 : min s.length (s.length : Int).toNat = s.length := by omega
  rw [e1, e2, List.take_zero, List.nil_append, Nat.zero_add, List.drop_replicate, List.take_of_length_le (by rw [bs_length]; exact Nat.le_refl _), show s.length + 1 - s.length = 1 from by omega]
  simp [bs]
theorem Lent_val (σ : AH) (s : List UInt8) (fr : Bool) (hs : s.length ≤ 4611686018427) (Q : AV → AH → Prop) (h : Q (.rsl σ.length 0 0 s.length none) (σ ++ [{ sz := 1, els := bs (s ++ [77]), gen := 0, wr := true, pure := true }])) : CallS Try.prog F.joistlaw01_Lent [.sl 1 (bs s) fr] σ Q := by
  have hn := bs_length s
  refine call_of_body mixed fc_joistlaw01_Lent_ok (by simp [fc_joistlaw01_Lent]) ?_
  repeat' (first
    | ((with_reducible refine Side.intro ?_) <;> (first
    | omega
    | (simp only [bs_length, List.length_append, List.length_cons, List.length_nil, List.length_take, List.length_drop, List.length_set, List.length_replicate]; omega)
    | exact .inr (.inl ⟨rfl, by (simp only [bs_length, List.length_append, List.length_cons, List.length_nil, List.length_take, List.length_drop, List.length_set, List.length_replicate]; omega)⟩)
    | exact rfl
    ))
    | ((conv => whnf) <;> (first
    | (with_reducible refine and_same ?_)
    | (with_reducible refine and_side ?_ ?_)
    | ((with_reducible apply Br.yes) ; (focus omega))
    | ((with_reducible apply blkAt_step) ; (focus (first
    | ((repeat (first
    | exact get_new
    | exact get_set get_new
    )); done)
    )) ; (focus (first | rfl | assumption | omega)) ; (focus (first | rfl | assumption)) ; (try dsimp only))
    | (with_reducible refine IaW.of ?_)
    | (with_reducible refine SliceW.of ?_)
    | (with_reducible refine CopyW.of ?_)
    | (with_reducible refine lenR_sl ?_)
    | (with_reducible refine rowsR_sl ?_)
    ))
    )
  all_goals (conv => whnf)
  all_goals (try dsimp only)
  try rw [bs_length]
  rw [lent_rows]
  repeat' (first
    | ((with_reducible refine Side.intro ?_) <;> (first
    | exact Nat.le_of_ble_eq_true rfl
    ))
    | ((conv => whnf) <;> (first
    | (with_reducible refine and_side ?_ ?_)
    | ((with_reducible apply nthR_bs) ; (focus (first | omega | (simp only [List.length_append, List.length_cons, List.length_nil, List.length_take, List.length_drop, bs_length]; omega))))
    | (with_reducible intro _)
    ))
    )
  all_goals (conv => whnf)
  all_goals (try dsimp only)
  have e : (bs (s ++ [0])).set (0 + Int.toNat 0 + (s.length : Int).toNat) [.int .u8 77] = bs (s ++ [77]) := by
    have := bs_set (s ++ [0]) s.length 77
    simpa [Int.toNat_natCast] using this
  have e4 : ∀ (b b1 b2 : Blk), ((σ ++ [b]).set σ.length b1).set σ.length b2 = σ ++ [b2] := by
    intro b b1 b2
    simp
  unfold newB
  rw [e4]
  rw [e]
  exact h
theorem Kept_val (σ : AH) (s : List UInt8) (id gen : Nat) (sp : List UInt8) (fr : Bool) (hs : s.length ≤ 4611686018427) (hb : σ[id]? = some { sz := 1, els := bs (s ++ 77 :: sp), gen := gen, wr := true, pure := true }) (Q : AV → AH → Prop) (h : Q (.bool true) σ) : CallS Try.prog F.joistlaw01_Kept [.rsl id gen 0 s.length none, .sl 1 (bs s) fr] σ Q := by
  have hn := bs_length s
  refine call_of_body mixed fc_joistlaw01_Kept_ok (by simp [fc_joistlaw01_Kept]) ?_
  repeat' (first
    | ((with_reducible refine Side.intro ?_) <;> (first
    | omega
    | (simp only [bs_length, List.length_append, List.length_cons, List.length_nil, List.length_take, List.length_drop, List.length_set, List.length_replicate]; omega)
    | exact .inr (.inl ⟨rfl, by (simp only [bs_length, List.length_append, List.length_cons, List.length_nil, List.length_take, List.length_drop, List.length_set, List.length_replicate]; omega)⟩)
    ))
    | ((conv => whnf) <;> (first
    | (with_reducible refine and_same ?_)
    | (with_reducible refine and_side ?_ ?_)
    | ((with_reducible apply Br.yes) ; (focus omega))
    | (with_reducible refine Br.mk (fun _ => ?_) (fun _ => ?_))
    | ((with_reducible apply blkAt_step) ; (focus (first
    | ((repeat (first
    | assumption
    )); done)
    )) ; (focus (first | rfl | assumption | omega)) ; (focus (first | rfl | assumption)) ; (try dsimp only))
    | (with_reducible refine IaW.of ?_)
    | (with_reducible refine SliceW.of ?_)
    | (with_reducible refine lenR_sl ?_)
    | (with_reducible refine rowsR_sl ?_)
    | (with_reducible refine rowsR_rsl ?_)
    | ((with_reducible apply bytesR_intro) ; (focus (first | rfl | (simp only [bs_take, bs_drop, bs_append]; rfl))))
    | ((with_reducible apply nthR_bs) ; (focus (first | omega | (simp only [List.length_append, List.length_cons, List.length_nil, List.length_take, List.length_drop, bs_length]; omega))))
    | (with_reducible intro _)
    ))
    )
  all_goals (conv => whnf)
  all_goals (try dsimp only)
  · exact h
  · rename_i b hl hx hne
    refine absurd ?_ hne
    rw [show 0 + Int.toNat 0 + ((bs s).length : Int).toNat = s.length from by omega] at hl
    have hb : b = 77 := by simpa using hl.symm
    rw [hb]; rfl
  · rename_i hne
    exact absurd (by simp) hne
/-- A slice whose block's whole room is told. -/
def OwnF (σ : AH) (x : AV) (els : List (List AV)) : Prop :=
  (x = .nils ∧ els = []) ∨ ∃ id gen len, x = .rsl id gen 0 len none ∧ len ≤ els.length ∧ (∀ r, r ∈ els → r.length = 1) ∧ σ[id]? = some { sz := 1, els := els, gen := gen, wr := true, pure := true, full := true }
/-- Rows all of one byte. -/
def allOf (n : Nat) (v : Int) : List (List AV) := List.replicate n [.int .u8 (v % 256)]
/-- Blocks that are none of these stand. -/
def Els (σ σ' : AH) (xs : List AV) : Prop := σ.length ≤ σ'.length ∧ ∀ id b, σ[id]? = some b → (∀ (j : Nat) (x : AV), xs[j]? = some x → x.bid ≠ some id) → σ'[id]? = some b
structure OwnedI (σ σ1 : AH) (xs : List AV) (ns : Nat → Nat) (i : Nat) : Prop where
  els : Els σ σ1 xs
  le : i ≤ xs.length
  own : ∀ (j : Nat) (x : AV), xs[j]? = some x → ∃ els, els.length = ns j ∧ (j < i → els = allOf (ns j) (j + 1)) ∧ OwnF σ1 x els
theorem OwnF.set {σ : AH} {y : AV} {e : List (List AV)} (h : OwnF σ y e) {id : Nat} (hb : y.bid ≠ some id) (B : Blk) : OwnF (σ.set id B) y e := by
  rcases h with h | ⟨id', gen, len, rfl, h1, h2, h3⟩
  · exact .inl h
  · refine .inr ⟨id', gen, len, rfl, h1, h2, ?_⟩
    exact get_set_ne (fun e => hb (by rw [e]; rfl)) h3
theorem OwnedI.next {σ σ1 : AH} {xs : List AV} {ns : Nat → Nat} {i : Nat} (h : OwnedI σ σ1 xs ns i) {id gen len : Nat} {b : Blk} (hxi : xs[i]? = some (.rsl id gen 0 len none)) (hle : len ≤ ns i) (hb : σ1[id]? = some b)
    (hd : ∀ (j k : Nat) (x y : AV), xs[j]? = some x → xs[k]? = some y → j ≠ k → x.bid = none ∨ x.bid ≠ y.bid) :
    OwnedI σ (σ1.set id { sz := 1, els := allOf (ns i) (i + 1), gen := gen, wr := true, pure := true, full := true }) xs ns (i + 1) := by
  refine ⟨⟨by simpa using h.els.1, fun id' b' hb' hne => get_set_ne (fun e => hne i _ hxi (by rw [← e]; rfl)) (h.els.2 id' b' hb' hne)⟩, (List.getElem?_eq_some_iff.1 hxi).1, ?_⟩
  intro j x hj
  by_cases e : j = i
  · subst e
    rw [hxi] at hj; cases hj
    refine ⟨allOf (ns j) (j + 1), by simp [allOf], fun _ => rfl, .inr ⟨id, gen, len, rfl, by simpa [allOf] using hle, ?_, get_set hb⟩⟩
    intro r hr
    rw [(List.mem_replicate.1 hr).2]; rfl
  · obtain ⟨els, h1, h2, h3⟩ := h.own j x hj
    refine ⟨els, h1, fun hlt => h2 (by omega), h3.set ?_ _⟩
    rcases hd j i _ _ hj hxi e with q | q
    · rw [q]; simp
    · exact q
theorem OwnedI.nil {σ σ1 : AH} {xs : List AV} {ns : Nat → Nat} {i : Nat} (h : OwnedI σ σ1 xs ns i) (hxi : xs[i]? = some .nils) (hn : ns i = 0) : OwnedI σ σ1 xs ns (i + 1) := by
  refine ⟨h.els, (List.getElem?_eq_some_iff.1 hxi).1, ?_⟩
  intro j x hj
  obtain ⟨els, h1, h2, h3⟩ := h.own j x hj
  refine ⟨els, h1, fun hlt => ?_, h3⟩
  by_cases e : j = i
  · subst e
    rw [hn] at h1 ⊢
    rw [List.length_eq_zero_iff.1 h1]; rfl
  · exact h2 (by omega)
theorem set_same {σ : AH} {id : Nat} {b : Blk} (h : σ[id]? = some b) : σ = σ.set id b := by
  apply List.ext_getElem?
  intro j
  by_cases e : id = j
  · subst e; rw [h]; exact (get_set h).symm
  · rw [List.getElem?_set_ne e]
theorem nthR_xs {xs : List AV} {i : Nat} {x : AV} {K : List AV → Prop} (h : xs[i]? = some x) (hk : K [x]) : nthR (xs.map fun x => [x]) (i : Int).toNat K :=
  nthR_intro (x := [x]) (by simp [h]) hk
theorem Owned_val (σ : AH) (xs : List AV) (idr gr : Nat) (pu wr fu : Bool) (hr : σ[idr]? = some { sz := 1, els := xs.map fun x => [x], gen := gr, wr := wr, pure := pu, full := fu })
    (ns : Nat → Nat) (hx : ∀ (j : Nat) (x : AV), xs[j]? = some x → ∃ els, els.length = ns j ∧ OwnF σ x els)
    (hd : ∀ (j k : Nat) (x y : AV), xs[j]? = some x → xs[k]? = some y → j ≠ k → x.bid = none ∨ x.bid ≠ y.bid) (hd0 : ∀ (j : Nat) (x : AV), xs[j]? = some x → x.bid ≠ some idr) (hl : xs.length ≤ 4611686018427) (hns : ∀ j, j < xs.length → ns j ≤ 9223372036854775807)
    (Q : AV → AH → Prop) (h : ∀ σ', Els σ σ' xs → Q (.bool true) σ') : CallS Try.prog F.joistlaw01_Owned [.rsl idr gr 0 xs.length none] σ Q := by
  refine call_of_body mixed fc_joistlaw01_Owned_ok (by simp [fc_joistlaw01_Owned]) ?_
  skip
  all_goals (conv => whnf)
  all_goals (try dsimp only)
  refine loop_by (α := Nat × AH) (fun a => [(0, .rsl idr gr 0 xs.length none), (3, .int .i64 a.1)]) (fun a => a.2) (fun a => OwnedI σ a.2 xs ns a.1) (fun a => xs.length - a.1) ?_ (0, σ)
    ⟨⟨Nat.le_refl _, fun _ _ h _ => h⟩, by simp, fun j x hj => by obtain ⟨els, h1, h2⟩ := hx j x hj; exact ⟨els, h1, by omega, h2⟩⟩ rfl rfl
  rintro ⟨i, σ1⟩ hI
  dsimp only at hI ⊢
  have hr1 : σ1[idr]? = some { sz := 1, els := xs.map fun x => [x], gen := gr, wr := wr, pure := pu, full := fu } := hI.els.2 _ _ hr hd0
  have hi := hI.le
  repeat' (first
    | ((with_reducible refine Side.intro ?_) <;> (first
    | omega
    ))
    | ((conv => whnf) <;> (first
    | (with_reducible refine and_same ?_)
    | (with_reducible refine and_side ?_ ?_)
    | (with_reducible refine Br.mk (fun _ => ?_) (fun _ => ?_))
    | ((with_reducible apply blkAt_step) ; (focus (first
    | ((repeat (first
    | assumption
    )); done)
    )) ; (focus (first | rfl | assumption | omega)) ; (focus (first | rfl | assumption)) ; (try dsimp only))
    | (with_reducible refine IaW.of ?_)
    | (with_reducible refine nthR_z ?_)
    | (with_reducible refine lenR_rsl ?_)
    ))
    )
  all_goals (conv => whnf)
  all_goals (try dsimp only)
  · have hil : i < xs.length := by omega
    have hxi : xs[i]? = some xs[i] := List.getElem?_eq_getElem hil
    have hni := hns i hil
    obtain ⟨els, hel, _, ho⟩ := hI.own i _ hxi
    generalize xs[i] = x at *
    refine nthR_xs hxi ?_
    repeat' (first
      | ((with_reducible refine Side.intro ?_) <;> (first
      | omega
      ))
      | ((conv => whnf) <;> (first
      | (with_reducible refine and_same ?_)
      | (with_reducible refine and_side ?_ ?_)
      | ((with_reducible apply blkAt_step) ; (focus (first
      | ((repeat (first
      | assumption
      )); done)
      )) ; (focus (first | rfl | assumption | omega)) ; (focus (first | rfl | assumption)) ; (try dsimp only))
      | (with_reducible refine IaW.of ?_)
      | (with_reducible refine nthR_z ?_)
      ))
      )
    all_goals (conv => whnf)
    all_goals (try dsimp only)
    refine nthR_xs hxi ?_
    rcases ho with ⟨rfl, rfl⟩ | ⟨id, gen, len, rfl, hle, hone, hb⟩
    · repeat' (first
        | ((with_reducible refine Side.intro ?_) <;> (first
        | omega
        ))
        | ((conv => whnf) <;> (first
        | (with_reducible refine and_same ?_)
        | (with_reducible refine and_side ?_ ?_)
        | (with_reducible refine SliceW.of ?_)
        ))
        )
      all_goals (conv => whnf)
      all_goals (try dsimp only)
      refine loop_by (α := Unit) (fun a => [(0, .rsl idr gr 0 xs.length none), (3, .int .i64 i), (4, .nils), (5, .int .i64 0)]) (fun a => σ1) (fun a => True) (fun a => 0) ?_ () trivial rfl rfl
      rintro ⟨⟩ _
      repeat' (first
        | ((conv => whnf) <;> (first
        | (with_reducible refine and_same ?_)
        | ((with_reducible apply Br.yes) ; (focus omega))
        | ((with_reducible apply Br.no) ; (focus omega))
        | (with_reducible refine lenR_nils ?_)
        ))
        )
      all_goals (conv => whnf)
      all_goals (try dsimp only)
      exact ⟨(i + 1, σ1), rfl, rfl, hI.nil hxi hel.symm, by dsimp only; omega⟩
    · repeat' (first
        | ((with_reducible refine Side.intro ?_) <;> (first
        | omega
        | (simp; done)
        ))
        | ((conv => whnf) <;> (first
        | (with_reducible refine and_same ?_)
        | (with_reducible refine and_side ?_ ?_)
        | ((with_reducible apply blkAt_step) ; (focus (first
        | ((repeat (first
        | assumption
        )); done)
        )) ; (focus (first | rfl | assumption | omega)) ; (focus (first | rfl | assumption)) ; (try dsimp only))
        | (with_reducible refine SliceW.of ?_)
        ))
        )
      all_goals (conv => whnf)
      all_goals (try dsimp only)
      refine loop_by (α := Nat × List (List AV)) (fun a => [(0, .rsl idr gr 0 xs.length none), (3, .int .i64 i), (4, .rsl id gen 0 (ns i) none), (5, .int .i64 a.1)])
        (fun a => σ1.set id { sz := 1, els := a.2, gen := gen, wr := true, pure := true, full := true })
        (fun a => a.1 ≤ ns i ∧ a.2.length = ns i ∧ (∀ r, r ∈ a.2 → r.length = 1) ∧ a.2.take a.1 = allOf a.1 (i + 1)) (fun a => ns i - a.1) ?_ (0, els) ⟨by omega, hel, hone, rfl⟩ (by simp [hel]) ?_
      · rintro ⟨k, e2⟩ ⟨hk, hl2, hone2, htk⟩
        dsimp only at hk hl2 hone2 htk ⊢
        have hb2 : (σ1.set id { sz := 1, els := e2, gen := gen, wr := true, pure := true, full := true })[id]? = some { sz := 1, els := e2, gen := gen, wr := true, pure := true, full := true } := get_set hb
        repeat' (first
          | ((with_reducible refine Side.intro ?_) <;> (first
          | omega
          | exact rfl
          ))
          | ((conv => whnf) <;> (first
          | (with_reducible refine and_same ?_)
          | (with_reducible refine and_side ?_ ?_)
          | ((with_reducible apply Br.yes) ; (focus omega))
          | (with_reducible refine Br.mk (fun _ => ?_) (fun _ => ?_))
          | ((with_reducible apply blkAt_step) ; (focus (first
          | ((repeat (first
          | assumption
          )); done)
          )) ; (focus (first | rfl | assumption | omega)) ; (focus (first | rfl | assumption)) ; (try dsimp only))
          | (with_reducible refine IaW.of ?_)
          | (with_reducible refine nthR_z ?_)
          | (with_reducible refine lenR_rsl ?_)
          ))
          )
        all_goals (conv => whnf)
        all_goals (try dsimp only)
        · have hkl : k < e2.length := by omega
          refine nthR_intro (x := e2[k]) (by simp [hkl]) ?_
          have hr1 := hone2 e2[k] (by simp)
          repeat' (first
            | ((conv => whnf) <;> (first
            | (with_reducible refine and_side ?_ ?_)
            ))
            )
          all_goals (conv => whnf)
          all_goals (try dsimp only)
          have elay : lay e2[k] 0 (AV.int .u8 (((i : Int) + 1) % 256)).cells = [.int .u8 (((i : Int) + 1) % 256)] := by
            unfold lay
            rw [List.take_zero, List.nil_append, List.drop_of_length_le (by rw [hr1]; exact Nat.le_refl _)]
            rfl
          rotate_left
          · rw [hr1]; exact Side.intro (Nat.le_refl _)
          rw [layK_eq, elay]
          repeat' (first
            | ((conv => whnf) <;> (first
            | (with_reducible refine and_same ?_)
            | ((with_reducible apply Br.yes) ; (focus omega))
            ))
            )
          all_goals (conv => whnf)
          all_goals (try dsimp only)
          refine ⟨(k + 1, e2.set k [.int .u8 (((i : Int) + 1) % 256)]), rfl, ?_, ⟨by dsimp only; omega, by simpa using hl2, ?_, ?_⟩, by dsimp only; omega⟩
          · rw [List.set_set, show 0 + (k : Int).toNat = k from by omega]
            rfl
          · intro r hr
            rcases List.mem_or_eq_of_mem_set hr with q | q
            · exact hone2 r q
            · rw [q]; rfl
          · dsimp only
            rw [List.take_add_one, List.take_set_of_le (Nat.le_refl _), htk]
            simp [hkl, allOf, List.replicate_succ']
        · have hkn : k = ns i := by omega
          have he2 : e2 = allOf (ns i) (i + 1) := by
            rw [hkn, List.take_of_length_le (by omega)] at htk
            exact htk
          refine ⟨(i + 1, _), rfl, rfl, ?_, by dsimp only; omega⟩
          dsimp only
          rw [he2]
          exact hI.next hxi (by omega) hb hd
      · exact set_same hb
  have hix : i = xs.length := by omega
  refine loop_by (α := Nat) (fun a => [(0, .rsl idr gr 0 xs.length none), (6, .int .i64 a)]) (fun a => σ1) (fun a => a ≤ xs.length) (fun a => xs.length - a) ?_ 0 (by omega) rfl rfl
  intro m hm
  repeat' (first
    | ((with_reducible refine Side.intro ?_) <;> (first
    | omega
    ))
    | ((conv => whnf) <;> (first
    | (with_reducible refine and_same ?_)
    | (with_reducible refine and_side ?_ ?_)
    | (with_reducible refine Br.mk (fun _ => ?_) (fun _ => ?_))
    | ((with_reducible apply blkAt_step) ; (focus (first
    | ((repeat (first
    | assumption
    )); done)
    )) ; (focus (first | rfl | assumption | omega)) ; (focus (first | rfl | assumption)) ; (try dsimp only))
    | (with_reducible refine IaW.of ?_)
    | (with_reducible refine nthR_z ?_)
    | (with_reducible refine lenR_rsl ?_)
    ))
    )
  all_goals (conv => whnf)
  all_goals (try dsimp only)
  · have hml : m < xs.length := by omega
    have hxm : xs[m]? = some xs[m] := List.getElem?_eq_getElem hml
    have hnm := hns m hml
    obtain ⟨els, hel, hall, ho⟩ := hI.own m _ hxm
    generalize xs[m] = x at *
    have hall := hall (by omega)
    refine nthR_xs hxm ?_
    repeat' (first
      | ((with_reducible refine Side.intro ?_) <;> (first
      | omega
      ))
      | ((conv => whnf) <;> (first
      | (with_reducible refine and_same ?_)
      | (with_reducible refine and_side ?_ ?_)
      | ((with_reducible apply blkAt_step) ; (focus (first
      | ((repeat (first
      | assumption
      )); done)
      )) ; (focus (first | rfl | assumption | omega)) ; (focus (first | rfl | assumption)) ; (try dsimp only))
      | (with_reducible refine IaW.of ?_)
      | (with_reducible refine nthR_z ?_)
      ))
      )
    all_goals (conv => whnf)
    all_goals (try dsimp only)
    refine nthR_xs hxm ?_
    rcases ho with ⟨rfl, rfl⟩ | ⟨id, gen, len, rfl, hle, hone, hb⟩
    · repeat' (first
        | ((with_reducible refine Side.intro ?_) <;> (first
        | omega
        ))
        | ((conv => whnf) <;> (first
        | (with_reducible refine and_same ?_)
        | (with_reducible refine and_side ?_ ?_)
        | (with_reducible refine SliceW.of ?_)
        ))
        )
      all_goals (conv => whnf)
      all_goals (try dsimp only)
      refine loop_by (α := Unit) (fun a => [(0, .rsl idr gr 0 xs.length none), (6, .int .i64 m), (7, .nils), (8, .int .i64 0)]) (fun a => σ1) (fun a => True) (fun a => 0) ?_ () trivial rfl rfl
      rintro ⟨⟩ _
      repeat' (first
        | ((conv => whnf) <;> (first
        | (with_reducible refine and_same ?_)
        | ((with_reducible apply Br.yes) ; (focus omega))
        | ((with_reducible apply Br.no) ; (focus omega))
        | (with_reducible refine lenR_nils ?_)
        ))
        )
      all_goals (conv => whnf)
      all_goals (try dsimp only)
      exact ⟨m + 1, rfl, rfl, hml, by omega⟩
    · repeat' (first
        | ((with_reducible refine Side.intro ?_) <;> (first
        | omega
        | (simp; done)
        ))
        | ((conv => whnf) <;> (first
        | (with_reducible refine and_same ?_)
        | (with_reducible refine and_side ?_ ?_)
        | ((with_reducible apply blkAt_step) ; (focus (first
        | ((repeat (first
        | assumption
        )); done)
        )) ; (focus (first | rfl | assumption | omega)) ; (focus (first | rfl | assumption)) ; (try dsimp only))
        | (with_reducible refine SliceW.of ?_)
        ))
        )
      all_goals (conv => whnf)
      all_goals (try dsimp only)
      refine loop_by (α := Nat) (fun a => [(0, .rsl idr gr 0 xs.length none), (6, .int .i64 m), (7, .rsl id gen 0 (ns m) none), (8, .int .i64 a)]) (fun a => σ1)
        (fun a => a ≤ ns m) (fun a => ns m - a) ?_ 0 (by omega) (by simp [hel]) rfl
      intro k hk
      repeat' (first
        | ((with_reducible refine Side.intro ?_) <;> (first
        | omega
        ))
        | ((conv => whnf) <;> (first
        | (with_reducible refine and_same ?_)
        | (with_reducible refine and_side ?_ ?_)
        | ((with_reducible apply Br.yes) ; (focus omega))
        | (with_reducible refine Br.mk (fun _ => ?_) (fun _ => ?_))
        | ((with_reducible apply blkAt_step) ; (focus (first
        | ((repeat (first
        | assumption
        )); done)
        )) ; (focus (first | rfl | assumption | omega)) ; (focus (first | rfl | assumption)) ; (try dsimp only))
        | (with_reducible refine IaW.of ?_)
        | (with_reducible refine nthR_z ?_)
        | (with_reducible refine lenR_rsl ?_)
        ))
        )
      all_goals (conv => whnf)
      all_goals (try dsimp only)
      · refine nthR_intro (x := [.int .u8 (((m : Int) + 1) % 256)]) (by rw [hall]; simp [allOf, List.getElem?_replicate]; omega) ?_
        repeat' (first
          | ((conv => whnf) <;> (first
          | (with_reducible refine and_same ?_)
          | ((with_reducible apply Br.yes) ; (focus omega))
          | ((with_reducible apply Br.no) ; (focus omega))
          ))
          )
        all_goals (conv => whnf)
        all_goals (try dsimp only)
        exact ⟨k + 1, rfl, rfl, by omega, by omega⟩
      · exact ⟨m + 1, rfl, rfl, hml, by omega⟩
  · exact h _ hI.els
theorem Els.refl (σ : AH) (xs : List AV) : Els σ σ xs := ⟨Nat.le_refl _, fun _ _ h _ => h⟩
/-- The state while rooms are shown one after another. -/
structure RvI (σ σ1 : AH) (xs : List AV) (k : Nat) : Prop where
  els : Els σ σ1 xs
  full : ∀ (j : Nat) (x : AV), xs[j]? = some x → j < k → ∃ els, els.length ≤ 9223372036854775807 ∧ OwnF σ1 x els
  rest : ∀ (j : Nat) (x : AV), xs[j]? = some x → k ≤ j → ∃ rows, Own σ1 1 x rows
theorem Owned_own (σ : AH) (xs : List AV) (idr gr : Nat) (pu wr fu : Bool) (hr : σ[idr]? = some { sz := 1, els := xs.map fun x => [x], gen := gr, wr := wr, pure := pu, full := fu })
    (ho : ∀ (j : Nat) (x : AV), xs[j]? = some x → ∃ rows, Own σ 1 x rows)
    (hd : ∀ (j k : Nat) (x y : AV), xs[j]? = some x → xs[k]? = some y → j ≠ k → x.bid = none ∨ x.bid ≠ y.bid) (hd0 : ∀ (j : Nat) (x : AV), xs[j]? = some x → x.bid ≠ some idr) (hl : xs.length ≤ 4611686018427)
    (Q : AV → AH → Prop) (h : ∀ σ', Els σ σ' xs → Q (.bool true) σ') : CallS Try.prog F.joistlaw01_Owned [.rsl idr gr 0 xs.length none] σ Q := by
  have key : ∀ (m k : Nat) (σ1 : AH), m = xs.length - k → k ≤ xs.length → RvI σ σ1 xs k → CallS Try.prog F.joistlaw01_Owned [.rsl idr gr 0 xs.length none] σ1 Q := by
    intro m
    induction m with
    | zero =>
      intro k σ1 hm hk hI
      have hkl : k = xs.length := by omega
      have hch : ∀ j : Nat, ∃ n : Nat, ∀ x, xs[j]? = some x → n ≤ 9223372036854775807 ∧ ∃ els, els.length = n ∧ OwnF σ1 x els := by
        intro j
        cases hj : xs[j]? with
        | none => exact ⟨0, fun x hx => by cases hx⟩
        | some x =>
          obtain ⟨els, h1, h2⟩ := hI.full j x hj (by rw [hkl]; exact (List.getElem?_eq_some_iff.1 hj).1)
          exact ⟨els.length, fun y hy => by cases hy; exact ⟨h1, els, rfl, h2⟩⟩
      obtain ⟨ns, hns⟩ := Classical.axiomOfChoice hch
      refine Owned_val σ1 xs idr gr pu wr fu (hI.els.2 _ _ hr hd0) ns (fun j x hj => (hns j x hj).2) hd hd0 hl (fun j hj => (hns j _ (List.getElem?_eq_getElem hj)).1) Q ?_
      intro σ' hσ'
      exact h σ' ⟨Nat.le_trans hI.els.1 hσ'.1, fun id b hb hn => hσ'.2 id b (hI.els.2 id b hb hn) hn⟩
    | succ m ih =>
      intro k σ1 hm hk hI
      have hkl : k < xs.length := by omega
      have hxk : xs[k]? = some xs[k] := List.getElem?_eq_getElem hkl
      obtain ⟨rows, hrow⟩ := hI.rest k _ hxk (Nat.le_refl _)
      rcases hrow with ⟨hx, rfl⟩ | ⟨id, gen, sp, hx, hb⟩
      · refine ih (k + 1) σ1 (by omega) (by omega) ⟨hI.els, ?_, fun j x hj hkj => hI.rest j x hj (by omega)⟩
        intro j x hj hlt
        by_cases e : j = k
        · subst e
          rw [hxk] at hj; cases hj
          exact ⟨[], by simp, .inl ⟨hx, rfl⟩⟩
        · exact hI.full j x hj (by omega)
      · refine CallS.reveal (bodied_of fc_joistlaw01_Owned_ok) hb fun n hn hone => ih (k + 1) _ (by omega) (by omega) ⟨⟨by simpa using hI.els.1, ?_⟩, ?_, ?_⟩
        · intro i b hbi hne
          exact get_set_ne (fun e => hne k _ hxk (by rw [hx, ← e]; rfl)) (hI.els.2 i b hbi hne)
        · intro j x hj hlt
          by_cases e : j = k
          · subst e
            rw [hxk] at hj; cases hj
            refine ⟨_, ?_, .inr ⟨id, gen, _, hx, ?_, ?_, get_set hb⟩⟩
            · simp only [List.length_append, List.length_replicate] at hn ⊢; omega
            · simp
            · intro r hr
              rcases List.mem_append.1 hr with q | q
              · exact hone r q
              · rw [(List.mem_replicate.1 q).2]; rfl
          · obtain ⟨els, h1, h2⟩ := hI.full j x hj (by omega)
            refine ⟨els, h1, h2.set ?_ _⟩
            rcases hd j k _ _ hj hxk e with q | q
            · rw [q]; simp
            · rw [hx] at q; exact q
        · intro j x hj hkj
          obtain ⟨rows', h2⟩ := hI.rest j x hj (by omega)
          refine ⟨rows', h2.keep (Gr.set _ _ _) ?_⟩
          rcases hd j k _ _ hj hxk (by omega) with q | q
          · exact .inl q
          · rw [hx] at q; exact .inr fun e => q e.symm
  exact key _ 0 σ rfl (Nat.zero_le _) ⟨Els.refl _ _, fun j x hj hlt => by omega, fun j x hj _ => ho j x hj⟩
/-- What stands behind it. -/
theorem Own.els {σ σ' : AH} {xs : List AV} (h : Els σ σ' xs) {sz : Nat} {x : AV} {rows : List (List AV)} (ho : Own σ sz x rows) (hd : ∀ (j : Nat) (y : AV), xs[j]? = some y → x.bid = none ∨ y.bid ≠ x.bid) : Own σ' sz x rows := by
  rcases ho with ⟨rfl, h'⟩ | ⟨id, gen, sp, rfl, hb⟩
  · exact .inl ⟨rfl, h'⟩
  · refine .inr ⟨id, gen, sp, rfl, h.2 _ _ hb fun j y hj e => ?_⟩
    rcases hd j y hj with q | q
    · cases q
    · exact q e
end Go.Proofs.Ytppccaacbpkgiaa

namespace Go.Proofs.Ytppccaacbpkgiaa
open Go Go.Proofs.Ytppccaacbpkgiaa.V
set_option maxRecDepth 20000
attribute [local irreducible] CallS AOK AOKn ALoop Side Ref.ok
/-! ### Words, plain -/
def wd (s : List UInt8) (i : Nat) : List UInt8 := (s.drop (i * 8)).take 8
def val : List UInt8 → Nat
  | [] => 0
  | b :: w => b.toNat + 256 * val w
def okW (w : List UInt8) : Bool := decide ((w.getD 7 0).toNat < 64)
def le : Nat → Nat → List UInt8
  | 0, _ => []
  | k + 1, n => UInt8.ofNat n :: le k (n / 256)
theorem le_length : ∀ (k n : Nat), (le k n).length = k
  | 0, _ => rfl
  | k + 1, n => by simp [le, le_length k]
theorem le_get : ∀ (k n j : Nat), j < k → (le k n)[j]? = some (UInt8.ofNat (n / 256 ^ j))
  | 0, n, j, h => by omega
  | k + 1, n, 0, h => by simp [le]
  | k + 1, n, j + 1, h => by
    simp only [le, List.getElem?_cons_succ]
    rw [le_get k (n / 256) j (by omega), Nat.div_div_eq_div_mul, Nat.pow_succ, Nat.mul_comm]
theorem val_lt : ∀ w : List UInt8, val w < 256 ^ w.length
  | [] => by simp [val]
  | b :: w => by
    have h1 := val_lt w
    have h2 := b.toNat_lt
    simp only [val, List.length_cons, Nat.pow_succ]
    omega
theorem val_top : ∀ (w : List UInt8) (m : Nat), w.length = m + 1 → (w.getD m 0).toNat < 64 → val w < 64 * 256 ^ m
  | [b], 0, _, h => by simpa [val] using h
  | b :: c :: w, m + 1, hl, h => by
    have h1 := val_top (c :: w) m (by simpa using hl) (by simpa using h)
    have h2 := b.toNat_lt
    simp only [val, Nat.pow_succ] at h1 ⊢
    omega
theorem val_le : ∀ (k n : Nat), val (le k n) = n % 256 ^ k
  | 0, n => by simp [le, val, Nat.mod_one]
  | k + 1, n => by
    simp only [le, val, val_le k]
    rw [UInt8.toNat_ofNat', show 256 ^ (k + 1) = 256 * 256 ^ k from by rw [Nat.pow_succ, Nat.mul_comm], Nat.mod_mul]
theorem le_val : ∀ (w : List UInt8), le w.length (val w) = w
  | [] => rfl
  | b :: w => by
    have h := b.toNat_lt
    simp only [val, le, List.length_cons, List.cons.injEq]
    refine ⟨?_, ?_⟩
    · apply UInt8.toNat_inj.1
      rw [UInt8.toNat_ofNat']
      omega
    · rw [show (b.toNat + 256 * val w) / 256 = val w from by omega]
      exact le_val w
theorem byte_at (n i : Nat) (hi : i < 8) : ((n : Int).fdiv (2 ^ min (8 * (i : Int)).toNat IntKind.i64.bits) % 256) = ((UInt8.ofNat (n / 256 ^ i)).toNat : Int) := by
  have e1 : min (8 * (i : Int)).toNat IntKind.i64.bits = 8 * i := by
    show min (8 * (i : Int)).toNat 64 = 8 * i
    omega
  have e2 : (2 : Int) ^ (8 * i) = ((256 ^ i : Nat) : Int) := by
    rw [Int.pow_mul]; norm_cast
  rw [e1, e2, fdiv_nat, UInt8.toNat_ofNat']
  norm_cast
theorem set_mid {α : Type} (A B : List α) (k : Nat) (b c : α) (h : k = A.length) : (A ++ c :: B).set k b = A ++ b :: B := by
  subst h
  simp
theorem wr_step (s l : List UInt8) (off i : Nat) (b : UInt8) (hb : l[i]? = some b) (ho : off + i < s.length) : (s.take off ++ l.take i ++ s.drop (off + i)).set (off + i) b = s.take off ++ l.take (i + 1) ++ s.drop (off + (i + 1)) := by
  have hil := (List.getElem?_eq_some_iff.1 hb).1
  rw [List.drop_eq_getElem_cons ho, set_mid _ _ _ _ _ (by simp; omega), List.take_add_one, hb]
  simp [Nat.add_assoc]
theorem wd_length {s : List UInt8} {i : Nat} (h : i < s.length / 8) : (wd s i).length = 8 := by
  simp only [wd, List.length_take, List.length_drop]; omega
theorem val_drop {w : List UInt8} {j : Nat} {b : UInt8} (h : w[j]? = some b) : val (w.drop j) = b.toNat + 256 * val (w.drop (j + 1)) := by
  have hlt := (List.getElem?_eq_some_iff.1 h).1
  have e := (List.getElem?_eq_some_iff.1 h).2
  rw [List.drop_eq_getElem_cons hlt, e]
  rfl
def inR (s : List UInt8) (at' : Int) : Bool := decide (0 ≤ at' ∧ at' < (s.length : Int) / 8)
def getOk (s : List UInt8) (at' : Int) : Bool := inR s at' && okW (wd s at'.toNat)
def getV (s : List UInt8) (at' : Int) : Nat := if getOk s at' then val (wd s at'.toNat) else 0
def mayW (n : Int) : Bool := decide (0 ≤ n ∧ n ≤ 4611686018427387903)
def putE (s : List UInt8) (at' n : Int) : Int := if inR s at' then (if mayW n then 0 else 4) else 1
def put1 (s : List UInt8) (i n : Nat) : List UInt8 := s.take (i * 8) ++ le 8 n ++ s.drop (i * 8 + 8)
def putR (s : List UInt8) (at' n : Int) : List UInt8 := if putE s at' n = 0 then put1 s at'.toNat n.toNat else []
def cat (l : List Int) : List UInt8 := (l.map fun n => le 8 n.toNat).flatten
def ofE (l : List Int) : Int := if l.all mayW then 0 else 4
def ofR (l : List Int) : List UInt8 := if l.all mayW then cat l else []
def vals (s : List UInt8) (k : Nat) : List Int := (List.range k).map fun i => (val (wd s i) : Int)
def allOk (s : List UInt8) : Bool := decide (s.length % 8 = 0) && (List.range (s.length / 8)).all fun i => okW (wd s i)
def allR (s : List UInt8) : List Int := if allOk s then vals s (s.length / 8) else []
theorem put1_length (s : List UInt8) (i n : Nat) (h : i * 8 + 8 ≤ s.length) : (put1 s i n).length = s.length := by
  simp [put1, le_length]; omega
theorem cat_append (l m : List Int) : cat (l ++ m) = cat l ++ cat m := by simp [cat]
theorem cat_one (n : Int) : cat [n] = le 8 n.toNat := by simp [cat]
theorem cat_length : ∀ l : List Int, (cat l).length = l.length * 8
  | [] => rfl
  | n :: l => by
    have : cat (n :: l) = le 8 n.toNat ++ cat l := rfl
    rw [this, List.length_append, le_length, cat_length l, List.length_cons]; omega
/-- What stands after k of the words. -/
def ofK (l : List Int) (k : Nat) : List UInt8 := cat (l.take k) ++ List.replicate ((l.length - k) * 8) 0
theorem ofK_length (l : List Int) (k : Nat) (h : k ≤ l.length) : (ofK l k).length = l.length * 8 := by
  simp [ofK, cat_length]; omega
theorem ofK_succ (l : List Int) (k : Nat) (n : Int) (h : l[k]? = some n) : put1 (ofK l k) k n.toNat = ofK l (k + 1) := by
  have hk := (List.getElem?_eq_some_iff.1 h).1
  have e0 : (cat (l.take k)).length = k * 8 := by rw [cat_length, List.length_take]; omega
  unfold put1 ofK
  rw [List.take_append_of_le_length (by omega), List.take_of_length_le (by omega), List.drop_append, List.drop_of_length_le (by omega), List.take_add_one, h]
  simp only [Option.toList_some, cat_append, cat_one, List.nil_append, List.drop_replicate, e0]
  congr 2
  omega
/-! ### The functions -/
theorem may_val (σ : AH) (n : Int) (Q : AV → AH → Prop) (h1 : mayW n = true → Q (.bool true) σ) (h2 : mayW n = false → Q (.bool false) σ) : CallS Try.prog F.words_may [.int .i64 n] σ Q := by
  refine call_of_body mixed fc_words_may_ok (by simp [fc_words_may]) ?_
  repeat' (first
    | ((conv => whnf) <;> (first
    | (with_reducible refine and_same ?_)
    | (with_reducible refine Br.mk (fun _ => ?_) (fun _ => ?_))
    ))
    )
  all_goals (conv => whnf)
  all_goals (try dsimp only)
  all_goals first
    | exact h1 (by simp only [mayW, decide_eq_true_eq]; omega)
    | exact h2 (by simp only [mayW, decide_eq_false_iff_not]; omega)
theorem place_val (σ : AH) (s : List UInt8) (fr : Bool) (at' : Int) (hs : s.length ≤ 4611686018427) (Q : AV → AH → Prop) (h1 : (at' < 0 ∨ (s.length : Int) / 8 ≤ at') → Q .nils σ) (h2 : 0 ≤ at' → at' < (s.length : Int) / 8 → Q (.sl 1 (bs (wd s at'.toNat)) fr) σ) :
    CallS Try.prog F.words_place [.sl 1 (bs s) fr, .int .i64 at'] σ Q := by
  have hn := bs_length s
  refine call_of_body mixed fc_words_place_ok (by simp [fc_words_place]) ?_
  repeat' (first
    | ((with_reducible refine Side.intro ?_) <;> (first
    | omega
    ))
    | ((conv => whnf) <;> (first
    | (with_reducible refine and_same ?_)
    | (with_reducible refine and_side ?_ ?_)
    | ((with_reducible apply Br.yes) ; (focus omega))
    | (with_reducible refine Br.mk (fun _ => ?_) (fun _ => ?_))
    | (with_reducible refine SliceW.of ?_)
    | (with_reducible refine lenR_sl ?_)
    ))
    )
  all_goals (conv => whnf)
  all_goals (try dsimp only)
  · exact h1 (by omega)
  · exact h1 (by omega)
  · have := h2 (by omega) (by omega)
    have e1 : (at' * 8 + 8).toNat = at'.toNat * 8 + 8 := by omega
    have e2 : (at' * 8).toNat = at'.toNat * 8 := by omega
    rw [bs_take, bs_drop, e1, e2, List.drop_take, show at'.toNat * 8 + 8 - at'.toNat * 8 = 8 from by omega]
    exact this
theorem place_own (σ : AH) (id gen n : Nat) (b : Blk) (at' : Int) (h0 : 0 ≤ at') (h1 : at' < (n : Int) / 8) (hn : n ≤ 4611686018427) (hb : σ[id]? = some b) (hg : b.gen = gen) (hs : b.sz = 1) (hbe : b.ext = none) (Q : AV → AH → Prop) (h : Q (.rsl id gen (at'.toNat * 8) 8 none) σ) :
    CallS Try.prog F.words_place [.rsl id gen 0 n none, .int .i64 at'] σ Q := by
  refine call_of_body mixed fc_words_place_ok (by simp [fc_words_place]) ?_
  repeat' (first
    | ((with_reducible refine Side.intro ?_) <;> (first
    | omega
    ))
    | ((conv => whnf) <;> (first
    | (with_reducible refine and_same ?_)
    | (with_reducible refine and_side ?_ ?_)
    | ((with_reducible apply Br.yes) ; (focus omega))
    | ((with_reducible apply Br.no) ; (focus omega))
    | ((with_reducible apply blkAt_step) ; (focus (first
    | ((repeat (first
    | assumption
    )); done)
    )) ; (focus (first | rfl | assumption | omega)) ; (focus (first | rfl | assumption)) ; (try dsimp only))
    | (with_reducible refine SliceW.of ?_)
    | (with_reducible refine lenR_rsl ?_)
    ))
    )
  all_goals (conv => whnf)
  all_goals (try dsimp only)
  have e1 : (at' * 8 + 8).toNat - (at' * 8).toNat = 8 := by omega
  have e2 : 0 + (at' * 8).toNat = at'.toNat * 8 := by omega
  rw [e1, e2]
  exact h
theorem read_ok (w : List UInt8) (hw : w.length = 8) : AOKn Try.prog F.words_read [.sl 1 (bs w) false] fun y => y = .tup [.int .i64 (if okW w then val w else 0 : Nat), .bool (okW w)] := by
  have hn := bs_length w
  obtain ⟨b7, h7⟩ : ∃ b, w[Int.toNat 7]? = some b := ⟨w[7], by simp [hw]⟩
  have h7l := b7.toNat_lt
  have hk : okW w = decide (b7.toNat < 64) := by
    unfold okW
    rw [List.getD_eq_getElem?_getD]
    have : w[7]? = some b7 := h7
    rw [this]; rfl
  refine AOKn.by_steps mixed fc_words_read_ok (by simp [fc_words_read]) ?_
  repeat' (first
    | ((with_reducible refine Side.intro ?_) <;> (first
    | omega
    | (simp only [List.append_nil, List.nil_append, List.map_nil]; first | exact List.nodup_nil | exact nodup_bid1 _ | exact nodup_bid2 (by assumption))
    | ((first | refine fresh_tup ?_ | skip); (repeat (first |  exact FreshA.sl _ _ FreshA_bs | exact FreshA.sl _ _ FreshA_is | exact FreshA.nils | exact FreshA.nilp | exact FreshA.int _ _ | exact FreshA.bool _ | exact FreshA.str _ | exact fresh_nil | refine fresh_cons ?_ ?_ | with_reducible refine fresh_aggR ?_ | with_reducible refine fresh_agg ?_ | with_reducible exact fresh_nilA | with_reducible refine fresh_consA ?_ ?_)); done)
    ))
    | ((conv => whnf) <;> (first
    | (with_reducible refine and_same ?_)
    | (with_reducible refine and_side ?_ ?_)
    | (with_reducible refine Br.mk (fun _ => ?_) (fun _ => ?_))
    | ((with_reducible apply nthR_bs1) ; (focus assumption))
    | (with_reducible refine ia_sl ?_ ?_)
    | (with_reducible refine NOut.lit ?_)
    ))
    )
  all_goals (conv => whnf)
  all_goals (try dsimp only)
  · refine ret_same ?_
    rw [hk, decide_eq_false (by omega)]; rfl
  refine loop_at (α := Nat) (fun a => [(2, .int .i64 (val (w.drop (8 - a)))), (9, .int .i64 a)]) (fun a => []) (fun a => a ≤ 8) (fun a => 8 - a) 0 (by omega) (by simp [Fr.upd, Fr.pick, List.drop_of_length_le, hw, val]) rfl ?_
  intro i hi
  repeat' (first
    | ((with_reducible refine Side.intro ?_) <;> (first
    | omega
    | (simp only [List.append_nil, List.nil_append, List.map_nil]; first | exact List.nodup_nil | exact nodup_bid1 _ | exact nodup_bid2 (by assumption))
    | ((first | refine fresh_tup ?_ | skip); (repeat (first |  exact FreshA.sl _ _ FreshA_bs | exact FreshA.sl _ _ FreshA_is | exact FreshA.nils | exact FreshA.nilp | exact FreshA.int _ _ | exact FreshA.bool _ | exact FreshA.str _ | exact fresh_nil | refine fresh_cons ?_ ?_ | with_reducible refine fresh_aggR ?_ | with_reducible refine fresh_agg ?_ | with_reducible exact fresh_nilA | with_reducible refine fresh_consA ?_ ?_)); done)
    ))
    | ((conv => whnf) <;> (first
    | (with_reducible refine and_same ?_)
    | (with_reducible refine and_side ?_ ?_)
    | ((with_reducible apply Br.yes) ; (focus omega))
    | (with_reducible refine Br.mk (fun _ => ?_) (fun _ => ?_))
    | (with_reducible refine ia_sl ?_ ?_)
    | (with_reducible refine NOut.lit ?_)
    | ((with_reducible apply nthR_bs) ; (focus (first | omega | (simp only [List.length_append, List.length_cons, List.length_nil, List.length_take, List.length_drop, bs_length]; omega))))
    | (with_reducible intro _)
    ))
    )
  all_goals (conv => whnf)
  all_goals (try dsimp only)
  · rename_i b hb hbl
    have hb1 : w[7 - i]? = some b := by rw [show 7 - i = (7 - (i : Int)).toNat from by omega]; exact hb
    have e1 := val_drop hb1
    have e2 := val_top (w.drop (7 - i)) i (by rw [List.length_drop, hw]; omega) (by
      rw [List.getD_eq_getElem?_getD, List.getElem?_drop, show 7 - i + i = Int.toNat 7 from by omega, h7]
      show b7.toNat < 64
      omega)
    have e3 : 64 * 256 ^ i ≤ 64 * 256 ^ 7 := Nat.mul_le_mul_left _ (Nat.pow_le_pow_right (by omega) (by omega))
    have e4 : 64 * 256 ^ 7 = 4611686018427387904 := by decide
    rw [show 7 - i + 1 = 8 - i from by omega] at e1
    refine ⟨i + 1, ?_, rfl, by omega, by omega⟩
    rw [shl_or (c := b.toNat) (n := val (w.drop (8 - i))) rfl rfl hbl (by omega)]
    rw [show 8 - (i + 1) = 7 - i from by omega, e1, Nat.add_comm, Nat.mul_comm]
    rfl
  · refine ret_same ?_
    rw [hk, decide_eq_true (by omega), show 8 - i = 0 from by omega]; rfl
theorem write_own (σ : AH) (id gen off : Nat) (s : List UInt8) (sp : List (List AV)) (pu fu : Bool) (n : Nat) (hn : n < 4611686018427387904) (ho : off + 8 ≤ s.length) (hs : s.length ≤ 4611686018427) (hb : σ[id]? = some { sz := 1, els := bs s ++ sp, gen := gen, wr := true, pure := pu, full := fu }) (Q : AV → AH → Prop)
    (h : Q (.tup []) (σ.set id { sz := 1, els := bs (s.take off ++ le 8 n ++ s.drop (off + 8)) ++ sp, gen := gen, wr := true, pure := pu, full := fu })) :
    CallS Try.prog F.words_write [.rsl id gen off 8 none, .int .i64 n] σ Q := by
  refine call_of_body mixed fc_words_write_ok (by simp [fc_words_write]) ?_
  skip
  all_goals (conv => whnf)
  all_goals (try dsimp only)
  refine loop_at (α := Nat) (fun a => [(5, .int .i64 a)]) (fun a => σ.set id { sz := 1, els := bs (s.take off ++ (le 8 n).take a ++ s.drop (off + a)) ++ sp, gen := gen, wr := true, pure := pu, full := fu }) (fun a => a ≤ 8) (fun a => 8 - a) 0 (by omega) rfl (by (try dsimp only); rw [List.take_zero, List.append_nil, Nat.add_zero, List.take_append_drop]; exact set_same hb) ?_
  intro i hi
  have hl : (bs (s.take off ++ (le 8 n).take i ++ s.drop (off + i))).length = s.length := by
    simp [bs_length, le_length]; omega
  have hb2 : (σ.set id { sz := 1, els := bs (s.take off ++ (le 8 n).take i ++ s.drop (off + i)) ++ sp, gen := gen, wr := true, pure := pu, full := fu })[id]? = some { sz := 1, els := bs (s.take off ++ (le 8 n).take i ++ s.drop (off + i)) ++ sp, gen := gen, wr := true, pure := pu, full := fu } := get_set hb
  repeat' (first
    | ((with_reducible refine Side.intro ?_) <;> (first
    | omega
    | exact rfl
    ))
    | ((conv => whnf) <;> (first
    | (with_reducible refine and_same ?_)
    | (with_reducible refine and_side ?_ ?_)
    | ((with_reducible apply Br.yes) ; (focus omega))
    | (with_reducible refine Br.mk (fun _ => ?_) (fun _ => ?_))
    | ((with_reducible apply blkAt_step) ; (focus (first
    | ((repeat (first
    | assumption
    )); done)
    )) ; (focus (first | rfl | assumption | omega)) ; (focus (first | rfl | assumption)) ; (try dsimp only))
    | (with_reducible refine IaW.of ?_)
    | ((with_reducible apply nthR_left) ; (focus (first | omega | (simp only [List.length_append, List.length_cons, List.length_nil, List.length_take, List.length_drop, bs_length]; omega))))
    ))
    )
  all_goals (conv => whnf)
  all_goals (try dsimp only)
  · refine nthR_bs (by rw [bs_length] at hl; omega) (fun b hb _ => ?_)
    repeat' (first
      | ((with_reducible refine Side.intro ?_) <;> (first
      | exact Nat.le_of_ble_eq_true rfl
      ))
      | ((conv => whnf) <;> (first
      | (with_reducible refine and_same ?_)
      | (with_reducible refine and_side ?_ ?_)
      | ((with_reducible apply Br.yes) ; (focus omega))
      ))
      )
    all_goals (conv => whnf)
    all_goals (try dsimp only)
    have hil : (le 8 n)[i]? = some (UInt8.ofNat (n / 256 ^ i)) := le_get 8 n i (by omega)
    refine ⟨i + 1, rfl, ?_, by omega, by omega⟩
    rw [byte_at n i (by omega), List.set_set, Int.toNat_natCast, List.set_append_left _ _ (by rw [hl]; omega), bs_set, wr_step s _ off i _ hil (by omega)]
    cases pu <;> rfl
  · have e8 : i = 8 := by omega
    subst e8
    rw [List.take_of_length_le (l := le 8 n) (by rw [le_length]; exact Nat.le_refl _)]
    exact h
theorem words_Get_ok (s : List UInt8) (at' : Int) (hs : s.length ≤ 4611686018427) : AOKn Try.prog F.words_Get [.sl 1 (bs s) false, .int .i64 at'] fun y => y = .tup [.int .i64 (getV s at'), .bool (getOk s at')] := by
  have hn := bs_length s
  refine AOKn.by_steps mixed fc_words_Get_ok (by simp [fc_words_Get]) ?_
  skip
  all_goals (conv => whnf)
  all_goals (try dsimp only)
  refine place_val _ s false at' hs _ (fun h => ?_) (fun h0 h1 => ?_)
  · have hi : getOk s at' = false := by
      have : inR s at' = false := by simp only [inR, decide_eq_false_iff_not]; omega
      simp [getOk, this]
    repeat' (first
      | ((with_reducible refine Side.intro ?_) <;> (first
      | (simp only [List.append_nil, List.nil_append, List.map_nil]; first | exact List.nodup_nil | exact nodup_bid1 _ | exact nodup_bid2 (by assumption))
      | ((first | refine fresh_tup ?_ | skip); (repeat (first |  exact FreshA.sl _ _ FreshA_bs | exact FreshA.sl _ _ FreshA_is | exact FreshA.nils | exact FreshA.nilp | exact FreshA.int _ _ | exact FreshA.bool _ | exact FreshA.str _ | exact fresh_nil | refine fresh_cons ?_ ?_ | with_reducible refine fresh_aggR ?_ | with_reducible refine fresh_agg ?_ | with_reducible exact fresh_nilA | with_reducible refine fresh_consA ?_ ?_)); done)
      ))
      | ((conv => whnf) <;> (first
      | (with_reducible refine and_side ?_ ?_)
      | (with_reducible refine EqnW.of ?_)
      | (with_reducible refine NOut.lit ?_)
      ))
      )
    all_goals (conv => whnf)
    all_goals (try dsimp only)
    refine ret_same ?_
    simp [getV, hi]
  · have hi : inR s at' = true := by simp only [inR, decide_eq_true_eq]; omega
    have hl := wd_length (s := s) (i := at'.toNat) (by omega)
    have hl2 := bs_length (wd s at'.toNat)
    have hne : ¬ bs (wd s at'.toNat) = [] := fun h => by rw [h] at hl2; simp at hl2; omega
    repeat' (first
      | ((conv => whnf) <;> (first
      | ((with_reducible apply Br.no) ; (focus omega))
      | (with_reducible refine EqnW.of ?_)
      ))
      )
    all_goals (conv => whnf)
    all_goals (try dsimp only)
    refine (read_ok _ hl).call (.cons (.bs _ _ _) .nil) ?_
    rintro _ x σ1 rfl hg hG
    obtain ⟨x1, x2, rfl, h1, h2, -⟩ := hG.two
    rw [h1.same_inv rfl, h2.same_inv rfl]
    repeat' (first
      | ((with_reducible refine Side.intro ?_) <;> (first
      | (simp only [List.append_nil, List.nil_append, List.map_nil]; first | exact List.nodup_nil | exact nodup_bid1 _ | exact nodup_bid2 (by assumption))
      | ((first | refine fresh_tup ?_ | skip); (repeat (first |  exact FreshA.sl _ _ FreshA_bs | exact FreshA.sl _ _ FreshA_is | exact FreshA.nils | exact FreshA.nilp | exact FreshA.int _ _ | exact FreshA.bool _ | exact FreshA.str _ | exact fresh_nil | refine fresh_cons ?_ ?_ | with_reducible refine fresh_aggR ?_ | with_reducible refine fresh_agg ?_ | with_reducible exact fresh_nilA | with_reducible refine fresh_consA ?_ ?_)); done)
      ))
      | ((conv => whnf) <;> (first
      | (with_reducible refine and_side ?_ ?_)
      | (with_reducible refine NOut.lit ?_)
      ))
      )
    all_goals (conv => whnf)
    all_goals (try dsimp only)
    refine ret_same ?_
    simp [getV, getOk, hi]
theorem words_Of_ok (l : List Int) (hs : l.length ≤ 461168601842) : AOKn Try.prog F.words_Of [.sl 1 (is l) false] fun y => y = .tup [.sl 1 (bs (ofR l)) true, .int .i64 (ofE l)] := by
  have hn : (is l).length = l.length := by simp [is]
  refine AOKn.by_steps mixed fc_words_Of_ok (by simp [fc_words_Of]) ?_
  repeat' (first
    | ((with_reducible refine Side.intro ?_) <;> (first
    | omega
    ))
    | ((conv => whnf) <;> (first
    | (with_reducible refine and_same ?_)
    | (with_reducible refine and_side ?_ ?_)
    | ((with_reducible apply Br.yes) ; (focus omega))
    | (with_reducible refine lenR_sl ?_)
    ))
    )
  all_goals (conv => whnf)
  all_goals (try dsimp only)
  have el : (((is l).length : Int) * 8).toNat = l.length * 8 := by omega
  refine loop_at (α := Nat) (fun a => [(4, .rsl 0 0 0 (l.length * 8) none), (13, .int .i64 a)]) (fun a => newB [] 1 (bs (ofK l a)) true) (fun a => a ≤ l.length ∧ (l.take a).all mayW = true) (fun a => l.length - a) 0 ⟨by omega, by simp⟩ (by rw [el]; rfl) (by rw [el]; simp [ofK, cat, bs_replicate]; rfl) ?_
  rintro k ⟨hk, hall⟩
  have hkl := ofK_length l k hk
  have hkb := bs_length (ofK l k)
  by_cases hlt : k < l.length
  · obtain ⟨p, hp, hp'⟩ := getN hlt
    repeat' (first
      | ((with_reducible refine Side.intro ?_) <;> (first
      | omega
      ))
      | ((conv => whnf) <;> (first
      | (with_reducible refine and_same ?_)
      | ((with_reducible apply Br.yes) ; (focus omega))
      | ((with_reducible apply nthR_is1) ; (focus assumption))
      | (with_reducible refine ia_sl ?_ ?_)
      ))
      )
    all_goals (conv => whnf)
    all_goals (try dsimp only)
    refine may_val _ p _ (fun hm => ?_) (fun hm => ?_)
    · have hm' : 0 ≤ p ∧ p ≤ 4611686018427387903 := by simpa [mayW] using hm
      skip
      all_goals (conv => whnf)
      all_goals (try dsimp only)
      refine place_own _ 0 0 (l.length * 8) _ k (by omega) (by omega) (by omega) rfl rfl rfl rfl _ ?_
      skip
      all_goals (conv => whnf)
      all_goals (try dsimp only)
      have hnn : p = (p.toNat : Int) := by omega
      rw [hnn]
      refine write_own _ 0 0 ((k : Int).toNat * 8) (ofK l k) [] _ _ p.toNat (by omega) (by omega) (by omega) (by simp [newB]; exact ⟨rfl, rfl⟩) _ ?_
      repeat' (first
        | ((conv => whnf) <;> (first
        | (with_reducible refine and_same ?_)
        | ((with_reducible apply Br.yes) ; (focus omega))
        ))
        )
      all_goals (conv => whnf)
      all_goals (try dsimp only)
      refine ⟨k + 1, rfl, ?_, ⟨by omega, ?_⟩, by omega⟩
      · have hs := ofK_succ l k p hp'
        unfold put1 at hs
        rw [Int.toNat_natCast, List.append_nil, hs]
        rfl
      · rw [List.take_add_one, hp', List.all_append, hall]
        simp [hm]
    · have e1 : l.all mayW = false := by
        rw [List.all_eq_false]
        exact ⟨p, List.mem_of_getElem? hp', by simp [hm]⟩
      repeat' (first
        | ((with_reducible refine Side.intro ?_) <;> (first
        | (simp only [List.append_nil, List.nil_append, List.map_nil]; first | exact List.nodup_nil | exact nodup_bid1 _ | exact nodup_bid2 (by assumption))
        | ((first | refine fresh_tup ?_ | skip); (repeat (first |  exact FreshA.sl _ _ FreshA_bs | exact FreshA.sl _ _ FreshA_is | exact FreshA.nils | exact FreshA.nilp | exact FreshA.int _ _ | exact FreshA.bool _ | exact FreshA.str _ | exact fresh_nil | refine fresh_cons ?_ ?_ | with_reducible refine fresh_aggR ?_ | with_reducible refine fresh_agg ?_ | with_reducible exact fresh_nilA | with_reducible refine fresh_consA ?_ ?_)); done)
        ))
        | ((conv => whnf) <;> (first
        | (with_reducible refine and_side ?_ ?_)
        | (with_reducible refine NOut.lit ?_)
        ))
        )
      all_goals (conv => whnf)
      all_goals (try dsimp only)
      rw [ofR, ofE, e1]
      exact ret_nilt rfl
  · have hkn : k = l.length := by omega
    subst hkn
    rw [List.take_length] at hall
    have e2 : List.take (l.length * 8) (bs (ofK l l.length)) = bs (cat l) := by
      rw [List.take_of_length_le (by omega)]
      simp [ofK]
    repeat' (first
      | ((with_reducible refine Side.intro ?_) <;> (first
      | omega
      | (simp; done)
      ))
      | ((conv => whnf) <;> (first
      | (with_reducible refine and_same ?_)
      | (with_reducible refine and_side ?_ ?_)
      | ((with_reducible apply Br.no) ; (focus omega))
      | ((with_reducible apply blkAt_step) ; (focus (first
      | exact rfl
      )) ; (focus (first | rfl | assumption | omega)) ; (focus (first | rfl | assumption)) ; (try dsimp only))
      | (with_reducible refine NOut.lit ?_)
      ))
      )
    all_goals (conv => whnf)
    all_goals (try dsimp only)
    · refine ret_same ?_
      rw [ofR, ofE, hall, e2]; rfl
    · rw [e2]
      exact Side.intro (fresh_cons (fresh_bs _) (fresh_cons (.int _ _) fresh_nil))
theorem words_Zero_ok (s : List UInt8) (hs : s.length ≤ 4611686018427) : AOKn Try.prog F.words_Zero [.sl 1 (bs s) false] fun y => y = .bool (s.all (· == 0)) := by
  have hn := bs_length s
  refine AOKn.by_steps mixed fc_words_Zero_ok (by simp [fc_words_Zero]) ?_
  repeat' (first
    | ((conv => whnf) <;> (first
    | (with_reducible refine lenR_sl ?_)
    ))
    )
  all_goals (conv => whnf)
  all_goals (try dsimp only)
  refine loop_at (α := Nat) (fun a => [(7, .int .i64 a)]) (fun a => []) (fun a => a ≤ s.length ∧ (s.take a).all (· == 0) = true) (fun a => s.length - a) 0 ⟨by omega, by simp⟩ rfl rfl ?_
  rintro k ⟨hk, hall⟩
  by_cases hlt : k < s.length
  · obtain ⟨p, hp, hp'⟩ := getN hlt
    by_cases h0 : (p.toNat : Int) = 0
    · repeat' (first
        | ((with_reducible refine Side.intro ?_) <;> (first
        | omega
        ))
        | ((conv => whnf) <;> (first
        | (with_reducible refine and_same ?_)
        | ((with_reducible apply Br.yes) ; (focus omega))
        | ((with_reducible apply Br.no) ; (focus omega))
        | ((with_reducible apply nthR_bs1) ; (focus assumption))
        | (with_reducible refine ia_sl ?_ ?_)
        ))
        )
      all_goals (conv => whnf)
      all_goals (try dsimp only)
      refine ⟨k + 1, rfl, rfl, ⟨by omega, ?_⟩, by omega⟩
      rw [List.take_add_one, hp', List.all_append, hall]
      have : p = 0 := UInt8.toNat_inj.1 (by show p.toNat = 0; omega)
      rw [this]; rfl
    · have e1 : s.all (· == 0) = false := by
        rw [List.all_eq_false]
        refine ⟨p, List.mem_of_getElem? hp', ?_⟩
        intro e
        rw [beq_iff_eq] at e
        rw [e] at h0
        exact h0 rfl
      rw [e1]
      repeat' (first
        | ((with_reducible refine Side.intro ?_) <;> (first
        | omega
        | (simp only [List.append_nil, List.nil_append, List.map_nil]; first | exact List.nodup_nil | exact nodup_bid1 _ | exact nodup_bid2 (by assumption))
        | ((first | refine fresh_tup ?_ | skip); (repeat (first |  exact FreshA.sl _ _ FreshA_bs | exact FreshA.sl _ _ FreshA_is | exact FreshA.nils | exact FreshA.nilp | exact FreshA.int _ _ | exact FreshA.bool _ | exact FreshA.str _ | exact fresh_nil | refine fresh_cons ?_ ?_ | with_reducible refine fresh_aggR ?_ | with_reducible refine fresh_agg ?_ | with_reducible exact fresh_nilA | with_reducible refine fresh_consA ?_ ?_)); done)
        ))
        | ((conv => whnf) <;> (first
        | (with_reducible refine and_same ?_)
        | (with_reducible refine and_side ?_ ?_)
        | ((with_reducible apply Br.yes) ; (focus omega))
        | ((with_reducible apply nthR_bs1) ; (focus assumption))
        | (with_reducible refine ia_sl ?_ ?_)
        | (with_reducible refine NOut.lit ?_)
        ))
        )
      all_goals (conv => whnf)
      all_goals (try dsimp only)
      exact ret_same rfl
  · have hkn : k = s.length := by omega
    subst hkn
    rw [List.take_length] at hall
    rw [hall]
    repeat' (first
      | ((with_reducible refine Side.intro ?_) <;> (first
      | (simp only [List.append_nil, List.nil_append, List.map_nil]; first | exact List.nodup_nil | exact nodup_bid1 _ | exact nodup_bid2 (by assumption))
      | ((first | refine fresh_tup ?_ | skip); (repeat (first |  exact FreshA.sl _ _ FreshA_bs | exact FreshA.sl _ _ FreshA_is | exact FreshA.nils | exact FreshA.nilp | exact FreshA.int _ _ | exact FreshA.bool _ | exact FreshA.str _ | exact fresh_nil | refine fresh_cons ?_ ?_ | with_reducible refine fresh_aggR ?_ | with_reducible refine fresh_agg ?_ | with_reducible exact fresh_nilA | with_reducible refine fresh_consA ?_ ?_)); done)
      ))
      | ((conv => whnf) <;> (first
      | (with_reducible refine and_same ?_)
      | (with_reducible refine and_side ?_ ?_)
      | ((with_reducible apply Br.no) ; (focus omega))
      | (with_reducible refine NOut.lit ?_)
      ))
      )
    all_goals (conv => whnf)
    all_goals (try dsimp only)
    exact ret_same rfl
end Go.Proofs.Ytppccaacbpkgiaa

namespace Go.Proofs.Ytppccaacbpkgiaa
open Go Go.Proofs.Ytppccaacbpkgiaa.V
set_option maxRecDepth 20000
attribute [local irreducible] CallS AOK AOKn ALoop Side Ref.ok
theorem Bytes_ok (n : Nat) (hn : n < 4611686018427387904) : AOKn Try.prog F.joistref01_Bytes [.int .i64 n] fun y => y = .sl 1 (bs (le 8 n)) true := by
  refine AOKn.by_steps mixed fc_joistref01_Bytes_ok (by simp [fc_joistref01_Bytes]) ?_
  skip
  all_goals (conv => whnf)
  all_goals (try dsimp only)
  refine loop_at (α := Nat × AH × AV) (fun a => [(0, .int .i64 (n / 256 ^ a.1 : Nat)), (3, a.2.2), (4, .int .i64 a.1)]) (fun a => a.2.1) (fun a => a.1 ≤ 8 ∧ Own a.2.1 1 a.2.2 (bs ((le 8 n).take a.1))) (fun a => 8 - a.1) (0, [], .nils) ⟨by omega, Own.nil _ _⟩ (by simp [Fr.upd, Fr.pick]) rfl ?_
  rintro ⟨k, σ, acc⟩ ⟨hk, hacc⟩
  dsimp only at hk hacc ⊢
  have hd : n / 256 ^ k ≤ n := Nat.div_le_self _ _
  have hlk : (bs ((le 8 n).take k)).length = k := by rw [bs_length, List.length_take, le_length]; omega
  generalize hm : n / 256 ^ k = m at *
  by_cases hlt : k < 8
  · repeat' (first
      | ((with_reducible refine Side.intro ?_) <;> (first
      | omega
      | exact Nat.le_of_ble_eq_true rfl
      | exact rfl
      ))
      | ((conv => whnf) <;> (first
      | (with_reducible refine and_same ?_)
      | (with_reducible refine and_side ?_ ?_)
      | ((with_reducible apply Br.yes) ; (focus omega))
      | ((with_reducible apply blkAt_step) ; (focus (first
      | ((repeat (first
      | exact get_new
      )); done)
      )) ; (focus (first | rfl | assumption | omega)) ; (focus (first | rfl | assumption)) ; (try dsimp only))
      | (with_reducible refine AppC.frz ?_)
      | (with_reducible refine rowsR_rsl ?_)
      ))
      )
    all_goals (conv => whnf)
    all_goals (try dsimp only)
    refine appendR_own (rows := bs ((le 8 n).take k)) (hacc.keepN (by (repeat (first
          | exact Gr.refl _ _
          | refine Gr.addN ?_ _
          )))) (by rw [hlk]; simp only [List.length_take, List.length_drop, List.length_set, List.length_replicate]; omega) ?_
    intro acc' σ' ho' hg' hb'
    repeat' (first
      | ((with_reducible refine Side.intro ?_) <;> (first
      | omega
      ))
      | ((conv => whnf) <;> (first
      | (with_reducible refine and_same ?_)
      | (with_reducible refine and_side ?_ ?_)
      | ((with_reducible apply Br.yes) ; (focus omega))
      ))
      )
    all_goals (conv => whnf)
    all_goals (try dsimp only)
    refine ⟨(k + 1, σ', acc'), ?_, rfl, ⟨by omega, ?_⟩, by omega⟩
    · dsimp only
      rw [Nat.pow_succ, ← Nat.div_div_eq_div_mul, hm]
      rfl
    · dsimp only
      rw [List.take_add_one, le_get 8 n k hlt, hm, ← bs_append]
      refine (cast (congrArg (fun r => Own σ' 1 acc' (_ ++ r)) ?_) ho')
      simp [bs, AV.cells]
  · have hk8 : k = 8 := by omega
    subst hk8
    rw [List.take_of_length_le (by rw [le_length]; exact Nat.le_refl _)] at hacc hlk
    obtain ⟨id, gen, sp, rfl, hb⟩ := hacc.ne (fun e => by rw [e] at hlk; simp at hlk)
    repeat' (first
      | ((with_reducible refine Side.intro ?_) <;> (first
      | ((first | refine fresh_tup ?_ | skip); (repeat (first |  exact FreshA.sl _ _ FreshA_bs | exact FreshA.sl _ _ FreshA_is | exact FreshA.nils | exact FreshA.nilp | exact FreshA.int _ _ | exact FreshA.bool _ | exact FreshA.str _ | exact fresh_nil | refine fresh_cons ?_ ?_ | with_reducible refine fresh_aggR ?_ | with_reducible refine fresh_agg ?_ | with_reducible exact fresh_nilA | with_reducible refine fresh_consA ?_ ?_)); done)
      ))
      | ((conv => whnf) <;> (first
      | (with_reducible refine and_same ?_)
      | (with_reducible refine and_side ?_ ?_)
      | ((with_reducible apply Br.no) ; (focus omega))
      | ((with_reducible apply NOut.own) ; (focus assumption))
      ))
      )
    all_goals (conv => whnf)
    all_goals (try dsimp only)
    all_goals (try rw [List.take_left])
    all_goals first
      | exact ret_same rfl
      | exact Side.intro (fresh_bs _)
      | exact Side.intro (nodup_bid1 _)
theorem ref_Get_ok (s : List UInt8) (at' : Int) (hs : s.length ≤ 4611686018427) : AOKn Try.prog F.joistref01_Get [.sl 1 (bs s) false, .int .i64 at'] fun y => y = .tup [.int .i64 (getV s at'), .bool (getOk s at')] := by
  have hn := bs_length s
  refine AOKn.by_steps mixed fc_joistref01_Get_ok (by simp [fc_joistref01_Get]) ?_
  by_cases hr : 0 ≤ at' ∧ at' < (s.length : Int) / 8
  · have hi : inR s at' = true := by simp only [inR, decide_eq_true_eq]; omega
    have hl := wd_length (s := s) (i := at'.toNat) (by omega)
    have hl2 := bs_length (wd s at'.toNat)
    have ew : List.drop (8 * at').toNat (List.take (8 * at' + 8).toNat (bs s)) = bs (wd s at'.toNat) := by
      rw [bs_take, bs_drop, List.drop_take, show (8 * at' + 8).toNat - (8 * at').toNat = 8 from by omega, show (8 * at').toNat = at'.toNat * 8 from by omega]; rfl
    repeat' (first
      | ((with_reducible refine Side.intro ?_) <;> (first
      | omega
      ))
      | ((conv => whnf) <;> (first
      | (with_reducible refine and_same ?_)
      | (with_reducible refine and_side ?_ ?_)
      | ((with_reducible apply Br.yes) ; (focus omega))
      | ((with_reducible apply Br.no) ; (focus omega))
      | (with_reducible refine ia_sl ?_ ?_)
      | (with_reducible refine SliceW.of ?_)
      | (with_reducible refine lenR_sl ?_)
      ))
      )
    all_goals (conv => whnf)
    all_goals (try dsimp only)
    rw [ew]
    generalize hw : wd s at'.toNat = w at *
    obtain ⟨b7, h7⟩ : ∃ b, w[Int.toNat 7]? = some b := ⟨w[7], by simp [hl]⟩
    have h7l := b7.toNat_lt
    have hk : okW w = decide (b7.toNat < 64) := by
      unfold okW
      rw [List.getD_eq_getElem?_getD]
      have : w[7]? = some b7 := h7
      rw [this]; rfl
    repeat' (first
      | ((with_reducible refine Side.intro ?_) <;> (first
      | (simp only [List.append_nil, List.nil_append, List.map_nil]; first | exact List.nodup_nil | exact nodup_bid1 _ | exact nodup_bid2 (by assumption))
      | ((first | refine fresh_tup ?_ | skip); (repeat (first |  exact FreshA.sl _ _ FreshA_bs | exact FreshA.sl _ _ FreshA_is | exact FreshA.nils | exact FreshA.nilp | exact FreshA.int _ _ | exact FreshA.bool _ | exact FreshA.str _ | exact fresh_nil | refine fresh_cons ?_ ?_ | with_reducible refine fresh_aggR ?_ | with_reducible refine fresh_agg ?_ | with_reducible exact fresh_nilA | with_reducible refine fresh_consA ?_ ?_)); done)
      ))
      | ((conv => whnf) <;> (first
      | (with_reducible refine and_same ?_)
      | (with_reducible refine and_side ?_ ?_)
      | (with_reducible refine Br.mk (fun _ => ?_) (fun _ => ?_))
      | ((with_reducible apply nthR_bs1) ; (focus assumption))
      | (with_reducible refine NOut.lit ?_)
      ))
      )
    all_goals (conv => whnf)
    all_goals (try dsimp only)
    · have hf : okW w = false := by rw [hk]; exact decide_eq_false (by omega)
      exact ret_same (by simp [getV, getOk, hi, hw, hf])
    refine loop_at (α := Nat) (fun a => [(7, .int .i64 (val (w.drop (8 - a)))), (8, .int .i64 (7 - (a : Int)))]) (fun a => []) (fun a => a ≤ 8) (fun a => 8 - a) 0 (by omega) (by simp [Fr.upd, Fr.pick, List.drop_of_length_le, hl, val]) rfl ?_
    intro i hi8
    by_cases hlt : i < 8
    · obtain ⟨b, hb⟩ : ∃ b, w[(7 - (i : Int)).toNat]? = some b := ⟨w[(7 - (i : Int)).toNat]'(by omega), by simp⟩
      have hbl := b.toNat_lt
      have hb1 : w[7 - i]? = some b := by rw [show 7 - i = (7 - (i : Int)).toNat from by omega]; exact hb
      have e1 := val_drop hb1
      have e2 := val_top (w.drop (7 - i)) i (by rw [List.length_drop, hl]; omega) (by
        rw [List.getD_eq_getElem?_getD, List.getElem?_drop, show 7 - i + i = Int.toNat 7 from by omega, h7]
        show b7.toNat < 64
        omega)
      have e3 : 64 * 256 ^ i ≤ 64 * 256 ^ 7 := Nat.mul_le_mul_left _ (Nat.pow_le_pow_right (by omega) (by omega))
      have e4 : 64 * 256 ^ 7 = 4611686018427387904 := by decide
      rw [show 7 - i + 1 = 8 - i from by omega] at e1
      have e5 : val (w.drop (7 - i)) < 4611686018427387904 := by omega
      repeat' (first
        | ((with_reducible refine Side.intro ?_) <;> (first
        | omega
        ))
        | ((conv => whnf) <;> (first
        | (with_reducible refine and_same ?_)
        | ((with_reducible apply Br.yes) ; (focus omega))
        | ((with_reducible apply nthR_bs1) ; (focus assumption))
        | (with_reducible refine ia_sl ?_ ?_)
        ))
        )
      all_goals (conv => whnf)
      all_goals (try dsimp only)
      refine ⟨i + 1, ?_, rfl, by omega, by omega⟩
      rw [show 8 - (i + 1) = 7 - i from by omega, e1]
      have f1 : ((val (w.drop (8 - i)) : Nat) : Int) * 256 + (b.toNat : Int) = ((b.toNat + 256 * val (w.drop (8 - i)) : Nat) : Int) := by omega
      have f2 : 7 - (i : Int) - 1 = 7 - ((i + 1 : Nat) : Int) := by omega
      rw [f1, f2]
      rfl
    · have e8 : i = 8 := by omega
      subst e8
      repeat' (first
        | ((with_reducible refine Side.intro ?_) <;> (first
        | (simp only [List.append_nil, List.nil_append, List.map_nil]; first | exact List.nodup_nil | exact nodup_bid1 _ | exact nodup_bid2 (by assumption))
        | ((first | refine fresh_tup ?_ | skip); (repeat (first |  exact FreshA.sl _ _ FreshA_bs | exact FreshA.sl _ _ FreshA_is | exact FreshA.nils | exact FreshA.nilp | exact FreshA.int _ _ | exact FreshA.bool _ | exact FreshA.str _ | exact fresh_nil | refine fresh_cons ?_ ?_ | with_reducible refine fresh_aggR ?_ | with_reducible refine fresh_agg ?_ | with_reducible exact fresh_nilA | with_reducible refine fresh_consA ?_ ?_)); done)
        ))
        | ((conv => whnf) <;> (first
        | (with_reducible refine and_same ?_)
        | (with_reducible refine and_side ?_ ?_)
        | ((with_reducible apply Br.no) ; (focus omega))
        | (with_reducible refine NOut.lit ?_)
        ))
        )
      all_goals (conv => whnf)
      all_goals (try dsimp only)
      have hf : okW w = true := by rw [hk]; exact decide_eq_true (by omega)
      exact ret_same (by simp [getV, getOk, hi, hw, hf])
  · have hi : inR s at' = false := by simp only [inR, decide_eq_false_iff_not]; omega
    repeat' (first
      | ((with_reducible refine Side.intro ?_) <;> (first
      | omega
      | (simp only [List.append_nil, List.nil_append, List.map_nil]; first | exact List.nodup_nil | exact nodup_bid1 _ | exact nodup_bid2 (by assumption))
      | ((first | refine fresh_tup ?_ | skip); (repeat (first |  exact FreshA.sl _ _ FreshA_bs | exact FreshA.sl _ _ FreshA_is | exact FreshA.nils | exact FreshA.nilp | exact FreshA.int _ _ | exact FreshA.bool _ | exact FreshA.str _ | exact fresh_nil | refine fresh_cons ?_ ?_ | with_reducible refine fresh_aggR ?_ | with_reducible refine fresh_agg ?_ | with_reducible exact fresh_nilA | with_reducible refine fresh_consA ?_ ?_)); done)
      ))
      | ((conv => whnf) <;> (first
      | (with_reducible refine and_same ?_)
      | (with_reducible refine and_side ?_ ?_)
      | ((with_reducible apply Br.yes) ; (focus omega))
      | (with_reducible refine Br.mk (fun _ => ?_) (fun _ => ?_))
      | (with_reducible refine NOut.lit ?_)
      | (with_reducible refine lenR_sl ?_)
      ))
      )
    all_goals (conv => whnf)
    all_goals (try dsimp only)
    all_goals exact ret_same (by simp [getV, getOk, hi])
theorem ref_Of_ok (l : List Int) (hs : l.length ≤ 461168601842) : AOKn Try.prog F.joistref01_Of [.sl 1 (is l) false] fun y => y = .tup [.sl 1 (bs (ofR l)) true, .int .i64 (ofE l)] := by
  have hn : (is l).length = l.length := by simp [is]
  refine AOKn.by_steps mixed fc_joistref01_Of_ok (by simp [fc_joistref01_Of]) ?_
  skip
  all_goals (conv => whnf)
  all_goals (try dsimp only)
  refine loop_at (α := Nat × AH × AV) (fun a => [(4, a.2.2), (5, .int .i64 a.1)]) (fun a => a.2.1) (fun a => a.1 ≤ l.length ∧ (l.take a.1).all mayW = true ∧ Own a.2.1 1 a.2.2 (bs (cat (l.take a.1)))) (fun a => l.length - a.1) (0, [], .nils) ⟨by omega, by simp, Own.nil _ _⟩ rfl rfl ?_
  rintro ⟨k, σ, acc⟩ ⟨hk, hall, hacc⟩
  dsimp only at hk hall hacc ⊢
  by_cases hlt : k < l.length
  · obtain ⟨p, hp, hp'⟩ := getN hlt
    cases hm : mayW p
    · have hm' : ¬ (0 ≤ p ∧ p ≤ 4611686018427387903) := by simpa only [mayW, decide_eq_false_iff_not] using hm
      have e1 : l.all mayW = false := by
        rw [List.all_eq_false]
        exact ⟨p, List.mem_of_getElem? hp', by simp [hm]⟩
      rw [ofR, ofE, e1]
      repeat' (first
        | ((with_reducible refine Side.intro ?_) <;> (first
        | omega
        | (simp only [List.append_nil, List.nil_append, List.map_nil]; first | exact List.nodup_nil | exact nodup_bid1 _ | exact nodup_bid2 (by assumption))
        | ((first | refine fresh_tup ?_ | skip); (repeat (first |  exact FreshA.sl _ _ FreshA_bs | exact FreshA.sl _ _ FreshA_is | exact FreshA.nils | exact FreshA.nilp | exact FreshA.int _ _ | exact FreshA.bool _ | exact FreshA.str _ | exact fresh_nil | refine fresh_cons ?_ ?_ | with_reducible refine fresh_aggR ?_ | with_reducible refine fresh_agg ?_ | with_reducible exact fresh_nilA | with_reducible refine fresh_consA ?_ ?_)); done)
        ))
        | ((conv => whnf) <;> (first
        | (with_reducible refine and_same ?_)
        | (with_reducible refine and_side ?_ ?_)
        | ((with_reducible apply Br.yes) ; (focus omega))
        | (with_reducible refine Br.mk (fun _ => ?_) (fun _ => ?_))
        | ((with_reducible apply nthR_is1) ; (focus assumption))
        | (with_reducible refine ia_sl ?_ ?_)
        | (with_reducible refine NOut.lit ?_)
        | (with_reducible refine lenR_sl ?_)
        ))
        )
      all_goals (conv => whnf)
      all_goals (try dsimp only)
      all_goals exact ret_nilt rfl
    · have hm' : 0 ≤ p ∧ p ≤ 4611686018427387903 := by simpa [mayW] using hm
      repeat' (first
        | ((with_reducible refine Side.intro ?_) <;> (first
        | omega
        ))
        | ((conv => whnf) <;> (first
        | (with_reducible refine and_same ?_)
        | ((with_reducible apply Br.yes) ; (focus omega))
        | ((with_reducible apply Br.no) ; (focus omega))
        | ((with_reducible apply nthR_is1) ; (focus assumption))
        | (with_reducible refine ia_sl ?_ ?_)
        | (with_reducible refine lenR_sl ?_)
        ))
        )
      all_goals (conv => whnf)
      all_goals (try dsimp only)
      have hnn : p = (p.toNat : Int) := by omega
      rw [hnn]
      refine (Bytes_ok p.toNat (by omega)).call (.cons (.int _ _ _) .nil) ?_
      rintro _ x σ1 rfl hg hG
      obtain ⟨hx, hxb⟩ := hG.sl_inv
      have hacc1 := hacc.keepN hg
      repeat' (first
        | ((conv => whnf) <;> (first
        | ((with_reducible apply rowsR_own) ; (focus assumption))
        | (with_reducible refine AppC.frz ?_)
        ))
        )
      all_goals (conv => whnf)
      all_goals (try dsimp only)
      refine appendR_own (rows := bs (cat (l.take k))) hacc1 (by rw [bs_length, bs_length, le_length, cat_length, List.length_take]; omega) ?_
      intro acc' σ' ho' hg' hb'
      repeat' (first
        | ((conv => whnf) <;> (first
        | (with_reducible refine and_same ?_)
        | ((with_reducible apply Br.yes) ; (focus omega))
        ))
        )
      all_goals (conv => whnf)
      all_goals (try dsimp only)
      refine ⟨(k + 1, σ', acc'), rfl, rfl, ⟨by omega, ?_, ?_⟩, by omega⟩
      · rw [List.take_add_one, hp', List.all_append, hall]
        simp [hm]
      · dsimp only
        rw [List.take_add_one, hp', cat_append, ← bs_append]
        simpa [cat_one] using ho'
  · have hkn : k = l.length := by omega
    subst hkn
    rw [List.take_length] at hall hacc
    rw [ofR, ofE, hall]
    repeat' (first
      | ((with_reducible refine Side.intro ?_) <;> (first
      | (simp only [List.append_nil, List.nil_append, List.map_nil]; first | exact List.nodup_nil | exact nodup_bid1 _ | exact nodup_bid2 (by assumption))
      | ((first | refine fresh_tup ?_ | skip); (repeat (first |  exact FreshA.sl _ _ FreshA_bs | exact FreshA.sl _ _ FreshA_is | exact FreshA.nils | exact FreshA.nilp | exact FreshA.int _ _ | exact FreshA.bool _ | exact FreshA.str _ | exact fresh_nil | refine fresh_cons ?_ ?_ | with_reducible refine fresh_aggR ?_ | with_reducible refine fresh_agg ?_ | with_reducible exact fresh_nilA | with_reducible refine fresh_consA ?_ ?_)); done)
      ))
      | ((conv => whnf) <;> (first
      | (with_reducible refine and_same ?_)
      | (with_reducible refine and_side ?_ ?_)
      | ((with_reducible apply Br.no) ; (focus omega))
      | ((with_reducible apply NOut.own) ; (focus assumption))
      | (with_reducible refine NOut.lit ?_)
      | (with_reducible refine lenR_sl ?_)
      ))
      )
    all_goals (conv => whnf)
    all_goals (try dsimp only)
    exact ret_same rfl
theorem ref_Zero_ok (s : List UInt8) (hs : s.length ≤ 4611686018427) : AOKn Try.prog F.joistref01_Zero [.sl 1 (bs s) false] fun y => y = .bool (s.all (· == 0)) := by
  have hn := bs_length s
  refine AOKn.by_steps mixed fc_joistref01_Zero_ok (by simp [fc_joistref01_Zero]) ?_
  skip
  all_goals (conv => whnf)
  all_goals (try dsimp only)
  refine loop_at (α := Nat) (fun a => [(3, .int .i64 a)]) (fun a => []) (fun a => a ≤ s.length ∧ (s.take a).all (· == 0) = true) (fun a => s.length - a) 0 ⟨by omega, by simp⟩ rfl rfl ?_
  rintro k ⟨hk, hall⟩
  by_cases hlt : k < s.length
  · obtain ⟨p, hp, hp'⟩ := getN hlt
    by_cases h0 : (p.toNat : Int) = 0
    · repeat' (first
        | ((with_reducible refine Side.intro ?_) <;> (first
        | omega
        ))
        | ((conv => whnf) <;> (first
        | (with_reducible refine and_same ?_)
        | ((with_reducible apply Br.yes) ; (focus omega))
        | ((with_reducible apply Br.no) ; (focus omega))
        | ((with_reducible apply nthR_bs1) ; (focus assumption))
        | (with_reducible refine ia_sl ?_ ?_)
        | (with_reducible refine lenR_sl ?_)
        ))
        )
      all_goals (conv => whnf)
      all_goals (try dsimp only)
      refine ⟨k + 1, rfl, rfl, ⟨by omega, ?_⟩, by omega⟩
      rw [List.take_add_one, hp', List.all_append, hall]
      have : p = 0 := UInt8.toNat_inj.1 (by show p.toNat = 0; omega)
      rw [this]; rfl
    · have e1 : s.all (· == 0) = false := by
        rw [List.all_eq_false]
        refine ⟨p, List.mem_of_getElem? hp', ?_⟩
        intro e
        rw [beq_iff_eq] at e
        rw [e] at h0
        exact h0 rfl
      rw [e1]
      repeat' (first
        | ((with_reducible refine Side.intro ?_) <;> (first
        | omega
        | (simp only [List.append_nil, List.nil_append, List.map_nil]; first | exact List.nodup_nil | exact nodup_bid1 _ | exact nodup_bid2 (by assumption))
        | ((first | refine fresh_tup ?_ | skip); (repeat (first |  exact FreshA.sl _ _ FreshA_bs | exact FreshA.sl _ _ FreshA_is | exact FreshA.nils | exact FreshA.nilp | exact FreshA.int _ _ | exact FreshA.bool _ | exact FreshA.str _ | exact fresh_nil | refine fresh_cons ?_ ?_ | with_reducible refine fresh_aggR ?_ | with_reducible refine fresh_agg ?_ | with_reducible exact fresh_nilA | with_reducible refine fresh_consA ?_ ?_)); done)
        ))
        | ((conv => whnf) <;> (first
        | (with_reducible refine and_same ?_)
        | (with_reducible refine and_side ?_ ?_)
        | ((with_reducible apply Br.yes) ; (focus omega))
        | ((with_reducible apply nthR_bs1) ; (focus assumption))
        | (with_reducible refine ia_sl ?_ ?_)
        | (with_reducible refine NOut.lit ?_)
        | (with_reducible refine lenR_sl ?_)
        ))
        )
      all_goals (conv => whnf)
      all_goals (try dsimp only)
      exact ret_same rfl
  · have hkn : k = s.length := by omega
    subst hkn
    rw [List.take_length] at hall
    rw [hall]
    repeat' (first
      | ((with_reducible refine Side.intro ?_) <;> (first
      | (simp only [List.append_nil, List.nil_append, List.map_nil]; first | exact List.nodup_nil | exact nodup_bid1 _ | exact nodup_bid2 (by assumption))
      | ((first | refine fresh_tup ?_ | skip); (repeat (first |  exact FreshA.sl _ _ FreshA_bs | exact FreshA.sl _ _ FreshA_is | exact FreshA.nils | exact FreshA.nilp | exact FreshA.int _ _ | exact FreshA.bool _ | exact FreshA.str _ | exact fresh_nil | refine fresh_cons ?_ ?_ | with_reducible refine fresh_aggR ?_ | with_reducible refine fresh_agg ?_ | with_reducible exact fresh_nilA | with_reducible refine fresh_consA ?_ ?_)); done)
      ))
      | ((conv => whnf) <;> (first
      | (with_reducible refine and_same ?_)
      | (with_reducible refine and_side ?_ ?_)
      | ((with_reducible apply Br.no) ; (focus omega))
      | (with_reducible refine NOut.lit ?_)
      | (with_reducible refine lenR_sl ?_)
      ))
      )
    all_goals (conv => whnf)
    all_goals (try dsimp only)
    exact ret_same rfl
end Go.Proofs.Ytppccaacbpkgiaa

namespace Go.Proofs.Ytppccaacbpkgiaa
open Go Go.Proofs.Ytppccaacbpkgiaa.V
set_option maxRecDepth 20000
attribute [local irreducible] CallS AOK AOKn ALoop Side Ref.ok
/-! ### Sums, plain -/
def poly : Nat := 3988292384
def ones : Nat := 4294967295
def step1 (n : Nat) : Nat := if n % 2 = 1 then (n / 2) ^^^ poly else n / 2
def stepK : Nat → Nat → Nat
  | 0, n => n
  | k + 1, n => step1 (stepK k n)
def crun (n : Nat) (s : List UInt8) : Nat := s.foldl (fun n b => stepK 8 (n ^^^ b.toNat)) n
theorem step1_lt {n : Nat} (h : n < 4294967296) : step1 n < 4294967296 := by
  unfold step1
  split
  · exact Nat.xor_lt_two_pow (n := 32) (by omega) (by decide)
  · omega
theorem stepK_lt : ∀ (k : Nat) {n : Nat}, n < 4294967296 → stepK k n < 4294967296
  | 0, n, h => h
  | k + 1, n, h => step1_lt (stepK_lt k h)
theorem xorb_lt {n : Nat} (h : n < 4294967296) (b : UInt8) : n ^^^ b.toNat < 4294967296 :=
  Nat.xor_lt_two_pow (n := 32) h (by have := b.toNat_lt; omega)
theorem crun_lt : ∀ (s : List UInt8) {n : Nat}, n < 4294967296 → crun n s < 4294967296
  | [], n, h => h
  | b :: s, n, h => crun_lt s (stepK_lt 8 (xorb_lt h b))
theorem crun_append (n : Nat) (s t : List UInt8) : crun n (s ++ t) = crun (crun n s) t := by simp [crun]
def sum (s : List UInt8) : Nat := ones ^^^ crun ones s
theorem wrap32 {m : Nat} (h : m < 4294967296) : IntKind.wrap .u32 (m : Int) = m := by
  rw [IntKind.wrap_u32]; omega
theorem bv32 {m : Nat} (hm : m < 4294967296) : (BitVec.ofInt 32 (m : Int)).toNat = m := by
  rw [BitVec.ofInt_natCast, BitVec.toNat_ofNat]; exact Nat.mod_eq_of_lt hm
theorem and32 {m : Nat} (h : m < 4294967296) : IntKind.wrap .u32 ((BitVec.ofInt IntKind.u32.bits (m : Int) &&& BitVec.ofInt IntKind.u32.bits 1).toNat : Nat) = ((m % 2 : Nat) : Int) := by
  have e : (BitVec.ofInt IntKind.u32.bits (m : Int) &&& BitVec.ofInt IntKind.u32.bits 1).toNat = m % 2 := by
    show (BitVec.ofInt 32 (m : Int) &&& BitVec.ofInt 32 ((1 : Nat) : Int)).toNat = m % 2
    rw [BitVec.toNat_and, bv32 h, bv32 (by omega), Nat.and_one_is_mod]
  rw [e, wrap32 (by omega)]
theorem xor32 {a b : Nat} {x y : Int} (hx : x = a) (hy : y = b) (ha : a < 4294967296) (hb : b < 4294967296) : IntKind.wrap .u32 ((BitVec.ofInt IntKind.u32.bits x ^^^ BitVec.ofInt IntKind.u32.bits y).toNat : Nat) = ((a ^^^ b : Nat) : Int) := by
  subst hx; subst hy
  have e : (BitVec.ofInt IntKind.u32.bits (a : Int) ^^^ BitVec.ofInt IntKind.u32.bits (b : Int)).toNat = a ^^^ b := by
    show (BitVec.ofInt 32 (a : Int) ^^^ BitVec.ofInt 32 (b : Int)).toNat = a ^^^ b
    rw [BitVec.toNat_xor, bv32 ha, bv32 hb]
  rw [e, wrap32 (Nat.xor_lt_two_pow (n := 32) ha hb)]
theorem xor64 {a b : Nat} {x y : Int} (hx : x = a) (hy : y = b) (ha : a < 4294967296) (hb : b < 4294967296) : IntKind.wrap .i64 ((BitVec.ofInt IntKind.i64.bits x ^^^ BitVec.ofInt IntKind.i64.bits y).toNat : Nat) = ((a ^^^ b : Nat) : Int) := by
  subst hx; subst hy
  have e : (BitVec.ofInt IntKind.i64.bits (a : Int) ^^^ BitVec.ofInt IntKind.i64.bits (b : Int)).toNat = a ^^^ b := by
    show (BitVec.ofInt 64 (a : Int) ^^^ BitVec.ofInt 64 (b : Int)).toNat = a ^^^ b
    rw [BitVec.toNat_xor, bv_nat (Nat.lt_trans ha (by decide)), bv_nat (Nat.lt_trans hb (by decide))]
  rw [e, wrap_nat (Nat.lt_trans (Nat.xor_lt_two_pow (n := 32) ha hb) (by decide))]
theorem half32 (m : Nat) : (m : Int).fdiv (2 ^ min (Int.toNat 1) IntKind.u32.bits) = ((m / 2 : Nat) : Int) := fdiv_nat m 2
theorem crun_take (n : Nat) (s : List UInt8) (k : Nat) (b : UInt8) (h : s[k]? = some b) : crun n (s.take (k + 1)) = stepK 8 (crun n (s.take k) ^^^ b.toNat) := by
  rw [List.take_add_one, h, crun_append]; rfl
theorem step_val (σ : AH) (n : Nat) (hn : n < 4294967296) (Q : AV → AH → Prop) (h : Q (.int .u32 (stepK 8 n : Nat)) σ) : CallS Try.prog F.crc_step [.int .u32 n] σ Q := by
  refine call_of_body mixed fc_crc_step_ok (by simp [fc_crc_step]) ?_
  skip
  all_goals (conv => whnf)
  all_goals (try dsimp only)
  refine loop_at (α := Nat) (fun a => [(0, .int .u32 (stepK a n : Nat)), (4, .int .i64 a)]) (fun a => σ) (fun a => a ≤ 8) (fun a => 8 - a) 0 (by omega) rfl rfl ?_
  intro k hk
  have hs := stepK_lt k hn
  have hk1 : stepK (k + 1) n = step1 (stepK k n) := rfl
  by_cases hlt : k < 8
  · generalize stepK k n = m at *
    unfold step1 at hk1
    have ea := and32 hs
    by_cases hm : m % 2 = 1
    · rw [if_pos hm] at hk1
      repeat' (first
        | ((with_reducible refine Side.intro ?_) <;> (first
        | omega
        ))
        | ((conv => whnf) <;> (first
        | (with_reducible refine and_same ?_)
        | (with_reducible refine and_side ?_ ?_)
        | ((with_reducible apply Br.yes) ; (focus omega))
        ))
        )
      all_goals (conv => whnf)
      all_goals (try dsimp only)
      refine ⟨k + 1, ?_, rfl, by omega, by omega⟩
      rw [hk1, xor32 (y := 3988292384) (half32 m) (b := poly) rfl (by omega) (by decide)]
      rfl
    · rw [if_neg hm] at hk1
      repeat' (first
        | ((with_reducible refine Side.intro ?_) <;> (first
        | omega
        ))
        | ((conv => whnf) <;> (first
        | (with_reducible refine and_same ?_)
        | (with_reducible refine and_side ?_ ?_)
        | ((with_reducible apply Br.yes) ; (focus omega))
        | ((with_reducible apply Br.no) ; (focus omega))
        ))
        )
      all_goals (conv => whnf)
      all_goals (try dsimp only)
      refine ⟨k + 1, ?_, rfl, by omega, by omega⟩
      rw [hk1, half32]
      rfl
  · have h8 : k = 8 := by omega
    subst h8
    repeat' (first
      | ((conv => whnf) <;> (first
      | (with_reducible refine and_same ?_)
      | ((with_reducible apply Br.no) ; (focus omega))
      ))
      )
    all_goals (conv => whnf)
    all_goals (try dsimp only)
    exact h
theorem goOn_val (σ : AH) (n : Nat) (s : List UInt8) (fr : Bool) (hs : s.length ≤ 4611686018427) (hn : n < 4294967296) (Q : AV → AH → Prop) (h : Q (.int .i64 (crun n s : Nat)) σ) : CallS Try.prog F.joistref02_goOn [.int .i64 n, .sl 1 (bs s) fr] σ Q := by
  have hl := bs_length s
  refine call_of_body mixed fc_joistref02_goOn_ok (by simp [fc_joistref02_goOn]) ?_
  skip
  all_goals (conv => whnf)
  all_goals (try dsimp only)
  refine loop_at (α := Nat) (fun a => [(0, .int .i64 (crun n (s.take a) : Nat)), (5, .int .i64 a)]) (fun a => σ) (fun a => a ≤ s.length) (fun a => s.length - a) 0 (by omega) rfl rfl ?_
  intro k hk
  have hc := crun_lt (s.take k) hn
  by_cases hlt : k < s.length
  · obtain ⟨b, hb, hb'⟩ := getN hlt
    have e1 := crun_take n s k b hb'
    have hx := xorb_lt hc b
    generalize crun n (s.take k) = r at *
    have hbl := b.toNat_lt
    have ex := xor64 (x := (r : Int)) (y := (b.toNat : Int)) rfl rfl hc (by omega)
    repeat' (first
      | ((with_reducible refine Side.intro ?_) <;> (first
      | omega
      ))
      | ((conv => whnf) <;> (first
      | (with_reducible refine and_same ?_)
      | ((with_reducible apply Br.yes) ; (focus omega))
      | ((with_reducible apply nthR_bs1) ; (focus assumption))
      | (with_reducible refine ia_sl ?_ ?_)
      | (with_reducible refine lenR_sl ?_)
      ))
      )
    all_goals (conv => whnf)
    all_goals (try dsimp only)
    rw [ex]
    refine loop_at (α := Nat) (fun a => [(0, .int .i64 (stepK a (r ^^^ b.toNat) : Nat)), (6, .int .i64 a)]) (fun a => σ) (fun a => a ≤ 8) (fun a => 8 - a) 0 (by omega) rfl rfl ?_
    intro j hj
    have hs := stepK_lt j hx
    have hk1 : stepK (j + 1) (r ^^^ b.toNat) = step1 (stepK j (r ^^^ b.toNat)) := rfl
    by_cases hlt : j < 8
    · generalize stepK j (r ^^^ b.toNat) = m at *
      unfold step1 at hk1
      by_cases hm : m % 2 = 1
      · rw [if_pos hm] at hk1
        repeat' (first
          | ((with_reducible refine Side.intro ?_) <;> (first
          | omega
          ))
          | ((conv => whnf) <;> (first
          | (with_reducible refine and_same ?_)
          | (with_reducible refine and_side ?_ ?_)
          | ((with_reducible apply Br.yes) ; (focus omega))
          ))
          )
        all_goals (conv => whnf)
        all_goals (try dsimp only)
        refine ⟨j + 1, ?_, rfl, by omega, by omega⟩
        rw [hk1, xor64 (x := (m : Int) / 2) (y := 3988292384) (a := m / 2) (b := poly) rfl rfl (by omega) (by decide)]
        rfl
      · rw [if_neg hm] at hk1
        repeat' (first
          | ((with_reducible refine Side.intro ?_) <;> (first
          | omega
          ))
          | ((conv => whnf) <;> (first
          | (with_reducible refine and_same ?_)
          | (with_reducible refine and_side ?_ ?_)
          | ((with_reducible apply Br.yes) ; (focus omega))
          | ((with_reducible apply Br.no) ; (focus omega))
          ))
          )
        all_goals (conv => whnf)
        all_goals (try dsimp only)
        refine ⟨j + 1, ?_, rfl, by omega, by omega⟩
        rw [hk1]
        rfl
    · have h8 : j = 8 := by omega
      subst h8
      repeat' (first
        | ((conv => whnf) <;> (first
        | (with_reducible refine and_same ?_)
        | ((with_reducible apply Br.yes) ; (focus omega))
        | ((with_reducible apply Br.no) ; (focus omega))
        ))
        )
      all_goals (conv => whnf)
      all_goals (try dsimp only)
      exact ⟨k + 1, by rw [e1]; rfl, rfl, by omega, by omega⟩
  · have h8 : k = s.length := by omega
    subst h8
    rw [List.take_length]
    repeat' (first
      | ((conv => whnf) <;> (first
      | (with_reducible refine and_same ?_)
      | ((with_reducible apply Br.no) ; (focus omega))
      | (with_reducible refine lenR_sl ?_)
      ))
      )
    all_goals (conv => whnf)
    all_goals (try dsimp only)
    exact h
theorem run_val (σ : AH) (n : Nat) (s : List UInt8) (fr : Bool) (hs : s.length ≤ 4611686018427) (hn : n < 4294967296) (Q : AV → AH → Prop) (h : Q (.int .u32 (crun n s : Nat)) σ) : CallS Try.prog F.crc_run [.int .u32 n, .sl 1 (bs s) fr] σ Q := by
  have hl := bs_length s
  refine call_of_body mixed fc_crc_run_ok (by simp [fc_crc_run]) ?_
  repeat' (first
    | ((conv => whnf) <;> (first
    | (with_reducible refine lenR_sl ?_)
    ))
    )
  all_goals (conv => whnf)
  all_goals (try dsimp only)
  refine loop_at (α := Nat) (fun a => [(0, .int .u32 (crun n (s.take a) : Nat)), (9, .int .i64 a)]) (fun a => σ) (fun a => a ≤ s.length) (fun a => s.length - a) 0 (by omega) rfl rfl ?_
  intro k hk
  have hc := crun_lt (s.take k) hn
  by_cases hlt : k < s.length
  · obtain ⟨b, hb, hb'⟩ := getN hlt
    have e1 := crun_take n s k b hb'
    have hx := xorb_lt hc b
    generalize crun n (s.take k) = r at *
    have hbl := b.toNat_lt
    have ex := xor32 (x := (r : Int)) (y := (b.toNat : Int) % 4294967296) (b := b.toNat) rfl (by omega) hc (by omega)
    repeat' (first
      | ((with_reducible refine Side.intro ?_) <;> (first
      | omega
      ))
      | ((conv => whnf) <;> (first
      | (with_reducible refine and_same ?_)
      | ((with_reducible apply Br.yes) ; (focus omega))
      | ((with_reducible apply nthR_bs1) ; (focus assumption))
      | (with_reducible refine ia_sl ?_ ?_)
      ))
      )
    all_goals (conv => whnf)
    all_goals (try dsimp only)
    rw [ex]
    refine step_val σ _ hx _ ?_
    repeat' (first
      | ((conv => whnf) <;> (first
      | (with_reducible refine and_same ?_)
      | ((with_reducible apply Br.yes) ; (focus omega))
      ))
      )
    all_goals (conv => whnf)
    all_goals (try dsimp only)
    exact ⟨k + 1, by rw [e1]; rfl, rfl, by omega, by omega⟩
  · have h8 : k = s.length := by omega
    subst h8
    rw [List.take_length]
    repeat' (first
      | ((conv => whnf) <;> (first
      | (with_reducible refine and_same ?_)
      | ((with_reducible apply Br.no) ; (focus omega))
      ))
      )
    all_goals (conv => whnf)
    all_goals (try dsimp only)
    exact h
theorem Sum_val (σ : AH) (s : List UInt8) (fr : Bool) (hs : s.length ≤ 4611686018427) (Q : AV → AH → Prop) (h : Q (.int .i64 (sum s : Nat)) σ) : CallS Try.prog F.crc_Sum [.sl 1 (bs s) fr] σ Q := by
  refine call_of_body mixed fc_crc_Sum_ok (by simp [fc_crc_Sum]) ?_
  skip
  all_goals (conv => whnf)
  all_goals (try dsimp only)
  refine run_val σ 4294967295 s fr hs (by omega) _ ?_
  have hc := crun_lt s (n := 4294967295) (by omega)
  have ex : IntKind.u32.wrap ((BitVec.ofInt IntKind.u32.bits (if IntKind.u32.signed = true then -1 else IntKind.u32.max) ^^^ BitVec.ofInt IntKind.u32.bits ((crun 4294967295 s : Nat) : Int)).toNat : Nat) = ((sum s : Nat) : Int) :=
    xor32 (a := ones) (b := crun 4294967295 s) rfl rfl (by decide) hc
  have hsum : sum s < 4294967296 := Nat.xor_lt_two_pow (n := 32) (by decide) hc
  repeat' (first
    | ((conv => whnf) <;> (first
    | ((with_reducible apply Br.yes) ; (focus omega))
    ))
    )
  all_goals (conv => whnf)
  all_goals (try dsimp only)
  rw [ex]
  exact h
theorem RSum_val (σ : AH) (s : List UInt8) (fr : Bool) (hs : s.length ≤ 4611686018427) (Q : AV → AH → Prop) (h : Q (.int .i64 (sum s : Nat)) σ) : CallS Try.prog F.joistref02_Sum [.sl 1 (bs s) fr] σ Q := by
  refine call_of_body mixed fc_joistref02_Sum_ok (by simp [fc_joistref02_Sum]) ?_
  skip
  all_goals (conv => whnf)
  all_goals (try dsimp only)
  refine goOn_val σ 4294967295 s fr hs (by omega) _ ?_
  have hc := crun_lt s (n := 4294967295) (by omega)
  have ex := xor64 (x := 4294967295) (y := ((crun 4294967295 s : Nat) : Int)) (a := ones) rfl rfl (by decide) hc
  repeat' (first
    | ((conv => whnf) <;> (first
    | (with_reducible refine and_same ?_)
    ))
    )
  all_goals (conv => whnf)
  all_goals (try dsimp only)
  rw [ex]
  exact h
def addOk (n : Int) : Bool := decide (0 ≤ n ∧ n ≤ 4294967295)
def addV (n : Int) (s : List UInt8) : Nat := if addOk n then ones ^^^ crun (ones ^^^ n.toNat) s else 0
def addE (n : Int) : Int := if addOk n then 0 else 4
theorem ones_lt {n : Nat} (h : n < 4294967296) : ones ^^^ n < 4294967296 := Nat.xor_lt_two_pow (n := 32) (by decide) h
theorem ones2 (n : Nat) : ones ^^^ (ones ^^^ n) = n := by rw [← Nat.xor_assoc, Nat.xor_self, Nat.zero_xor]
theorem sum_lt (s : List UInt8) : sum s < 4294967296 := ones_lt (crun_lt s (by decide))
end Go.Proofs.Ytppccaacbpkgiaa

namespace Go.Proofs.Ytppccaacbpkgiaa
open Go Go.Proofs.Ytppccaacbpkgiaa.V
set_option maxRecDepth 20000
attribute [local irreducible] CallS AOK AOKn ALoop Side Ref.ok
def sealB (s : List UInt8) : List UInt8 := s ++ le 8 (sum s)
def front (s : List UInt8) : List UInt8 := s.take (s.length - 8)
def openOk (s : List UInt8) : Bool := decide (8 ≤ s.length ∧ sealB (front s) = s)
theorem openOk_eq (s : List UInt8) (h8 : 8 ≤ s.length) : openOk s = decide (s.drop (s.length - 8) = le 8 (sum (front s))) := by
  unfold openOk sealB
  apply decide_eq_decide.2
  have e : s = front s ++ s.drop (s.length - 8) := (List.take_append_drop _ _).symm
  constructor
  · rintro ⟨_, h⟩
    have := h.trans e
    exact (List.append_cancel_left this).symm
  · intro h
    exact ⟨h8, by rw [← h]; exact e.symm⟩
def openR (s : List UInt8) : List UInt8 := if openOk s then front s else []
theorem sealB_length (s : List UInt8) : (sealB s).length = s.length + 8 := by simp [sealB, le_length]
theorem ofR1 (n : Nat) (h : n < 4294967296) : ofR [(n : Int)] = le 8 n := by
  have : mayW (n : Int) = true := by simp only [mayW, decide_eq_true_eq]; omega
  simp [ofR, this, cat]
theorem ofE1' (n : Nat) (h : n < 4294967296) : ofE [(n : Int)] = 0 := by
  have : mayW (n : Int) = true := by simp only [mayW, decide_eq_true_eq]; omega
  simp [ofE, this]
theorem untagLL_is (s : List Int) : untagLL (is s) = is s := by
  induction s with
  | nil => rfl
  | cons b s ih => rw [show is (b :: s) = [.int .i64 b] :: is s from rfl, untagLL, ih]; rfl
theorem Looks.ownis {σ : AH} {x : AV} {s : List Int} (h : Own σ 1 x (is s)) : Looks σ x (.sl 1 (is s) false) := by
  have := Looks.own h
  rwa [untagLL_is] at this
theorem bytes_Equal_ok (s t : List UInt8) : AOKn Try.prog F.bytes_Equal [.sl 1 (bs s) false, .sl 1 (bs t) false] fun y => y = .bool (decide (s = t)) := by
  refine AOKn.by_steps mixed fc_bytes_Equal_ok (by simp [fc_bytes_Equal]) ?_
  repeat' (first
    | ((with_reducible refine Side.intro ?_) <;> (first
    | (simp only [List.append_nil, List.nil_append, List.map_nil]; first | exact List.nodup_nil | exact nodup_bid1 _ | exact nodup_bid2 (by assumption))
    | ((first | refine fresh_tup ?_ | skip); (repeat (first |  exact FreshA.sl _ _ FreshA_bs | exact FreshA.sl _ _ FreshA_is | exact FreshA.nils | exact FreshA.nilp | exact FreshA.int _ _ | exact FreshA.bool _ | exact FreshA.str _ | exact fresh_nil | refine fresh_cons ?_ ?_ | with_reducible refine fresh_aggR ?_ | with_reducible refine fresh_agg ?_ | with_reducible exact fresh_nilA | with_reducible refine fresh_consA ?_ ?_)); done)
    ))
    | ((conv => whnf) <;> (first
    | (with_reducible refine and_side ?_ ?_)
    | (with_reducible refine Br.mk (fun _ => ?_) (fun _ => ?_))
    | (with_reducible refine NOut.lit ?_)
    | (with_reducible refine rowsR_sl ?_)
    | ((with_reducible apply bytesR_intro) ; (focus (first | rfl | (simp only [bs_take, bs_drop, bs_append]; rfl))))
    ))
    )
  all_goals (conv => whnf)
  all_goals (try dsimp only)
  · exact ret_bool (decide_eq_true ‹_›).symm
  · exact ret_bool (decide_eq_false ‹_›).symm
end Go.Proofs.Ytppccaacbpkgiaa

namespace Go.Proofs.Ytppccaacbpkgiaa
open Go Go.Proofs.Ytppccaacbpkgiaa.V
set_option maxRecDepth 20000
attribute [local irreducible] CallS AOK AOKn ALoop Side Ref.ok
theorem Of_call (l : List Int) (hs : l.length ≤ 461168601842) {σ : AH} {x : AV} (hx : Looks σ x (.sl 1 (is l) false)) {Q : AV → AH → Prop} (h : ∀ σ' y, Gr σ σ' none → Own σ' 1 y (bs (ofR l)) → New σ y → Q (.tup [y, .int .i64 (ofE l)]) σ') : CallS Try.prog F.words_Of [x] σ Q :=
  call_sl1 (words_Of_ok l hs) (.cons hx .nil) rfl h
theorem ROf_call (l : List Int) (hs : l.length ≤ 461168601842) {σ : AH} {x : AV} (hx : Looks σ x (.sl 1 (is l) false)) {Q : AV → AH → Prop} (h : ∀ σ' y, Gr σ σ' none → Own σ' 1 y (bs (ofR l)) → New σ y → Q (.tup [y, .int .i64 (ofE l)]) σ') : CallS Try.prog F.joistref01_Of [x] σ Q :=
  call_sl1 (ref_Of_ok l hs) (.cons hx .nil) rfl h
end Go.Proofs.Ytppccaacbpkgiaa

namespace Go.Proofs.Ytppccaacbpkgiaa
open Go Go.Proofs.Ytppccaacbpkgiaa.V
set_option maxRecDepth 20000
attribute [local irreducible] CallS AOK AOKn ALoop Side Ref.ok
theorem Few_ok (L : List (Int × List UInt8)) (hL : L.length ≤ 4611686018427) : AOKn Try.prog F.joistlaw04_Few [.sl 2 (chg false L) false] fun y => y = .bool (decide ((∀ p, p ∈ L → p.2.length ≤ 1024) ∧ L.length ≤ 300)) := by
  have hm := chg_length false L
  refine AOKn.by_steps mixed fc_joistlaw04_Few_ok (by simp [fc_joistlaw04_Few]) ?_
  skip
  all_goals (conv => whnf)
  all_goals (try dsimp only)
  refine loop_at (α := Nat) (fun a => [(3, .int .i64 a)]) (fun a => [])
      (fun a => a ≤ L.length ∧ ∀ j p, j < a → L[j]? = some p → p.2.length ≤ 1024) (fun a => L.length - a) 0 ⟨by omega, by simp⟩ rfl rfl ?_
  rintro k ⟨hk, hok⟩
  repeat' (first
    | ((with_reducible refine Side.intro ?_) <;> (first
    | omega
    | (simp only [List.append_nil, List.nil_append, List.map_nil]; first | exact List.nodup_nil | exact nodup_bid1 _ | exact nodup_bid2 (by assumption))
    | ((first | refine fresh_tup ?_ | skip); (repeat (first |  exact FreshA.sl _ _ FreshA_bs | exact FreshA.sl _ _ FreshA_is | exact FreshA.nils | exact FreshA.nilp | exact FreshA.int _ _ | exact FreshA.bool _ | exact FreshA.str _ | exact fresh_nil | refine fresh_cons ?_ ?_ | with_reducible refine fresh_aggR ?_ | with_reducible refine fresh_agg ?_ | with_reducible exact fresh_nilA | with_reducible refine fresh_consA ?_ ?_)); done)
    ))
    | ((conv => whnf) <;> (first
    | (with_reducible refine and_same ?_)
    | (with_reducible refine and_side ?_ ?_)
    | (with_reducible refine Br.mk (fun _ => ?_) (fun _ => ?_))
    | (with_reducible refine ia_sl ?_ ?_)
    | (with_reducible refine NOut.lit ?_)
    | (with_reducible refine lenR_sl ?_)
    ))
    )
  all_goals (conv => whnf)
  all_goals (try dsimp only)
  · obtain ⟨p, hp, hpk⟩ := getN (l := L) (k := k) (by omega)
    have hpl := bs_length p.2
    repeat' (first
      | ((with_reducible refine Side.intro ?_) <;> (first
      | (simp only [List.append_nil, List.nil_append, List.map_nil]; first | exact List.nodup_nil | exact nodup_bid1 _ | exact nodup_bid2 (by assumption))
      | ((first | refine fresh_tup ?_ | skip); (repeat (first |  exact FreshA.sl _ _ FreshA_bs | exact FreshA.sl _ _ FreshA_is | exact FreshA.nils | exact FreshA.nilp | exact FreshA.int _ _ | exact FreshA.bool _ | exact FreshA.str _ | exact fresh_nil | refine fresh_cons ?_ ?_ | with_reducible refine fresh_aggR ?_ | with_reducible refine fresh_agg ?_ | with_reducible exact fresh_nilA | with_reducible refine fresh_consA ?_ ?_)); done)
      ))
      | ((conv => whnf) <;> (first
      | (with_reducible refine and_same ?_)
      | (with_reducible refine and_side ?_ ?_)
      | ((with_reducible apply Br.yes) ; (focus omega))
      | (with_reducible refine Br.mk (fun _ => ?_) (fun _ => ?_))
      | ((with_reducible apply nthR_chg1) ; (focus assumption))
      | (with_reducible refine NOut.lit ?_)
      | (with_reducible refine lenR_sl ?_)
      ))
      )
    all_goals (conv => whnf)
    all_goals (try dsimp only)
    · exact ret_bool (decide_eq_false fun e => by have := e.1 p (List.mem_of_getElem? hpk); omega).symm
    · refine ⟨k + 1, rfl, rfl, ⟨by omega, fun j q hj hq => ?_⟩, by omega⟩
      by_cases e : j = k
      · subst e; rw [hpk] at hq; cases hq; omega
      · exact hok j q (by omega) hq
  · refine ret_bool (decide_eq_true ⟨fun p hp => ?_, by omega⟩).symm
    obtain ⟨j, hj⟩ := List.mem_iff_getElem?.1 hp
    exact hok j p (by have := (List.getElem?_eq_some_iff.1 hj).1; omega) hj
  · exact ret_bool (decide_eq_false fun e => by have := e.2; omega).symm
theorem untagLL_chg (fr : Bool) (L : List (Int × List UInt8)) : untagLL (chg fr L) = chg false L := by
  induction L with
  | nil => rfl
  | cons p L ih =>
    have e : chg fr (p :: L) = [.int .i64 p.1, .sl 1 (bs p.2) fr] :: chg fr L := rfl
    rw [e, untagLL, ih]
    simp [untagL, untag, untagLL_bs, chg]
theorem Looks.ownchg {σ : AH} {x : AV} {fr : Bool} {L : List (Int × List UInt8)} (h : Own σ 2 x (chg fr L)) : Looks σ x (.sl 2 (chg false L) false) := by
  have := Looks.own h
  rwa [untagLL_chg] at this
theorem looks_chg (σ : AH) (fr : Bool) (L : List (Int × List UInt8)) : Looks σ (.sl 2 (chg fr L) false) (.sl 2 (chg false L) false) := .same (by simp [derefV, derefC, AV.flat, untag, untagLL_chg])
def B0 : List UInt8 := (List.replicate 128 0).set 64 1
theorem diffs0 : diffs (List.replicate 128 0) B0 2 = [(1, B0.drop 64)] := by decide +kernel
/-! ### The plain law -/
theorem ln_length {t : List UInt8} {i : Nat} (h : (i + 1) * 64 ≤ t.length) : (ln t i).length = 64 := by
  simp only [ln, List.length_drop, List.length_take]; omega
theorem layL_append (s : List UInt8) (l m : List (Int × List UInt8)) : layL s (l ++ m) = layL (layL s l) m := by simp [layL]
theorem diffs_fits {s t : List UInt8} (hl : s.length = t.length) {n : Nat} (hn : n ≤ s.length / 64) : ∀ p, p ∈ diffs s t n → Fits (s.length / 64) p := by
  intro p hp
  simp only [diffs, List.mem_map, List.mem_filter, List.mem_range] at hp
  obtain ⟨i, ⟨h1, _⟩, rfl⟩ := hp
  exact ⟨by simp, by simp; omega, by simp only; exact ln_length (by omega)⟩
theorem layL_diffs {s t : List UInt8} (hl : s.length = t.length) : ∀ n, n ≤ s.length / 64 → layL s (diffs s t n) = t.take (n * 64) ++ s.drop (n * 64)
  | 0, _ => by simp [diffs, layL]
  | n + 1, h => by
    rw [diffs_succ, layL_append, layL_diffs hl n (by omega)]
    have e1 : t.take ((n + 1) * 64) = t.take (n * 64) ++ ln t n := by
      unfold ln
      rw [List.drop_take, show (n + 1) * 64 - n * 64 = 64 from by omega, show (n + 1) * 64 = n * 64 + 64 from by omega, List.take_add]
    have e2 : s.drop (n * 64) = ln s n ++ s.drop ((n + 1) * 64) := by
      unfold ln
      rw [List.drop_take, show (n + 1) * 64 = n * 64 + 64 from by omega, ← List.drop_drop, show n * 64 + 64 - n * 64 = 64 from by omega, List.take_append_drop]
    have ht : (t.take (n * 64)).length = n * 64 := by rw [List.length_take]; omega
    split
    · simp only [layL, List.foldl_cons, List.foldl_nil, lay1, Int.ofNat_eq_natCast, Int.toNat_natCast]
      rw [List.take_append_of_le_length (by omega), List.take_of_length_le (by omega), List.drop_append, List.drop_of_length_le (by omega), ht, List.drop_drop, e1]
      simp only [List.nil_append]
      congr 2
      omega
    · rename_i hne
      simp only [ne_eq, Decidable.not_not] at hne
      rw [show layL (t.take (n * 64) ++ s.drop (n * 64)) [] = t.take (n * 64) ++ s.drop (n * 64) from rfl, e1, e2, hne, List.append_assoc]
theorem layL_full {s t : List UInt8} (hl : s.length = t.length) (h64 : s.length % 64 = 0) : layL s (diffs s t (s.length / 64)) = t := by
  rw [layL_diffs hl _ (Nat.le_refl _), show s.length / 64 * 64 = s.length from by omega, List.drop_length, List.append_nil, List.take_of_length_le (by omega)]
theorem diffs_self (t : List UInt8) (n : Nat) : diffs t t n = [] := by
  simp [diffs]
theorem okAt_diffs {s t : List UInt8} (hl : s.length = t.length) {n : Nat} (hn : n ≤ s.length / 64) : ∀ j, j < (diffs s t n).length → okAt ((s.length / 64 : Nat) : Int) (diffs s t n) j = true := by
  have hsorted : ∀ n, (diffs s t n).Pairwise fun p q => p.1 < q.1 := by
    intro n
    unfold diffs
    rw [List.pairwise_map]
    refine List.Pairwise.filter _ ?_
    refine List.Pairwise.imp ?_ (List.pairwise_lt_range (n := n))
    intro a b h
    simp only [Int.ofNat_eq_natCast]
    omega
  intro j hj
  have hg := List.getElem?_eq_getElem hj
  have hf := diffs_fits hl hn _ (List.getElem_mem hj)
  unfold okAt
  rw [hg]
  simp only [Bool.and_eq_true, decide_eq_true_eq]
  refine ⟨hf, ?_⟩
  cases j with
  | zero => rfl
  | succ i =>
    simp only [List.getElem?_eq_getElem (show i < (diffs s t n).length from by omega), decide_eq_true_eq]
    exact List.pairwise_iff_getElem.1 (hsorted n) i (i + 1) (by omega) hj (by omega)
theorem right_diffs {s t : List UInt8} (hl : s.length = t.length) : rightB ((s.length / 64 : Nat) : Int) (diffs s t (s.length / 64)) = true :=
  rightB_true (okAt_diffs hl (Nat.le_refl _))
/-! ### The walk -/
/-! ### LinesTwice, LinesMerges: the plain laws -/
/-- Where a change lies. -/
def hits (p : Int × List UInt8) (i : Nat) : Prop := p.1.toNat * 64 ≤ i ∧ i < p.1.toNat * 64 + 64
instance (p : Int × List UInt8) (i : Nat) : Decidable (hits p i) := by unfold hits; infer_instance
def ov (L : List (Int × List UInt8)) (i : Nat) (d : Option UInt8) : Option UInt8 := L.foldl (fun d p => if hits p i then p.2[i - p.1.toNat * 64]? else d) d
theorem lay1_get {s : List UInt8} {p : Int × List UInt8} (h : Fits (s.length / 64) p) (i : Nat) : (lay1 s p)[i]? = if hits p i then p.2[i - p.1.toNat * 64]? else s[i]? := by
  obtain ⟨h1, h2, h3⟩ := h
  have e1 : (s.take (p.1.toNat * 64)).length = p.1.toNat * 64 := by rw [List.length_take]; omega
  unfold lay1
  by_cases c1 : i < p.1.toNat * 64
  · rw [if_neg (by unfold hits; omega), List.getElem?_append_left (by simp; omega), List.getElem?_append_left (by omega), List.getElem?_take_of_lt c1]
  · by_cases c2 : i < p.1.toNat * 64 + 64
    · rw [if_pos (by unfold hits; omega), List.getElem?_append_left (by simp; omega), List.getElem?_append_right (by omega), e1]
    · rw [if_neg (by unfold hits; omega), List.getElem?_append_right (by simp; omega), List.getElem?_drop]
      congr 1
      simp only [List.length_append, e1, h3]
      omega
theorem layL_get : ∀ {L : List (Int × List UInt8)} {s : List UInt8}, (∀ p, p ∈ L → Fits (s.length / 64) p) → ∀ i, (layL s L)[i]? = ov L i (s[i]?)
  | [], s, _, i => rfl
  | p :: L, s, h, i => by
    have hp := h p (by simp)
    have := layL_get (L := L) (s := lay1 s p) (fun q hq => by rw [lay1_length hp]; exact h q (by simp [hq])) i
    rw [lay1_get hp] at this
    exact this
theorem ov_const : ∀ (L : List (Int × List UInt8)) (i : Nat), (∀ d d', ov L i d = ov L i d') ∨ (∀ d, ov L i d = d)
  | [], i => .inr fun d => rfl
  | p :: L, i => by
    rcases ov_const L i with h | h
    · exact .inl fun d d' => h _ _
    · by_cases hp : hits p i
      · exact .inl fun d d' => by simp only [ov, List.foldl_cons, if_pos hp]
      · exact .inr fun d => by
          have := h d
          simp only [ov, List.foldl_cons, if_neg hp] at this ⊢; exact this
theorem ov_val {i : Nat} {v : Option UInt8} : ∀ {L : List (Int × List UInt8)} {d : Option UInt8}, (∀ p, p ∈ L → hits p i → p.2[i - p.1.toNat * 64]? = v) → ((∃ p, p ∈ L ∧ hits p i) ∨ d = v) → ov L i d = v
  | [], d, _, h => by
    rcases h with ⟨p, hp, _⟩ | h
    · simp at hp
    · exact h
  | p :: L, d, ha, h => by
    have := ov_val (i := i) (v := v) (L := L) (d := if hits p i then p.2[i - p.1.toNat * 64]? else d) (fun q hq => ha q (by simp [hq])) (by
      by_cases hp : hits p i
      · exact .inr (by rw [if_pos hp]; exact ha p (by simp) hp)
      · rw [if_neg hp]
        rcases h with ⟨q, hq, hh⟩ | h
        · rcases List.mem_cons.1 hq with rfl | hq
          · exact absurd hh hp
          · exact .inl ⟨q, hq, hh⟩
        · exact .inr h)
    exact this
theorem layL_twice {s : List UInt8} {L : List (Int × List UInt8)} (h : ∀ p, p ∈ L → Fits (s.length / 64) p) : layL (layL s L) L = layL s L := by
  have hl := layL_length (s := s) (t := s) rfl h
  apply List.ext_getElem?
  intro i
  rw [layL_get (by rw [hl]; exact h), layL_get h]
  rcases ov_const L i with e | e
  · exact e _ _
  · rw [e]
theorem mem_diffs {s t : List UInt8} {n : Nat} {p : Int × List UInt8} : p ∈ diffs s t n ↔ ∃ i, i < n ∧ ln s i ≠ ln t i ∧ p = (((i : Nat) : Int), ln t i) := by
  simp only [diffs, List.mem_map, List.mem_filter, List.mem_range, decide_eq_true_eq]
  constructor
  · rintro ⟨i, ⟨h1, h2⟩, rfl⟩; exact ⟨i, h1, h2, rfl⟩
  · rintro ⟨i, h1, h2, rfl⟩; exact ⟨i, ⟨h1, h2⟩, rfl⟩
theorem ln_get {t : List UInt8} {i j : Nat} (h1 : j * 64 ≤ i) (h2 : i < j * 64 + 64) : (ln t j)[i - j * 64]? = t[i]? := by
  unfold ln
  rw [List.getElem?_drop, show j * 64 + (i - j * 64) = i from by omega, List.getElem?_take_of_lt (by omega)]
/-- In whatever order. -/
theorem layL_any {s t : List UInt8} (hl : s.length = t.length) (h64 : s.length % 64 = 0) {L : List (Int × List UInt8)} (hL : ∀ p, p ∈ L ↔ p ∈ diffs s t (s.length / 64)) : layL s L = t := by
  have hf : ∀ p, p ∈ L → Fits (s.length / 64) p := fun p hp => diffs_fits hl (Nat.le_refl _) p ((hL p).1 hp)
  apply List.ext_getElem?
  intro i
  rw [layL_get hf]
  by_cases hi : i < s.length
  · refine ov_val ?_ ?_
    · intro p hp hh
      obtain ⟨j, h1, h2, rfl⟩ := mem_diffs.1 ((hL p).1 hp)
      simp only [hits, Int.toNat_natCast] at hh
      simp only [Int.toNat_natCast]
      exact ln_get hh.1 hh.2
    · by_cases he : ln s (i / 64) = ln t (i / 64)
      · right
        rw [← ln_get (t := s) (j := i / 64) (by omega) (by omega), he, ln_get (by omega) (by omega)]
      · left
        refine ⟨_, (hL _).2 (mem_diffs.2 ⟨i / 64, by omega, he, rfl⟩), ?_⟩
        simp only [hits, Int.toNat_natCast]
        omega
  · rw [List.getElem?_eq_none (by omega : s.length ≤ i), List.getElem?_eq_none (by omega : t.length ≤ i)]
    refine ov_val ?_ (.inr rfl)
    intro p hp hh
    obtain ⟨h1, h2, h3⟩ := hf p hp
    simp only [hits] at hh
    omega
def hasB (Y : List (Int × List UInt8)) (v : Int) (k : Nat) : Bool := (Y.take k).any fun p => p.1 == v
theorem hasB_succ {Y : List (Int × List UInt8)} {v : Int} {k : Nat} {p : Int × List UInt8} (h : Y[k]? = some p) : hasB Y v (k + 1) = (hasB Y v k || p.1 == v) := by
  unfold hasB; rw [List.take_add_one, h]; simp
theorem merges_found {s t u : List UInt8} {n : Nat} {p : Int × List UInt8} (hp : p ∈ diffs s u n) : (hasB (diffs s t n) p.1 (diffs s t n).length || hasB (diffs t u n) p.1 (diffs t u n).length) = true := by
  obtain ⟨i, h1, h2, rfl⟩ := mem_diffs.1 hp
  unfold hasB
  rw [List.take_length, List.take_length, Bool.or_eq_true]
  by_cases h : ln s i = ln t i
  · right
    exact List.any_eq_true.2 ⟨_, mem_diffs.2 ⟨i, h1, by rw [← h]; exact h2, rfl⟩, by simp⟩
  · left
    exact List.any_eq_true.2 ⟨_, mem_diffs.2 ⟨i, h1, h, rfl⟩, by simp⟩
end Go.Proofs.Ytppccaacbpkgiaa

namespace Go.Proofs.Ytppccaacbpkgiaa
open Go Go.Proofs.Ytppccaacbpkgiaa.V
set_option maxRecDepth 20000
attribute [local irreducible] CallS AOK AOKn ALoop Side Ref.ok
theorem Sum_ok (s : List UInt8) (hs : s.length ≤ 4611686018427) : AOKn Try.prog F.crc_Sum [.sl 1 (bs s) false] fun y => y = .int .i64 (sum s : Nat) := by
  refine AOKn.by_steps mixed fc_crc_Sum_ok (by simp [fc_crc_Sum]) ?_
  skip
  all_goals (conv => whnf)
  all_goals (try dsimp only)
  refine run_val [] 4294967295 s false hs (by omega) _ ?_
  have hc := crun_lt s (n := 4294967295) (by omega)
  have ex : IntKind.u32.wrap ((BitVec.ofInt IntKind.u32.bits (if IntKind.u32.signed = true then -1 else IntKind.u32.max) ^^^ BitVec.ofInt IntKind.u32.bits ((crun 4294967295 s : Nat) : Int)).toNat : Nat) = ((sum s : Nat) : Int) :=
    xor32 (a := ones) (b := crun 4294967295 s) rfl rfl (by decide) hc
  have hsum : sum s < 4294967296 := Nat.xor_lt_two_pow (n := 32) (by decide) hc
  repeat' (first
    | ((with_reducible refine Side.intro ?_) <;> (first
    | (simp only [List.append_nil, List.nil_append, List.map_nil]; first | exact List.nodup_nil | exact nodup_bid1 _ | exact nodup_bid2 (by assumption))
    | ((first | refine fresh_tup ?_ | skip); (repeat (first |  exact FreshA.sl _ _ FreshA_bs | exact FreshA.sl _ _ FreshA_is | exact FreshA.nils | exact FreshA.nilp | exact FreshA.int _ _ | exact FreshA.bool _ | exact FreshA.str _ | exact fresh_nil | refine fresh_cons ?_ ?_ | with_reducible refine fresh_aggR ?_ | with_reducible refine fresh_agg ?_ | with_reducible exact fresh_nilA | with_reducible refine fresh_consA ?_ ?_)); done)
    ))
    | ((conv => whnf) <;> (first
    | (with_reducible refine and_side ?_ ?_)
    | ((with_reducible apply Br.yes) ; (focus omega))
    | (with_reducible refine NOut.lit ?_)
    ))
    )
  all_goals (conv => whnf)
  all_goals (try dsimp only)
  rw [ex]
  exact ret_same rfl
theorem ret_own {σ : AH} {acc : AV} {s : List UInt8} (h : Own σ 1 acc (bs s)) : outNR σ (packA [acc]) fun z => ∃ y0, NilR z y0 ∧ y0 = .sl 1 (bs s) true := by
  rcases h with ⟨rfl, h⟩ | ⟨id, gen, sp, rfl, hb⟩
  · repeat' (first
      | ((with_reducible refine Side.intro ?_) <;> (first
      | (simp only [List.append_nil, List.nil_append, List.map_nil]; first | exact List.nodup_nil | exact nodup_bid1 _ | exact nodup_bid2 (by assumption))
      | ((first | refine fresh_tup ?_ | skip); (repeat (first |  exact FreshA.sl _ _ FreshA_bs | exact FreshA.sl _ _ FreshA_is | exact FreshA.nils | exact FreshA.nilp | exact FreshA.int _ _ | exact FreshA.bool _ | exact FreshA.str _ | exact fresh_nil | refine fresh_cons ?_ ?_ | with_reducible refine fresh_aggR ?_ | with_reducible refine fresh_agg ?_ | with_reducible exact fresh_nilA | with_reducible refine fresh_consA ?_ ?_)); done)
      ))
      | ((conv => whnf) <;> (first
      | (with_reducible refine and_side ?_ ?_)
      | (with_reducible refine NOut.lit ?_)
      ))
      )
    all_goals (conv => whnf)
    all_goals (try dsimp only)
    exact ret_nil h
  · repeat' (first
      | ((with_reducible refine Side.intro ?_) <;> (first
      | (simp only [bs_length, List.length_append, List.length_cons, List.length_nil, List.length_take, List.length_drop, List.length_set, List.length_replicate]; omega)
      | (simp; done)
      ))
      | ((conv => whnf) <;> (first
      | (with_reducible refine and_same ?_)
      | (with_reducible refine and_side ?_ ?_)
      | ((with_reducible apply blkAt_step) ; (focus (first
      | ((repeat (first
      | assumption
      )); done)
      )) ; (focus (first | rfl | assumption | omega)) ; (focus (first | rfl | assumption)) ; (try dsimp only))
      | (with_reducible refine NOut.lit ?_)
      ))
      )
    all_goals (conv => whnf)
    all_goals (try dsimp only)
    all_goals rw [List.take_left]
    · exact ret_same rfl
    · exact Side.intro (fresh_bs _)
/-! ### Lines, records, marks -/
def lineB (l : List Int) : List UInt8 := cat l ++ List.replicate (64 - 8 * l.length) 0
theorem ofR_all {l : List Int} (h : l.all mayW = true) : ofR l = cat l := if_pos h
theorem ofE_all {l : List Int} (h : l.all mayW = true) : ofE l = 0 := if_pos h
theorem lineB_length {l : List Int} (h : l.length ≤ 8) : (lineB l).length = 64 := by
  unfold lineB
  rw [List.length_append, List.length_replicate, cat_length]
  omega
def recB (p : Int × List UInt8) : List UInt8 := lineB [p.1] ++ p.2
def recsB (L : List (Int × List UInt8)) : List UInt8 := (L.map recB).flatten
def markB (n : Nat) (s : List UInt8) : List UInt8 := if n = 0 then List.replicate 64 0 else lineB [(n : Int), ((sum s : Nat) : Int)]
theorem cat8 (n : Int) : cat [n, 0, 0, 0, 0, 0, 0, 0] = lineB [n] := by
  simp [cat, lineB, le]
theorem cat82 (n m : Int) : cat [n, m, 0, 0, 0, 0, 0, 0] = lineB [n, m] := by
  simp [cat, lineB, le]
theorem may0 : mayW 0 = true := by decide
theorem line_ok (l : List Int) (hl : l.length ≤ 8) (hm : l.all mayW = true) : AOKn Try.prog F.wal_line [.sl 1 (is l) false] fun y => y = .sl 1 (bs (lineB l)) true := by
  refine AOKn.by_steps mixed fc_wal_line_ok (by simp [fc_wal_line]) ?_
  skip
  all_goals (conv => whnf)
  all_goals (try dsimp only)
  refine Of_call l (by omega) (Looks.same (by simp [derefV, derefC, AV.flat, untag, untagLL_is])) fun σ1 y hg1 ho hn => ?_
  rw [ofR_all hm] at ho
  have hcl : (bs (cat l)).length = 8 * l.length := by rw [bs_length, cat_length]; omega
  repeat' (first
    | ((with_reducible refine Side.intro ?_) <;> (first
    | omega
    ))
    | ((conv => whnf) <;> (first
    | (with_reducible refine and_same ?_)
    | (with_reducible refine and_side ?_ ?_)
    | ((with_reducible apply Br.yes) ; (focus omega))
    | ((with_reducible apply lenR_own) ; (focus assumption))
    ))
    )
  all_goals (conv => whnf)
  all_goals (try dsimp only)
  have eN : (64 - ((bs (cat l)).length : Int)).toNat = 64 - 8 * l.length := by omega
  rw [eN, bs_replicate]
  refine appendR_own ho (by rw [hcl, bs_length, List.length_replicate]; omega) ?_
  intro acc σ2 ho2 hg2 hb2
  rw [bs_append] at ho2
  replace ho2 : Own σ2 1 acc (bs (lineB l)) := ho2
  skip
  all_goals (conv => whnf)
  all_goals (try dsimp only)
  exact ret_own ho2
theorem record_ok (n : Int) (b : List UInt8) (hn : mayW n = true) (hb : b.length ≤ 4611686018427) : AOKn Try.prog F.wal_record [.agg [.int .i64 n, .sl 1 (bs b) false]] fun y => y = .sl 1 (bs (recB (n, b))) true := by
  have hbl := bs_length b
  refine AOKn.by_steps mixed fc_wal_record_ok (by simp [fc_wal_record]) ?_
  repeat' (first
    | ((with_reducible apply Gr.side) ; (repeat (first | exact Gr.refl _ _ | assumption | with_reducible refine Gr.trans ?_ (Gr.boxN _ _ _ _ _) | refine Gr.setNew ?_ (by first | exact Nat.le_refl _ | (simp only [newB_length, List.length_set, List.length_append, List.length_singleton]; omega) | omega) _ | refine Gr.addN ?_ _ | refine Gr.newN ?_ _ _ _ | exact Gr.trans (by assumption) (by assumption) | refine Gr.trans ?_ (by assumption) | refine Gr.trans (by assumption) ?_)) ; (first | done | fail))
    | ((with_reducible refine Side.intro ?_) <;> (first
    | omega
    | exact Nat.le_of_ble_eq_true rfl
    | exact rfl
    ))
    | ((conv => whnf) <;> (first
    | (with_reducible refine and_side ?_ ?_)
    | ((with_reducible apply blkAt_step) ; (focus (first
    | exact rfl
    )) ; (focus (first | rfl | assumption | omega)) ; (focus (first | rfl | assumption)) ; (try dsimp only))
    ))
    )
  all_goals (conv => whnf)
  all_goals (try dsimp only)
  refine call_sl (line_ok [n] (by simp) (by simp [hn])) (.cons (Looks.ownis (.mk' (sp := []) get_new rfl rfl)) .nil) fun σ1 y hg1 ho hy => ?_
  have b1 := hg1.2 0 _ (get_old get_new) (by simp)
  have hll := bs_length (lineB [n])
  rw [lineB_length (by simp)] at hll
  repeat' (first
    | ((with_reducible apply Gr.side) ; with_reducible assumption)
    | ((conv => whnf) <;> (first
    | (with_reducible refine and_side ?_ ?_)
    | (with_reducible refine AppC.frz ?_)
    | (with_reducible refine rowsR_sl ?_)
    ))
    )
  all_goals (conv => whnf)
  all_goals (try dsimp only)
  refine appendR_own ho (by rw [hll, bs_length]; omega) ?_
  intro acc σ2 ho2 hg2 hb2
  rw [bs_append] at ho2
  replace ho2 : Own σ2 1 acc (bs (recB (n, b))) := ho2
  skip
  all_goals (conv => whnf)
  all_goals (try dsimp only)
  exact ret_own ho2
end Go.Proofs.Ytppccaacbpkgiaa

namespace Go.Proofs.Ytppccaacbpkgiaa
open Go Go.Proofs.Ytppccaacbpkgiaa.V
set_option maxRecDepth 20000
attribute [local irreducible] CallS AOK AOKn ALoop Side Ref.ok
/-! ### Changes of the log's lines -/
def hasMine (g : LogV) (L : List (Int × List UInt8)) : Prop := ∃ p, p ∈ L ∧ mineG g p.1
instance (g : LogV) (L : List (Int × List UInt8)) : Decidable (hasMine g L) := by unfold hasMine; infer_instance
def inI2 (n : Int) : Prop := n ≤ 9223372036854775807 ∧ -9223372036854775808 ≤ n
theorem noMine_step {g : LogV} {L : List (Int × List UInt8)} {k : Nat} {p : Int × List UInt8} (h : ∀ j q, j < k → L[j]? = some q → ¬ mineG g q.1) (hp : L[k]? = some p) (hm : ¬ mineG g p.1) : ∀ j q, j < k + 1 → L[j]? = some q → ¬ mineG g q.1 := by
  intro j q hj hq
  by_cases e : j = k
  · subst e; rw [hp] at hq; cases hq; exact hm
  · exact h j q (by omega) hq
theorem noMine_all {g : LogV} {L : List (Int × List UInt8)} (h : ∀ j q, j < L.length → L[j]? = some q → ¬ mineG g q.1) : ¬ hasMine g L := by
  rintro ⟨p, hp, hm⟩
  obtain ⟨j, hj⟩ := List.getElem?_of_mem hp
  exact h j p (List.getElem?_eq_some_iff.1 hj).1 hj hm
theorem mine1_val {σ : AH} {g : LogV} {bx : Nat} {pu : Bool} (hb : σ[bx]? = some { sz := 3, els := [logR g], gen := 0, wr := true, pure := pu }) (n : Int) (hn : inI2 n) (b : List UInt8) (f : Bool) (Q : AV → AH → Prop) (hQ : ∀ σ', Gr σ σ' none → Q (.bool (decide (mineG g n))) σ') : CallS Try.prog F.wal_mine_1 [.agg [.int .i64 n, .sl 1 (bs b) f], .ptr bx 0 0 0] σ Q := by
  have hL := looks_log
  have hM := wMine_ok g n hn
  have hlt := (List.getElem?_eq_some_iff.1 hb).1
  refine call_of_body mixed fc_wal_mine_1_ok (by simp [fc_wal_mine_1]) ?_
  repeat' (first
    | ((with_reducible refine Side.intro ?_) <;> (first
    | exact Nat.le_of_ble_eq_true rfl
    | exact rfl
    ))
    | ((conv => whnf) <;> (first
    | (with_reducible refine and_side ?_ ?_)
    | ((with_reducible apply blkAt_step) ; (focus (first
    | ((repeat (first
    | assumption
    | exact get_new
    | apply get_old
    )); done)
    )) ; (focus (first | rfl | assumption | omega)) ; (focus (first | rfl | assumption)) ; (try dsimp only))
    ))
    )
  all_goals (conv => whnf)
  all_goals (try dsimp only)
  refine call_one hM (.cons (hL _ g) (.cons (Looks.int _ _ _) .nil)) rfl fun σ1 hg1 => ?_
  skip
  all_goals (conv => whnf)
  all_goals (try dsimp only)
  exact hQ _ (Gr.trans (by (repeat (first
        | exact Gr.refl _ _
        | refine Gr.addN ?_ _
        ))) hg1)
theorem mine_ok (g : LogV) (L : List (Int × List UInt8)) (hL : L.length ≤ 1048576) (hI : ∀ p, p ∈ L → inI2 p.1) : AOKn Try.prog F.wal_mine [.agg (logR g), .sl 2 (chg false L) false] fun y => y = .bool (decide (hasMine g L)) := by
  have hcl := chg_length false L
  refine AOKn.by_steps mixed fc_wal_mine_ok (by simp [fc_wal_mine]) ?_
  repeat' (first
    | ((with_reducible refine Side.intro ?_) <;> (first
    | exact rfl
    ))
    | ((conv => whnf) <;> (first
    | (with_reducible refine and_side ?_ ?_)
    ))
    )
  all_goals (conv => whnf)
  all_goals (try dsimp only)
  refine call_of_body mixed fc_slices_ContainsFunc_ok (by simp [fc_slices_ContainsFunc]) ?_
  skip
  all_goals (conv => whnf)
  all_goals (try dsimp only)
  refine call_of_body mixed fc_slices_IndexFunc_ok (by simp [fc_slices_IndexFunc]) ?_
  repeat' (first
    | ((conv => whnf) <;> (first
    | (with_reducible refine lenR_sl ?_)
    ))
    )
  all_goals (conv => whnf)
  all_goals (try dsimp only)
  refine loop_at (α := Nat × AH) (fun a => [(8, .int .i64 a.1)]) (fun a => a.2) (fun a => a.1 ≤ L.length ∧ (∀ j q, j < a.1 → L[j]? = some q → ¬ mineG g q.1) ∧ a.2[0]? = some { sz := 3, els := [logR g], gen := 0, wr := true, pure := true }) (fun a => L.length - a.1) (0, _) ⟨by omega, (fun _ _ q => absurd q (Nat.not_lt_zero _)), get_new⟩ rfl rfl ?_
  rintro ⟨k, σ1⟩ ⟨hk, hok, hb⟩
  dsimp only at hk hok hb ⊢
  by_cases hlt : k < L.length
  · obtain ⟨p, hp, hpk⟩ := getN hlt
    have hpI := hI p (List.mem_of_getElem? hpk)
    repeat' (first
      | ((with_reducible refine Side.intro ?_) <;> (first
      | omega
      | exact Nat.le_of_ble_eq_true rfl
      ))
      | ((conv => whnf) <;> (first
      | (with_reducible refine and_same ?_)
      | (with_reducible refine and_side ?_ ?_)
      | ((with_reducible apply Br.yes) ; (focus omega))
      | ((with_reducible apply nthR_chg1) ; (focus assumption))
      | (with_reducible refine ia_sl ?_ ?_)
      ))
      )
    all_goals (conv => whnf)
    all_goals (try dsimp only)
    refine mine1_val hb p.1 hpI p.2 false _ fun σ2 hg2 => ?_
    have hb2 := hg2.2 _ _ hb (by simp)
    by_cases hm : mineG g p.1
    · rw [decide_eq_true hm]
      repeat' (first
        | ((with_reducible refine Side.intro ?_) <;> (first
        | (simp only [List.append_nil, List.nil_append, List.map_nil]; first | exact List.nodup_nil | exact nodup_bid1 _ | exact nodup_bid2 (by assumption))
        | ((first | refine fresh_tup ?_ | skip); (repeat (first |  exact FreshA.sl _ _ FreshA_bs | exact FreshA.sl _ _ FreshA_is | exact FreshA.nils | exact FreshA.nilp | exact FreshA.int _ _ | exact FreshA.bool _ | exact FreshA.str _ | exact fresh_nil | refine fresh_cons ?_ ?_ | with_reducible refine fresh_aggR ?_ | with_reducible refine fresh_agg ?_ | with_reducible exact fresh_nilA | with_reducible refine fresh_consA ?_ ?_)); done)
        ))
        | ((conv => whnf) <;> (first
        | (with_reducible refine and_same ?_)
        | (with_reducible refine and_side ?_ ?_)
        | ((with_reducible apply Br.yes) ; (focus omega))
        | (with_reducible refine NOut.lit ?_)
        ))
        )
      all_goals (conv => whnf)
      all_goals (try dsimp only)
      exact ret_bool (decide_eq_true ⟨p, List.mem_of_getElem? hpk, hm⟩).symm
    · rw [decide_eq_false hm]
      repeat' (first
        | ((conv => whnf) <;> (first
        | (with_reducible refine and_same ?_)
        | ((with_reducible apply Br.yes) ; (focus omega))
        ))
        )
      all_goals (conv => whnf)
      all_goals (try dsimp only)
      exact ⟨(k + 1, σ2), rfl, rfl, ⟨by dsimp only; omega, noMine_step hok hpk hm, hb2⟩, by dsimp only; omega⟩
  · have ek : k = L.length := by omega
    subst ek
    repeat' (first
      | ((with_reducible refine Side.intro ?_) <;> (first
      | (simp only [List.append_nil, List.nil_append, List.map_nil]; first | exact List.nodup_nil | exact nodup_bid1 _ | exact nodup_bid2 (by assumption))
      | ((first | refine fresh_tup ?_ | skip); (repeat (first |  exact FreshA.sl _ _ FreshA_bs | exact FreshA.sl _ _ FreshA_is | exact FreshA.nils | exact FreshA.nilp | exact FreshA.int _ _ | exact FreshA.bool _ | exact FreshA.str _ | exact fresh_nil | refine fresh_cons ?_ ?_ | with_reducible refine fresh_aggR ?_ | with_reducible refine fresh_agg ?_ | with_reducible exact fresh_nilA | with_reducible refine fresh_consA ?_ ?_)); done)
      ))
      | ((conv => whnf) <;> (first
      | (with_reducible refine and_same ?_)
      | (with_reducible refine and_side ?_ ?_)
      | ((with_reducible apply Br.no) ; (focus omega))
      | (with_reducible refine NOut.lit ?_)
      ))
      )
    all_goals (conv => whnf)
    all_goals (try dsimp only)
    exact ret_bool (decide_eq_false (noMine_all hok)).symm
theorem foreign_ok (g : LogV) (L : List (Int × List UInt8)) (hL : L.length ≤ 1048576) (hI : ∀ p, p ∈ L → inI2 p.1) : AOKn Try.prog F.joistref05_foreign [.agg (logR g), .sl 2 (chg false L) false] fun y => y = .bool (!(decide (hasMine g L))) := by
  have hcl := chg_length false L
  have hLg := looks_log
  refine AOKn.by_steps mixed fc_joistref05_foreign_ok (by simp [fc_joistref05_foreign]) ?_
  repeat' (first
    | ((with_reducible refine Side.intro ?_) <;> (first
    | exact rfl
    ))
    | ((conv => whnf) <;> (first
    | (with_reducible refine and_side ?_ ?_)
    ))
    )
  all_goals (conv => whnf)
  all_goals (try dsimp only)
  refine loop_at (α := Nat × AH) (fun a => [(5, .int .i64 a.1)]) (fun a => a.2) (fun a => a.1 ≤ L.length ∧ (∀ j q, j < a.1 → L[j]? = some q → ¬ mineG g q.1) ∧ a.2[0]? = some { sz := 3, els := [logR g], gen := 0, wr := true, pure := true }) (fun a => L.length - a.1) (0, _) ⟨by omega, (fun _ _ q => absurd q (Nat.not_lt_zero _)), get_new⟩ rfl rfl ?_
  rintro ⟨k, σ1⟩ ⟨hk, hok, hb⟩
  dsimp only at hk hok hb ⊢
  by_cases hlt : k < L.length
  · obtain ⟨p, hp, hpk⟩ := getN hlt
    have hpI := hI p (List.mem_of_getElem? hpk)
    repeat' (first
      | ((with_reducible refine Side.intro ?_) <;> (first
      | omega
      | exact Nat.le_of_ble_eq_true rfl
      ))
      | ((conv => whnf) <;> (first
      | (with_reducible refine and_same ?_)
      | (with_reducible refine and_side ?_ ?_)
      | ((with_reducible apply Br.yes) ; (focus omega))
      | ((with_reducible apply blkAt_step) ; (focus (first
      | ((repeat (first
      | assumption
      )); done)
      )) ; (focus (first | rfl | assumption | omega)) ; (focus (first | rfl | assumption)) ; (try dsimp only))
      | ((with_reducible apply nthR_chg1) ; (focus assumption))
      | (with_reducible refine ia_sl ?_ ?_)
      | (with_reducible refine lenR_sl ?_)
      ))
      )
    all_goals (conv => whnf)
    all_goals (try dsimp only)
    refine call_one (rMine_ok g p.1 hpI) (.cons (hLg _ g) (.cons (Looks.int _ _ _) .nil)) rfl fun σ2 hg2 => ?_
    have hb2 := hg2.2 _ _ hb (by simp)
    by_cases hm : mineG g p.1
    · rw [decide_eq_true hm]
      repeat' (first
        | ((with_reducible refine Side.intro ?_) <;> (first
        | (simp only [List.append_nil, List.nil_append, List.map_nil]; first | exact List.nodup_nil | exact nodup_bid1 _ | exact nodup_bid2 (by assumption))
        | ((first | refine fresh_tup ?_ | skip); (repeat (first |  exact FreshA.sl _ _ FreshA_bs | exact FreshA.sl _ _ FreshA_is | exact FreshA.nils | exact FreshA.nilp | exact FreshA.int _ _ | exact FreshA.bool _ | exact FreshA.str _ | exact fresh_nil | refine fresh_cons ?_ ?_ | with_reducible refine fresh_aggR ?_ | with_reducible refine fresh_agg ?_ | with_reducible exact fresh_nilA | with_reducible refine fresh_consA ?_ ?_)); done)
        ))
        | ((conv => whnf) <;> (first
        | (with_reducible refine and_side ?_ ?_)
        | (with_reducible refine NOut.lit ?_)
        ))
        )
      all_goals (conv => whnf)
      all_goals (try dsimp only)
      exact ret_bool (by rw [decide_eq_true ⟨p, List.mem_of_getElem? hpk, hm⟩]; rfl)
    · rw [decide_eq_false hm]
      repeat' (first
        | ((conv => whnf) <;> (first
        | (with_reducible refine and_same ?_)
        | ((with_reducible apply Br.yes) ; (focus omega))
        ))
        )
      all_goals (conv => whnf)
      all_goals (try dsimp only)
      exact ⟨(k + 1, σ2), rfl, rfl, ⟨by dsimp only; omega, noMine_step hok hpk hm, hb2⟩, by dsimp only; omega⟩
  · have ek : k = L.length := by omega
    subst ek
    repeat' (first
      | ((with_reducible refine Side.intro ?_) <;> (first
      | (simp only [List.append_nil, List.nil_append, List.map_nil]; first | exact List.nodup_nil | exact nodup_bid1 _ | exact nodup_bid2 (by assumption))
      | ((first | refine fresh_tup ?_ | skip); (repeat (first |  exact FreshA.sl _ _ FreshA_bs | exact FreshA.sl _ _ FreshA_is | exact FreshA.nils | exact FreshA.nilp | exact FreshA.int _ _ | exact FreshA.bool _ | exact FreshA.str _ | exact fresh_nil | refine fresh_cons ?_ ?_ | with_reducible refine fresh_aggR ?_ | with_reducible refine fresh_agg ?_ | with_reducible exact fresh_nilA | with_reducible refine fresh_consA ?_ ?_)); done)
      ))
      | ((conv => whnf) <;> (first
      | (with_reducible refine and_same ?_)
      | (with_reducible refine and_side ?_ ?_)
      | ((with_reducible apply Br.no) ; (focus omega))
      | (with_reducible refine NOut.lit ?_)
      | (with_reducible refine lenR_sl ?_)
      ))
      )
    all_goals (conv => whnf)
    all_goals (try dsimp only)
    exact ret_bool (by rw [decide_eq_false (noMine_all hok)]; rfl)
theorem mark_ok (n : Nat) (s : List UInt8) (hn : n ≤ 1048576) (hs : s.length ≤ 4611686018427) : AOKn Try.prog F.joistref05_mark [.int .i64 n, .sl 1 (bs s) false] fun y => y = .sl 1 (bs (markB n s)) true := by
  have hlt := sum_lt s
  refine AOKn.by_steps mixed fc_joistref05_mark_ok (by simp [fc_joistref05_mark]) ?_
  by_cases h0 : n = 0
  · subst h0
    repeat' (first
      | ((with_reducible refine Side.intro ?_) <;> (first
      | omega
      | exact Nat.le_of_ble_eq_true rfl
      | exact rfl
      ))
      | ((conv => whnf) <;> (first
      | (with_reducible refine and_same ?_)
      | (with_reducible refine and_side ?_ ?_)
      | ((with_reducible apply Br.no) ; (focus omega))
      ))
      )
    all_goals (conv => whnf)
    all_goals (try dsimp only)
    refine ROf_call [0, 0, 0, 0, 0, 0, 0, 0] (by simp) (Looks.ownis (.mk' (sp := []) get_new rfl rfl)) fun σ1 y hg1 ho hn => ?_
    have e : ofR [0, 0, 0, 0, 0, 0, 0, 0] = markB 0 s := (by decide +kernel : ofR [0, 0, 0, 0, 0, 0, 0, 0] = List.replicate 64 0).trans (if_pos rfl).symm
    rw [e] at ho
    skip
    all_goals (conv => whnf)
    all_goals (try dsimp only)
    exact ret_own ho
  · repeat' (first
      | ((conv => whnf) <;> (first
      | (with_reducible refine and_same ?_)
      | ((with_reducible apply Br.yes) ; (focus omega))
      ))
      )
    all_goals (conv => whnf)
    all_goals (try dsimp only)
    refine RSum_val [] s false hs _ ?_
    repeat' (first
      | ((with_reducible refine Side.intro ?_) <;> (first
      | omega
      | exact Nat.le_of_ble_eq_true rfl
      | exact rfl
      ))
      | ((conv => whnf) <;> (first
      | (with_reducible refine and_side ?_ ?_)
      ))
      )
    all_goals (conv => whnf)
    all_goals (try dsimp only)
    refine ROf_call [(n : Int), ((sum s : Nat) : Int), 0, 0, 0, 0, 0, 0] (by simp) (Looks.ownis (.mk' (sp := []) get_new rfl rfl)) fun σ1 y hg1 ho hn => ?_
    have e : ofR [(n : Int), ((sum s : Nat) : Int), 0, 0, 0, 0, 0, 0] = markB n s := by
      rw [ofR_all, cat82]
      · exact (if_neg h0).symm
      · simp only [List.all_cons, List.all_nil, may0, Bool.and_true, Bool.and_eq_true]
        refine ⟨by unfold mayW; rw [decide_eq_true_iff]; omega, by unfold mayW; rw [decide_eq_true_iff]; omega⟩
    rw [e] at ho
    skip
    all_goals (conv => whnf)
    all_goals (try dsimp only)
    exact ret_own ho
end Go.Proofs.Ytppccaacbpkgiaa

namespace Go.Proofs.Ytppccaacbpkgiaa
open Go Go.Proofs.Ytppccaacbpkgiaa.V
set_option maxRecDepth 20000
attribute [local irreducible] CallS AOK AOKn ALoop Side Ref.ok
theorem recsB_succ {L : List (Int × List UInt8)} {k : Nat} {p : Int × List UInt8} (h : L[k]? = some p) : recsB (L.take (k + 1)) = recsB (L.take k) ++ recB p := by
  unfold recsB
  rw [List.take_add_one, h]
  simp
theorem recB_length (p : Int × List UInt8) : (recB p).length = 64 + p.2.length := by
  unfold recB
  rw [List.length_append, lineB_length (by simp)]
theorem recsB_length {m : Nat} : ∀ {L : List (Int × List UInt8)}, (∀ p, p ∈ L → p.2.length ≤ m) → (recsB L).length ≤ L.length * (64 + m)
  | [], _ => Nat.zero_le _
  | p :: L, h => by
    have h1 := recsB_length (L := L) (m := m) fun q hq => h q (by simp [hq])
    have h2 := h p (by simp)
    have e : recsB (p :: L) = recB p ++ recsB L := rfl
    rw [e, List.length_append, recB_length, List.length_cons, Nat.succ_mul]
    omega
theorem records_ok (L : List (Int × List UInt8)) (hL : L.length ≤ 1048576) (hm : ∀ p, p ∈ L → mayW p.1 = true ∧ p.2.length ≤ 1048576) : AOKn Try.prog F.joistref05_records [.sl 2 (chg false L) false] fun y => y = .sl 1 (bs (recsB L)) true := by
  have hcl := chg_length false L
  refine AOKn.by_steps mixed fc_joistref05_records_ok (by simp [fc_joistref05_records]) ?_
  skip
  all_goals (conv => whnf)
  all_goals (try dsimp only)
  refine loop_at (α := Nat × AV × AH) (fun a => [(3, a.2.1), (4, .int .i64 a.1)]) (fun a => a.2.2) (fun a => a.1 ≤ L.length ∧ Own a.2.2 1 a.2.1 (bs (recsB (L.take a.1)))) (fun a => L.length - a.1) (0, .nils, []) ⟨by omega, Own.nil _ _⟩ rfl rfl ?_
  rintro ⟨k, y, σ1⟩ ⟨hk, ho⟩
  dsimp only at hk ho ⊢
  by_cases hlt : k < L.length
  · obtain ⟨p, hp, hpk⟩ := getN hlt
    obtain ⟨hp1, hp2⟩ := hm p (List.mem_of_getElem? hpk)
    have hbp := bs_length p.2
    have hrl : (recsB (L.take k)).length ≤ 1048576 * (64 + 1048576) := by
      refine Nat.le_trans (recsB_length (m := 1048576) fun q hq => (hm q (List.mem_of_mem_take hq)).2) ?_
      rw [List.length_take]
      exact Nat.mul_le_mul_right _ (by omega)
    repeat' (first
      | ((with_reducible refine Side.intro ?_) <;> (first
      | omega
      | exact Nat.le_of_ble_eq_true rfl
      | exact rfl
      ))
      | ((conv => whnf) <;> (first
      | (with_reducible refine and_same ?_)
      | (with_reducible refine and_side ?_ ?_)
      | ((with_reducible apply Br.yes) ; (focus omega))
      | ((with_reducible apply nthR_chg1) ; (focus assumption))
      | (with_reducible refine ia_sl ?_ ?_)
      | (with_reducible refine lenR_sl ?_)
      ))
      )
    all_goals (conv => whnf)
    all_goals (try dsimp only)
    refine ROf_call [p.1, 0, 0, 0, 0, 0, 0, 0] (by simp) (Looks.ownis (.mk' (sp := []) get_new rfl rfl)) fun σ2 w hg2 how hw => ?_
    have e : ofR [p.1, 0, 0, 0, 0, 0, 0, 0] = lineB [p.1] := by
      rw [ofR_all, cat8]
      simp [may0, hp1]
    rw [e] at how
    have hlw := bs_length (lineB [p.1])
    rw [lineB_length (by simp)] at hlw
    have gg : Gr σ1 σ2 none := Gr.trans (by (repeat (first
          | exact Gr.refl _ _
          | refine Gr.addN ?_ _
          ))) hg2
    replace ho := ho.keepN gg
    repeat' (first
      | ((with_reducible refine Side.intro ?_) <;> (first
      | omega
      ))
      | ((conv => whnf) <;> (first
      | ((with_reducible apply nthR_chg1) ; (focus assumption))
      | ((with_reducible apply rowsR_own) ; (focus assumption))
      | (with_reducible refine ia_sl ?_ ?_)
      | (with_reducible refine AppC.frz ?_)
      ))
      )
    all_goals (conv => whnf)
    all_goals (try dsimp only)
    refine appendR_own ho (by rw [hlw, bs_length]; omega) ?_
    intro y2 σ3 ho3 hg3 hb3
    rw [bs_append] at ho3
    have hl3 : (recsB (L.take k) ++ lineB [p.1]).length = (recsB (L.take k)).length + 64 := by rw [List.length_append, lineB_length (by simp)]
    repeat' (first
      | ((conv => whnf) <;> (first
      | (with_reducible refine AppC.frz ?_)
      | (with_reducible refine rowsR_sl ?_)
      ))
      )
    all_goals (conv => whnf)
    all_goals (try dsimp only)
    refine appendR_own ho3 (by rw [bs_length, bs_length, hl3]; omega) ?_
    intro y3 σ4 ho4 hg4 hb4
    rw [bs_append, List.append_assoc] at ho4
    repeat' (first
      | ((conv => whnf) <;> (first
      | (with_reducible refine and_same ?_)
      | ((with_reducible apply Br.yes) ; (focus omega))
      ))
      )
    all_goals (conv => whnf)
    all_goals (try dsimp only)
    exact ⟨(k + 1, y3, σ4), rfl, rfl, ⟨hlt, by dsimp only; rw [recsB_succ hpk]; exact ho4⟩, by dsimp only; omega⟩
  · have ek : k = L.length := by omega
    subst ek
    rw [List.take_length] at ho
    repeat' (first
      | ((conv => whnf) <;> (first
      | (with_reducible refine and_same ?_)
      | ((with_reducible apply Br.no) ; (focus omega))
      | (with_reducible refine lenR_sl ?_)
      ))
      )
    all_goals (conv => whnf)
    all_goals (try dsimp only)
    exact ret_own ho
/-! ### Write -/
def wrE (g : LogV) (L : List (Int × List UInt8)) : Int := if ¬ rightG g 4096 ∨ rightB 4096 L = false ∨ hasMine g L then 1 else if g.Room < L.length then 6 else 0
def wrR (g : LogV) (L : List (Int × List UInt8)) : List UInt8 := if wrE g L = 0 then recsB L else []
def wrM (g : LogV) (L : List (Int × List UInt8)) : List UInt8 := if wrE g L = 0 then markB L.length (recsB L) else []
theorem right_line {n : Int} {L : List (Int × List UInt8)} (h : rightB n L = true) {p : Int × List UInt8} (hp : p ∈ L) : 0 ≤ p.1 ∧ p.1 < n ∧ p.2.length = 64 := by
  obtain ⟨j, hj⟩ := List.getElem?_of_mem hp
  have hlt := (List.getElem?_eq_some_iff.1 hj).1
  have := List.all_eq_true.1 h j (List.mem_range.2 hlt)
  unfold okAt at this
  rw [hj] at this
  simp at this
  omega
theorem lineB_nil : lineB [] = List.replicate 64 0 := by simp [lineB, cat]
theorem wWrite_ok (g : LogV) (L : List (Int × List UInt8)) (hL : L.length ≤ 1048576) (hI : ∀ p, p ∈ L → inI2 p.1) : AOKn Try.prog F.wal_Write [.agg (logR g), .sl 2 (chg false L) false] fun y => y = .tup [.sl 1 (bs (wrR g L)) true, .sl 1 (bs (wrM g L)) true, .int .i64 (wrE g L)] := by
  have hcl := chg_length false L
  have hLg := looks_log
  have hE1 : (¬ rightG g 4096 ∨ rightB 4096 L = false ∨ hasMine g L) → wrE g L = 1 := fun q => if_pos q
  have hE6 : ¬ (¬ rightG g 4096 ∨ rightB 4096 L = false ∨ hasMine g L) → g.Room < L.length → wrE g L = 6 := fun q r => by unfold wrE; rw [if_neg q, if_pos r]
  have hE0 : ¬ (¬ rightG g 4096 ∨ rightB 4096 L = false ∨ hasMine g L) → ¬ g.Room < L.length → wrE g L = 0 := fun q r => by unfold wrE; rw [if_neg q, if_neg r]
  have bad : wrE g L ≠ 0 → wrR g L = [] ∧ wrM g L = [] := fun q => ⟨if_neg q, if_neg q⟩
  have good : wrE g L = 0 → wrR g L = recsB L ∧ wrM g L = markB L.length (recsB L) := fun q => ⟨if_pos q, if_pos q⟩
  have fail : ∀ k, wrE g L = k → k ≠ 0 → ∃ y0, NilR (.tup [.nils, .nils, .int .i64 k]) y0 ∧ y0 = .tup [.sl 1 (bs (wrR g L)) true, .sl 1 (bs (wrM g L)) true, .int .i64 (wrE g L)] := fun k q r => by
    obtain ⟨e1, e2⟩ := bad (by rw [q]; exact r)
    rw [e1, e2, q]
    exact ⟨_, .tup (.cons (.nil _ _) (.cons (.nil _ _) (.cons (.refl _) .nil))), rfl⟩
  generalize wrE g L = ek at *
  generalize wrR g L = rs at *
  generalize wrM g L = ms at *
  refine AOKn.by_steps mixed fc_wal_Write_ok (by simp [fc_wal_Write]) ?_
  repeat' (first
    | ((with_reducible refine Side.intro ?_) <;> (first
    | exact Nat.le_of_ble_eq_true rfl
    | exact rfl
    ))
    | ((conv => whnf) <;> (first
    | (with_reducible refine and_side ?_ ?_)
    | ((with_reducible apply blkAt_step) ; (focus (first
    | exact rfl
    )) ; (focus (first | rfl | assumption | omega)) ; (focus (first | rfl | assumption)) ; (try dsimp only))
    ))
    )
  all_goals (conv => whnf)
  all_goals (try dsimp only)
  have hR := wRight_ok g 4096 (by omega)
  by_cases h1 : rightG g 4096
  · rw [decide_eq_true h1] at hR
    refine call_one hR (.cons (hLg _ g) (.cons (Looks.int _ _ _) .nil)) rfl fun σ1 hg1 => ?_
    have b1 := hg1.2 0 _ get_new (by simp)
    skip
    all_goals (conv => whnf)
    all_goals (try dsimp only)
    have hRL := lines_Right_ok 4096 L (by omega)
    by_cases h2 : rightB 4096 L = true
    · rw [h2] at hRL
      refine call_one hRL (.cons (Looks.int _ _ _) (.cons (looks_chg _ _ _) .nil)) rfl fun σ2 hg2 => ?_
      have b2 := hg2.2 0 _ b1 (by simp)
      repeat' (first
        | ((with_reducible refine Side.intro ?_) <;> (first
        | exact Nat.le_of_ble_eq_true rfl
        ))
        | ((conv => whnf) <;> (first
        | (with_reducible refine and_side ?_ ?_)
        | ((with_reducible apply blkAt_step) ; (focus (first
        | ((repeat (first
        | assumption
        )); done)
        )) ; (focus (first | rfl | assumption | omega)) ; (focus (first | rfl | assumption)) ; (try dsimp only))
        ))
        )
      all_goals (conv => whnf)
      all_goals (try dsimp only)
      have hM := mine_ok g L hL hI
      by_cases h3 : hasMine g L
      · rw [decide_eq_true h3] at hM
        refine call_one hM (.cons (hLg _ g) (.cons (looks_chg _ _ _) .nil)) rfl fun σ3 hg3 => ?_
        repeat' (first
          | ((with_reducible refine Side.intro ?_) <;> (first
          | (simp only [List.append_nil, List.nil_append, List.map_nil]; first | exact List.nodup_nil | exact nodup_bid1 _ | exact nodup_bid2 (by assumption))
          | ((first | refine fresh_tup ?_ | skip); (repeat (first |  exact FreshA.sl _ _ FreshA_bs | exact FreshA.sl _ _ FreshA_is | exact FreshA.nils | exact FreshA.nilp | exact FreshA.int _ _ | exact FreshA.bool _ | exact FreshA.str _ | exact fresh_nil | refine fresh_cons ?_ ?_ | with_reducible refine fresh_aggR ?_ | with_reducible refine fresh_agg ?_ | with_reducible exact fresh_nilA | with_reducible refine fresh_consA ?_ ?_)); done)
          ))
          | ((conv => whnf) <;> (first
          | (with_reducible refine and_side ?_ ?_)
          | (with_reducible refine NOut.lit ?_)
          ))
          )
        all_goals (conv => whnf)
        all_goals (try dsimp only)
        exact fail 1 (hE1 (.inr (.inr h3))) (by decide)
      · rw [decide_eq_false h3] at hM
        refine call_one hM (.cons (hLg _ g) (.cons (looks_chg _ _ _) .nil)) rfl fun σ3 hg3 => ?_
        have b3 := hg3.2 0 _ b2 (by simp)
        have hno : ¬ (¬ rightG g 4096 ∨ rightB 4096 L = false ∨ hasMine g L) := by
          rintro (q | q | q)
          · exact q h1
          · rw [h2] at q; cases q
          · exact h3 q
        by_cases h4 : g.Room < L.length
        · repeat' (first
            | ((with_reducible refine Side.intro ?_) <;> (first
            | (simp only [List.append_nil, List.nil_append, List.map_nil]; first | exact List.nodup_nil | exact nodup_bid1 _ | exact nodup_bid2 (by assumption))
            | ((first | refine fresh_tup ?_ | skip); (repeat (first |  exact FreshA.sl _ _ FreshA_bs | exact FreshA.sl _ _ FreshA_is | exact FreshA.nils | exact FreshA.nilp | exact FreshA.int _ _ | exact FreshA.bool _ | exact FreshA.str _ | exact fresh_nil | refine fresh_cons ?_ ?_ | with_reducible refine fresh_aggR ?_ | with_reducible refine fresh_agg ?_ | with_reducible exact fresh_nilA | with_reducible refine fresh_consA ?_ ?_)); done)
            ))
            | ((conv => whnf) <;> (first
            | (with_reducible refine and_same ?_)
            | (with_reducible refine and_side ?_ ?_)
            | ((with_reducible apply Br.yes) ; (focus omega))
            | ((with_reducible apply blkAt_step) ; (focus (first
            | ((repeat (first
            | assumption
            )); done)
            )) ; (focus (first | rfl | assumption | omega)) ; (focus (first | rfl | assumption)) ; (try dsimp only))
            | (with_reducible refine NOut.lit ?_)
            | (with_reducible refine lenR_sl ?_)
            ))
            )
          all_goals (conv => whnf)
          all_goals (try dsimp only)
          exact fail 6 (hE6 hno h4) (by decide)
        · have hw := hE0 hno h4
          obtain ⟨e1, e2⟩ := good hw
          by_cases h5 : L.length = 0
          · have hLn : L = [] := List.length_eq_zero_iff.1 h5
            have er : rs = [] := by rw [e1, hLn]; rfl
            have em : ms = lineB [] := by rw [e2, lineB_nil, hLn]; exact if_pos rfl
            rw [er, em, hw]
            repeat' (first
              | ((conv => whnf) <;> (first
              | (with_reducible refine and_same ?_)
              | ((with_reducible apply Br.yes) ; (focus omega))
              | ((with_reducible apply Br.no) ; (focus omega))
              | ((with_reducible apply blkAt_step) ; (focus (first
              | ((repeat (first
              | assumption
              )); done)
              )) ; (focus (first | rfl | assumption | omega)) ; (focus (first | rfl | assumption)) ; (try dsimp only))
              | (with_reducible refine lenR_sl ?_)
              ))
              )
            all_goals (conv => whnf)
            all_goals (try dsimp only)
            refine call_sl (line_ok [] (by simp) rfl) (.cons (Looks.ownis (s := []) (Own.nil _ _)) .nil) fun σ4 y hg4 ho4 hy4 => ?_
            repeat' (first
              | ((with_reducible refine Side.intro ?_) <;> (first
              | (simp only [List.append_nil, List.nil_append, List.map_nil]; first | exact List.nodup_nil | exact nodup_bid1 _ | exact nodup_bid2 (by assumption))
              | ((first | refine fresh_tup ?_ | skip); (repeat (first |  exact FreshA.sl _ _ FreshA_bs | exact FreshA.sl _ _ FreshA_is | exact FreshA.nils | exact FreshA.nilp | exact FreshA.int _ _ | exact FreshA.bool _ | exact FreshA.str _ | exact fresh_nil | refine fresh_cons ?_ ?_ | with_reducible refine fresh_aggR ?_ | with_reducible refine fresh_agg ?_ | with_reducible exact fresh_nilA | with_reducible refine fresh_consA ?_ ?_)); done)
              ))
              | ((conv => whnf) <;> (first
              | (with_reducible refine and_side ?_ ?_)
              | ((with_reducible apply NOut.own) ; (focus assumption))
              | (with_reducible refine NOut.lit ?_)
              ))
              )
            all_goals (conv => whnf)
            all_goals (try dsimp only)
            exact ret_nilt rfl
          · have hin : ∀ p, p ∈ L → mayW p.1 = true ∧ p.2.length = 64 := fun p hp => by
              have := right_line h2 hp
              exact ⟨by unfold mayW; rw [decide_eq_true_iff]; omega, this.2.2⟩
            have hrl : ∀ k, (recsB (L.take k)).length ≤ 1048576 * (64 + 64) := fun k => by
              refine Nat.le_trans (recsB_length (m := 64) fun q hq => by have := (hin q (List.mem_of_mem_take hq)).2; omega) ?_
              rw [List.length_take]
              exact Nat.mul_le_mul_right _ (by omega)
            repeat' (first
              | ((conv => whnf) <;> (first
              | (with_reducible refine and_same ?_)
              | ((with_reducible apply Br.no) ; (focus omega))
              | ((with_reducible apply blkAt_step) ; (focus (first
              | ((repeat (first
              | assumption
              )); done)
              )) ; (focus (first | rfl | assumption | omega)) ; (focus (first | rfl | assumption)) ; (try dsimp only))
              | (with_reducible refine lenR_sl ?_)
              ))
              )
            all_goals (conv => whnf)
            all_goals (try dsimp only)
            refine loop_at (α := Nat × AV × AH) (fun a => [(7, a.2.1), (33, .int .i64 a.1)]) (fun a => a.2.2) (fun a => a.1 ≤ L.length ∧ Own a.2.2 1 a.2.1 (bs (recsB (L.take a.1)))) (fun a => L.length - a.1) (0, .nils, σ3) ⟨by omega, Own.nil _ _⟩ rfl rfl ?_
            rintro ⟨k, y, τ⟩ ⟨hk, ho⟩
            dsimp only at hk ho ⊢
            by_cases hlt : k < L.length
            · obtain ⟨p, hp, hpk⟩ := getN hlt
              obtain ⟨hp1, hp2⟩ := hin p (List.mem_of_getElem? hpk)
              have hrk := hrl k
              repeat' (first
                | ((with_reducible refine Side.intro ?_) <;> (first
                | omega
                | exact Nat.le_of_ble_eq_true rfl
                | exact rfl
                ))
                | ((conv => whnf) <;> (first
                | (with_reducible refine and_same ?_)
                | (with_reducible refine and_side ?_ ?_)
                | ((with_reducible apply Br.yes) ; (focus omega))
                | ((with_reducible apply blkAt_step) ; (focus (first
                | ((repeat (first
                | exact get_new
                | exact get_set get_new
                )); done)
                )) ; (focus (first | rfl | assumption | omega)) ; (focus (first | rfl | assumption)) ; (try dsimp only))
                | ((with_reducible apply nthR_chg1) ; (focus assumption))
                | (with_reducible refine ia_sl ?_ ?_)
                ))
                )
              all_goals (conv => whnf)
              all_goals (try dsimp only)
              refine call_sl (record_ok p.1 p.2 hp1 (by omega)) (.cons (looks_chg1 _ _ _ _) .nil) fun σ5 w hg5 how hw5 => ?_
              replace ho := ho.keepN (Gr.trans (show Gr τ _ none by (repeat (first
                    | exact Gr.refl _ _
                    | refine Gr.setNew ?_ (by first | exact Nat.le_refl _ | (simp only [newB_length, List.length_set, List.length_append, List.length_singleton]; omega) | omega) _
                    | refine Gr.addN ?_ _
                    ))) hg5)
              have hlw := bs_length (recB p)
              rw [recB_length] at hlw
              repeat' (first
                | ((conv => whnf) <;> (first
                | ((with_reducible apply rowsR_own) ; (focus assumption))
                | (with_reducible refine AppC.frz ?_)
                ))
                )
              all_goals (conv => whnf)
              all_goals (try dsimp only)
              refine appendR_own ho (by rw [hlw, bs_length]; omega) ?_
              intro y2 σ6 ho6 hg6 hb6
              rw [bs_append] at ho6
              repeat' (first
                | ((conv => whnf) <;> (first
                | (with_reducible refine and_same ?_)
                | ((with_reducible apply Br.yes) ; (focus omega))
                ))
                )
              all_goals (conv => whnf)
              all_goals (try dsimp only)
              exact ⟨(k + 1, y2, σ6), rfl, rfl, ⟨hlt, by dsimp only; rw [recsB_succ hpk]; exact ho6⟩, by dsimp only; omega⟩
            · have ek2 : k = L.length := by omega
              subst ek2
              rw [List.take_length] at ho
              have hrn := hrl L.length
              rw [List.take_length] at hrn
              rw [hw, e1, e2]
              repeat' (first
                | ((conv => whnf) <;> (first
                | (with_reducible refine and_same ?_)
                | ((with_reducible apply Br.no) ; (focus omega))
                | (with_reducible refine lenR_sl ?_)
                ))
                )
              all_goals (conv => whnf)
              all_goals (try dsimp only)
              refine call_one (Sum_ok (recsB L) (by omega)) (.cons (Looks.ownbs ho) .nil) rfl fun σ5 hg5 => ?_
              replace ho := ho.keepN hg5
              repeat' (first
                | ((with_reducible refine Side.intro ?_) <;> (first
                | omega
                | exact Nat.le_of_ble_eq_true rfl
                | exact rfl
                ))
                | ((conv => whnf) <;> (first
                | (with_reducible refine and_side ?_ ?_)
                ))
                )
              all_goals (conv => whnf)
              all_goals (try dsimp only)
              have hsl := sum_lt (recsB L)
              rw [hcl]
              refine call_sl (line_ok [(L.length : Int), ((sum (recsB L) : Nat) : Int)] (by simp) (by simp only [List.all_cons, List.all_nil, Bool.and_true, Bool.and_eq_true]; refine ⟨by unfold mayW; rw [decide_eq_true_iff]; omega, by unfold mayW; rw [decide_eq_true_iff]; omega⟩)) (.cons (Looks.ownis (.mk' (sp := []) get_new rfl rfl)) .nil) fun σ6 w hg6 how hw6 => ?_
              have ew : lineB [(L.length : Int), ((sum (recsB L) : Nat) : Int)] = markB L.length (recsB L) := (if_neg h5).symm
              rw [ew] at how
              have hnb : ∀ id, y.bid = some id → w.bid ≠ some id := fun id q r => by
                have q1 := hw6 id r
                have q2 := ho.lt q
                rw [newB_length] at q1
                omega
              replace ho := ho.keepN (Gr.trans (show Gr σ5 _ none by (repeat (first
                    | exact Gr.refl _ _
                    | refine Gr.addN ?_ _
                    ))) hg6)
              repeat' (first
                | ((with_reducible refine Side.intro ?_) <;> (first
                | (simp only [List.append_nil, List.nil_append, List.map_nil]; first | exact List.nodup_nil | exact nodup_bid1 _ | exact nodup_bid2 (by assumption))
                | ((first | refine fresh_tup ?_ | skip); (repeat (first |  exact FreshA.sl _ _ FreshA_bs | exact FreshA.sl _ _ FreshA_is | exact FreshA.nils | exact FreshA.nilp | exact FreshA.int _ _ | exact FreshA.bool _ | exact FreshA.str _ | exact fresh_nil | refine fresh_cons ?_ ?_ | with_reducible refine fresh_aggR ?_ | with_reducible refine fresh_agg ?_ | with_reducible exact fresh_nilA | with_reducible refine fresh_consA ?_ ?_)); done)
                ))
                | ((conv => whnf) <;> (first
                | (with_reducible refine and_side ?_ ?_)
                | ((with_reducible apply NOut.own) ; (focus assumption))
                | (with_reducible refine NOut.lit ?_)
                ))
                )
              all_goals (conv => whnf)
              all_goals (try dsimp only)
              exact ret_same rfl
    · rw [Bool.not_eq_true] at h2
      rw [h2] at hRL
      refine call_one hRL (.cons (Looks.int _ _ _) (.cons (looks_chg _ _ _) .nil)) rfl fun σ2 hg2 => ?_
      repeat' (first
        | ((with_reducible refine Side.intro ?_) <;> (first
        | (simp only [List.append_nil, List.nil_append, List.map_nil]; first | exact List.nodup_nil | exact nodup_bid1 _ | exact nodup_bid2 (by assumption))
        | ((first | refine fresh_tup ?_ | skip); (repeat (first |  exact FreshA.sl _ _ FreshA_bs | exact FreshA.sl _ _ FreshA_is | exact FreshA.nils | exact FreshA.nilp | exact FreshA.int _ _ | exact FreshA.bool _ | exact FreshA.str _ | exact fresh_nil | refine fresh_cons ?_ ?_ | with_reducible refine fresh_aggR ?_ | with_reducible refine fresh_agg ?_ | with_reducible exact fresh_nilA | with_reducible refine fresh_consA ?_ ?_)); done)
        ))
        | ((conv => whnf) <;> (first
        | (with_reducible refine and_side ?_ ?_)
        | (with_reducible refine NOut.lit ?_)
        ))
        )
      all_goals (conv => whnf)
      all_goals (try dsimp only)
      exact fail 1 (hE1 (.inr (.inl h2))) (by decide)
  · rw [decide_eq_false h1] at hR
    refine call_one hR (.cons (hLg _ g) (.cons (Looks.int _ _ _) .nil)) rfl fun σ1 hg1 => ?_
    repeat' (first
      | ((with_reducible refine Side.intro ?_) <;> (first
      | (simp only [List.append_nil, List.nil_append, List.map_nil]; first | exact List.nodup_nil | exact nodup_bid1 _ | exact nodup_bid2 (by assumption))
      | ((first | refine fresh_tup ?_ | skip); (repeat (first |  exact FreshA.sl _ _ FreshA_bs | exact FreshA.sl _ _ FreshA_is | exact FreshA.nils | exact FreshA.nilp | exact FreshA.int _ _ | exact FreshA.bool _ | exact FreshA.str _ | exact fresh_nil | refine fresh_cons ?_ ?_ | with_reducible refine fresh_aggR ?_ | with_reducible refine fresh_agg ?_ | with_reducible exact fresh_nilA | with_reducible refine fresh_consA ?_ ?_)); done)
      ))
      | ((conv => whnf) <;> (first
      | (with_reducible refine and_side ?_ ?_)
      | (with_reducible refine NOut.lit ?_)
      ))
      )
    all_goals (conv => whnf)
    all_goals (try dsimp only)
    exact fail 1 (hE1 (.inl h1)) (by decide)
theorem rWrite_ok (g : LogV) (L : List (Int × List UInt8)) (hL : L.length ≤ 1048576) (hI : ∀ p, p ∈ L → inI2 p.1) : AOKn Try.prog F.joistref05_Write [.agg (logR g), .sl 2 (chg false L) false] fun y => y = .tup [.sl 1 (bs (wrR g L)) true, .sl 1 (bs (wrM g L)) true, .int .i64 (wrE g L)] := by
  have hcl := chg_length false L
  have hLg := looks_log
  have hE1 : (¬ rightG g 4096 ∨ rightB 4096 L = false ∨ hasMine g L) → wrE g L = 1 := fun q => if_pos q
  have hE6 : ¬ (¬ rightG g 4096 ∨ rightB 4096 L = false ∨ hasMine g L) → g.Room < L.length → wrE g L = 6 := fun q r => by unfold wrE; rw [if_neg q, if_pos r]
  have hE0 : ¬ (¬ rightG g 4096 ∨ rightB 4096 L = false ∨ hasMine g L) → ¬ g.Room < L.length → wrE g L = 0 := fun q r => by unfold wrE; rw [if_neg q, if_neg r]
  have bad : wrE g L ≠ 0 → wrR g L = [] ∧ wrM g L = [] := fun q => ⟨if_neg q, if_neg q⟩
  have good : wrE g L = 0 → wrR g L = recsB L ∧ wrM g L = markB L.length (recsB L) := fun q => ⟨if_pos q, if_pos q⟩
  have fail : ∀ k, wrE g L = k → k ≠ 0 → ∃ y0, NilR (.tup [.nils, .nils, .int .i64 k]) y0 ∧ y0 = .tup [.sl 1 (bs (wrR g L)) true, .sl 1 (bs (wrM g L)) true, .int .i64 (wrE g L)] := fun k q r => by
    obtain ⟨e1, e2⟩ := bad (by rw [q]; exact r)
    rw [e1, e2, q]
    exact ⟨_, .tup (.cons (.nil _ _) (.cons (.nil _ _) (.cons (.refl _) .nil))), rfl⟩
  generalize wrE g L = ek at *
  generalize wrR g L = rs at *
  generalize wrM g L = ms at *
  refine AOKn.by_steps mixed fc_joistref05_Write_ok (by simp [fc_joistref05_Write]) ?_
  repeat' (first
    | ((with_reducible refine Side.intro ?_) <;> (first
    | exact Nat.le_of_ble_eq_true rfl
    | exact rfl
    ))
    | ((conv => whnf) <;> (first
    | (with_reducible refine and_side ?_ ?_)
    | ((with_reducible apply blkAt_step) ; (focus (first
    | exact rfl
    )) ; (focus (first | rfl | assumption | omega)) ; (focus (first | rfl | assumption)) ; (try dsimp only))
    ))
    )
  all_goals (conv => whnf)
  all_goals (try dsimp only)
  have hR := rRight_ok g 4096 (by omega)
  by_cases h1 : rightG g 4096
  · rw [decide_eq_true h1] at hR
    refine call_one hR (.cons (hLg _ g) (.cons (Looks.int _ _ _) .nil)) rfl fun σ1 hg1 => ?_
    have b1 := hg1.2 0 _ get_new (by simp)
    skip
    all_goals (conv => whnf)
    all_goals (try dsimp only)
    have hRL := ref_Right_ok 4096 L (by omega)
    by_cases h2 : rightB 4096 L = true
    · rw [h2] at hRL
      refine call_one hRL (.cons (Looks.int _ _ _) (.cons (looks_chg _ _ _) .nil)) rfl fun σ2 hg2 => ?_
      have b2 := hg2.2 0 _ b1 (by simp)
      repeat' (first
        | ((with_reducible refine Side.intro ?_) <;> (first
        | exact Nat.le_of_ble_eq_true rfl
        ))
        | ((conv => whnf) <;> (first
        | (with_reducible refine and_side ?_ ?_)
        | ((with_reducible apply blkAt_step) ; (focus (first
        | ((repeat (first
        | assumption
        )); done)
        )) ; (focus (first | rfl | assumption | omega)) ; (focus (first | rfl | assumption)) ; (try dsimp only))
        ))
        )
      all_goals (conv => whnf)
      all_goals (try dsimp only)
      have hM := foreign_ok g L hL hI
      by_cases h3 : hasMine g L
      · rw [decide_eq_true h3] at hM
        refine call_one hM (.cons (hLg _ g) (.cons (looks_chg _ _ _) .nil)) rfl fun σ3 hg3 => ?_
        repeat' (first
          | ((with_reducible refine Side.intro ?_) <;> (first
          | (simp only [List.append_nil, List.nil_append, List.map_nil]; first | exact List.nodup_nil | exact nodup_bid1 _ | exact nodup_bid2 (by assumption))
          | ((first | refine fresh_tup ?_ | skip); (repeat (first |  exact FreshA.sl _ _ FreshA_bs | exact FreshA.sl _ _ FreshA_is | exact FreshA.nils | exact FreshA.nilp | exact FreshA.int _ _ | exact FreshA.bool _ | exact FreshA.str _ | exact fresh_nil | refine fresh_cons ?_ ?_ | with_reducible refine fresh_aggR ?_ | with_reducible refine fresh_agg ?_ | with_reducible exact fresh_nilA | with_reducible refine fresh_consA ?_ ?_)); done)
          ))
          | ((conv => whnf) <;> (first
          | (with_reducible refine and_side ?_ ?_)
          | (with_reducible refine NOut.lit ?_)
          ))
          )
        all_goals (conv => whnf)
        all_goals (try dsimp only)
        exact fail 1 (hE1 (.inr (.inr h3))) (by decide)
      · rw [decide_eq_false h3] at hM
        refine call_one hM (.cons (hLg _ g) (.cons (looks_chg _ _ _) .nil)) rfl fun σ3 hg3 => ?_
        have b3 := hg3.2 0 _ b2 (by simp)
        have hno : ¬ (¬ rightG g 4096 ∨ rightB 4096 L = false ∨ hasMine g L) := by
          rintro (q | q | q)
          · exact q h1
          · rw [h2] at q; cases q
          · exact h3 q
        by_cases h4 : g.Room < L.length
        · repeat' (first
            | ((with_reducible refine Side.intro ?_) <;> (first
            | (simp only [List.append_nil, List.nil_append, List.map_nil]; first | exact List.nodup_nil | exact nodup_bid1 _ | exact nodup_bid2 (by assumption))
            | ((first | refine fresh_tup ?_ | skip); (repeat (first |  exact FreshA.sl _ _ FreshA_bs | exact FreshA.sl _ _ FreshA_is | exact FreshA.nils | exact FreshA.nilp | exact FreshA.int _ _ | exact FreshA.bool _ | exact FreshA.str _ | exact fresh_nil | refine fresh_cons ?_ ?_ | with_reducible refine fresh_aggR ?_ | with_reducible refine fresh_agg ?_ | with_reducible exact fresh_nilA | with_reducible refine fresh_consA ?_ ?_)); done)
            ))
            | ((conv => whnf) <;> (first
            | (with_reducible refine and_same ?_)
            | (with_reducible refine and_side ?_ ?_)
            | ((with_reducible apply Br.yes) ; (focus omega))
            | ((with_reducible apply blkAt_step) ; (focus (first
            | ((repeat (first
            | assumption
            )); done)
            )) ; (focus (first | rfl | assumption | omega)) ; (focus (first | rfl | assumption)) ; (try dsimp only))
            | (with_reducible refine NOut.lit ?_)
            | (with_reducible refine lenR_sl ?_)
            ))
            )
          all_goals (conv => whnf)
          all_goals (try dsimp only)
          exact fail 6 (hE6 hno h4) (by decide)
        · have hw := hE0 hno h4
          obtain ⟨e1, e2⟩ := good hw
          have hin : ∀ p, p ∈ L → mayW p.1 = true ∧ p.2.length = 64 := fun p hp => by
            have := right_line h2 hp
            exact ⟨by unfold mayW; rw [decide_eq_true_iff]; omega, this.2.2⟩
          have hrn : (recsB L).length ≤ 1048576 * (64 + 64) := by
            refine Nat.le_trans (recsB_length (m := 64) fun q hq => by have := (hin q hq).2; omega) ?_
            exact Nat.mul_le_mul_right _ (by omega)
          rw [hw, e1, e2]
          repeat' (first
            | ((conv => whnf) <;> (first
            | (with_reducible refine and_same ?_)
            | ((with_reducible apply Br.no) ; (focus omega))
            | ((with_reducible apply blkAt_step) ; (focus (first
            | ((repeat (first
            | assumption
            )); done)
            )) ; (focus (first | rfl | assumption | omega)) ; (focus (first | rfl | assumption)) ; (try dsimp only))
            | (with_reducible refine lenR_sl ?_)
            ))
            )
          all_goals (conv => whnf)
          all_goals (try dsimp only)
          refine call_sl (records_ok L hL fun p hp => ⟨(hin p hp).1, by have := (hin p hp).2; omega⟩) (.cons (looks_chg _ _ _) .nil) fun σ4 y hg4 ho hy => ?_
          repeat' (first
            | ((conv => whnf) <;> (first
            | (with_reducible refine lenR_sl ?_)
            ))
            )
          all_goals (conv => whnf)
          all_goals (try dsimp only)
          rw [hcl]
          refine call_sl (mark_ok L.length (recsB L) hL (by omega)) (.cons (Looks.int _ _ _) (.cons (Looks.ownbs ho) .nil)) fun σ5 w hg5 how hw5 => ?_
          have hnb : ∀ id, y.bid = some id → w.bid ≠ some id := fun id q r => by
            have q1 := hw5 id r
            have q2 := ho.lt q
            omega
          replace ho := ho.keepN hg5
          repeat' (first
            | ((with_reducible refine Side.intro ?_) <;> (first
            | (simp only [List.append_nil, List.nil_append, List.map_nil]; first | exact List.nodup_nil | exact nodup_bid1 _ | exact nodup_bid2 (by assumption))
            | ((first | refine fresh_tup ?_ | skip); (repeat (first |  exact FreshA.sl _ _ FreshA_bs | exact FreshA.sl _ _ FreshA_is | exact FreshA.nils | exact FreshA.nilp | exact FreshA.int _ _ | exact FreshA.bool _ | exact FreshA.str _ | exact fresh_nil | refine fresh_cons ?_ ?_ | with_reducible refine fresh_aggR ?_ | with_reducible refine fresh_agg ?_ | with_reducible exact fresh_nilA | with_reducible refine fresh_consA ?_ ?_)); done)
            ))
            | ((conv => whnf) <;> (first
            | (with_reducible refine and_side ?_ ?_)
            | ((with_reducible apply NOut.own) ; (focus assumption))
            | (with_reducible refine NOut.lit ?_)
            ))
            )
          all_goals (conv => whnf)
          all_goals (try dsimp only)
          exact ret_same rfl
    · rw [Bool.not_eq_true] at h2
      rw [h2] at hRL
      refine call_one hRL (.cons (Looks.int _ _ _) (.cons (looks_chg _ _ _) .nil)) rfl fun σ2 hg2 => ?_
      repeat' (first
        | ((with_reducible refine Side.intro ?_) <;> (first
        | (simp only [List.append_nil, List.nil_append, List.map_nil]; first | exact List.nodup_nil | exact nodup_bid1 _ | exact nodup_bid2 (by assumption))
        | ((first | refine fresh_tup ?_ | skip); (repeat (first |  exact FreshA.sl _ _ FreshA_bs | exact FreshA.sl _ _ FreshA_is | exact FreshA.nils | exact FreshA.nilp | exact FreshA.int _ _ | exact FreshA.bool _ | exact FreshA.str _ | exact fresh_nil | refine fresh_cons ?_ ?_ | with_reducible refine fresh_aggR ?_ | with_reducible refine fresh_agg ?_ | with_reducible exact fresh_nilA | with_reducible refine fresh_consA ?_ ?_)); done)
        ))
        | ((conv => whnf) <;> (first
        | (with_reducible refine and_side ?_ ?_)
        | (with_reducible refine NOut.lit ?_)
        ))
        )
      all_goals (conv => whnf)
      all_goals (try dsimp only)
      exact fail 1 (hE1 (.inr (.inl h2))) (by decide)
  · rw [decide_eq_false h1] at hR
    refine call_one hR (.cons (hLg _ g) (.cons (Looks.int _ _ _) .nil)) rfl fun σ1 hg1 => ?_
    repeat' (first
      | ((with_reducible refine Side.intro ?_) <;> (first
      | (simp only [List.append_nil, List.nil_append, List.map_nil]; first | exact List.nodup_nil | exact nodup_bid1 _ | exact nodup_bid2 (by assumption))
      | ((first | refine fresh_tup ?_ | skip); (repeat (first |  exact FreshA.sl _ _ FreshA_bs | exact FreshA.sl _ _ FreshA_is | exact FreshA.nils | exact FreshA.nilp | exact FreshA.int _ _ | exact FreshA.bool _ | exact FreshA.str _ | exact fresh_nil | refine fresh_cons ?_ ?_ | with_reducible refine fresh_aggR ?_ | with_reducible refine fresh_agg ?_ | with_reducible exact fresh_nilA | with_reducible refine fresh_consA ?_ ?_)); done)
      ))
      | ((conv => whnf) <;> (first
      | (with_reducible refine and_side ?_ ?_)
      | (with_reducible refine NOut.lit ?_)
      ))
      )
    all_goals (conv => whnf)
    all_goals (try dsimp only)
    exact fail 1 (hE1 (.inl h1)) (by decide)
end Go.Proofs.Ytppccaacbpkgiaa

namespace Go.Proofs.Ytppccaacbpkgiaa
open Go Go.Proofs.Ytppccaacbpkgiaa.V
set_option maxRecDepth 20000
attribute [local irreducible] CallS AOK AOKn ALoop Side Ref.ok
/-- Slices that were lent: each block with the mark behind. -/
def Lents (σ : AH) (xs : List AV) (D : List (List UInt8)) : Prop := ∀ (j : Nat) (x : AV) (d : List UInt8), xs[j]? = some x → D[j]? = some d → ∃ id, x = .rsl id 0 0 d.length none ∧ σ[id]? = some { sz := 1, els := bs (d ++ [77]), gen := 0, wr := true, pure := true }
theorem Lents.nil (σ : AH) : Lents σ [] [] := fun j x d h => by simp at h
theorem Lents.keep {σ σ' : AH} {o : Option Nat} {xs : List AV} {D : List (List UInt8)} (h : Lents σ xs D) (hg : Gr σ σ' o) (hd : ∀ x, x ∈ xs → x.bid = none ∨ o ≠ x.bid) : Lents σ' xs D := fun j x d h1 h2 => by
  obtain ⟨id, rfl, hb⟩ := h j x d h1 h2
  refine ⟨id, rfl, hg.2 id _ hb ?_⟩
  rcases hd _ (List.mem_of_getElem? h1) with q | q
  · cases q
  · exact fun e => q e
theorem Lents.keepN {σ σ' : AH} {xs : List AV} {D : List (List UInt8)} (h : Lents σ xs D) (hg : Gr σ σ' none) : Lents σ' xs D := h.keep hg fun x _ => by cases x.bid <;> simp
theorem Lents.snoc {σ : AH} {xs : List AV} {D : List (List UInt8)} (hl : xs.length = D.length) (h : Lents σ xs D) {id : Nat} {d : List UInt8} (hb : σ[id]? = some { sz := 1, els := bs (d ++ [77]), gen := 0, wr := true, pure := true }) : Lents σ (xs ++ [.rsl id 0 0 d.length none]) (D ++ [d]) := fun j x e h1 h2 => by
  rw [List.getElem?_append] at h1 h2
  rw [hl] at h1
  split at h1
  · rename_i hj
    rw [if_pos hj] at h2
    exact h j x e h1 h2
  · rename_i hj
    rw [if_neg hj] at h2
    have : j - D.length = 0 := by
      cases q : j - D.length with
      | zero => rfl
      | succ n => rw [q] at h1; simp at h1
    rw [this] at h1 h2
    simp at h1 h2
    subst h1; subst h2
    exact ⟨id, rfl, hb⟩
theorem Lents.own {σ : AH} {xs : List AV} {D : List (List UInt8)} (h : Lents σ xs D) {j : Nat} {x : AV} {d : List UInt8} (h1 : xs[j]? = some x) (h2 : D[j]? = some d) : Own σ 1 x (bs d) := by
  obtain ⟨id, rfl, hb⟩ := h j x d h1 h2
  exact .mk' (sp := bs [77]) hb (by rw [bs_length]) (by rw [bs_append])
theorem Owned_sep {σ0 : AH} {xs : List AV} {D : List (List UInt8)} (S : Sep σ0 xs D) {σ : AH} (hg : Gr σ0 σ none) {idr : Nat} (gr : Nat) (pu wr fu : Bool) (hi : σ0.length ≤ idr) (hr : σ[idr]? = some { sz := 1, els := xs.map fun x => [x], gen := gr, wr := wr, pure := pu, full := fu })
    (hl : xs.length ≤ 4611686018427) (Q : AV → AH → Prop) (h : ∀ σ', Els σ σ' xs → Q (.bool true) σ') : CallS Try.prog F.joistlaw01_Owned [.rsl idr gr 0 xs.length none] σ Q := by
  refine Owned_own σ xs idr gr pu wr fu hr (fun j x hj => ?_) S.dis (fun j x hj e => ?_) hl Q h
  · obtain ⟨d, _, ho⟩ := S.row hj
    exact ⟨_, ho.keepN hg⟩
  · have := S.lt (List.mem_of_getElem? hj) e
    omega
end Go.Proofs.Ytppccaacbpkgiaa

namespace Go.Proofs.Ytppccaacbpkgiaa
open Go Go.Proofs.Ytppccaacbpkgiaa.V
set_option maxRecDepth 20000
attribute [local irreducible] CallS AOK AOKn ALoop Side Ref.ok
/-! Changes that stand as the call's own memory. -/
def crow (L : List Int) (xs : List AV) : List (List AV) := List.zipWith (fun n x => [.int .i64 n, x]) L xs
theorem crow_length {L : List Int} {xs : List AV} (h : xs.length = L.length) : (crow L xs).length = L.length := by simp [crow, h]
theorem crow_snoc {L : List Int} {xs : List AV} {n : Int} {x : AV} (h : xs.length = L.length) : crow (L ++ [n]) (xs ++ [x]) = crow L xs ++ [[.int .i64 n, x]] := by
  unfold crow
  rw [List.zipWith_append h.symm]
  rfl
theorem crow_get {L : List Int} {xs : List AV} {j : Nat} {n : Int} {x : AV} (h1 : L[j]? = some n) (h2 : xs[j]? = some x) : (crow L xs)[j]? = some [.int .i64 n, x] := by
  unfold crow
  rw [List.getElem?_zipWith, h1, h2]
theorem crow_mem {L : List Int} {xs : List AV} {r : List AV} (h : r ∈ crow L xs) : ∃ n x, x ∈ xs ∧ r = [.int .i64 n, x] := by
  unfold crow at h
  obtain ⟨j, hj⟩ := List.mem_iff_getElem?.1 h
  rw [List.getElem?_zipWith] at hj
  cases h1 : L[j]? <;> cases h2 : xs[j]? <;> rw [h1, h2] at hj <;> simp at hj
  exact ⟨_, _, List.mem_of_getElem? h2, hj.symm⟩
def dfB (s t : List UInt8) : Bool := decide (s.length ≠ t.length ∨ s.length % 64 ≠ 0)
def dfL (s t : List UInt8) : List (Int × List UInt8) := if dfB s t then [] else diffs s t (s.length / 64)
def dfE (s t : List UInt8) : Int := if dfB s t then 1 else 0
/-- What Diff answers. -/
def DfH (s t : List UInt8) (y : AV) (τ : AH) : Prop := ∃ a xs, y = .tup [a, .int .i64 (dfE s t)] ∧ NestR τ 2 a (crow ((dfL s t).map (·.1)) xs) ∧ Sep τ xs ((dfL s t).map (·.2)) ∧ Off a xs
theorem DfH.bad {s t : List UInt8} (h : s.length ≠ t.length ∨ s.length % 64 ≠ 0) (τ : AH) : DfH s t (.tup [.nils, .int .i64 1]) τ := by
  have e : dfB s t = true := decide_eq_true h
  have e1 : dfL s t = [] := by rw [dfL, e]; rfl
  exact ⟨.nils, [], by rw [dfE, e]; rfl, by rw [e1]; exact NestR.nil _ _, by rw [e1]; exact Sep.nil _, fun y hy => by simp at hy⟩
theorem crow_set {L : List Int} {xs : List AV} {i : Nat} {n : Int} {x : AV} (hl : xs.length = L.length) (h : xs[i]? = some x) : (crow L xs).set i [.int .i64 n, x] = crow (L.set i n) xs := by
  have hi := (List.getElem?_eq_some_iff.1 h).1
  apply List.ext_getElem?
  intro j
  by_cases e : i = j
  · subst e
    rw [List.getElem?_set_self (by rw [crow_length hl]; omega), crow_get (List.getElem?_set_self (by omega)) h]
  · rw [List.getElem?_set_ne e]
    unfold crow
    rw [List.getElem?_zipWith, List.getElem?_zipWith, List.getElem?_set_ne e]
theorem crow_sh (n : Nat) (L : List Int) (xs : List AV) : (crow L xs).map (fun r => r.map (shA n)) = crow L (xs.map (shA n)) := by
  unfold crow
  rw [List.map_zipWith, List.zipWith_map_right]
  rfl
theorem crow_fs {L : List Int} {xs : List AV} (h : ∀ x, x ∈ xs → FreshS x) : ∀ r, r ∈ crow L xs → ∀ x, x ∈ r → FreshS x := by
  intro r hr x hx
  obtain ⟨n, y, hy, rfl⟩ := crow_mem hr
  simp only [List.mem_cons, List.not_mem_nil, or_false] at hx
  rcases hx with rfl | rfl
  · exact .fresh (.int _ _)
  · exact h _ hy
theorem looks_crow {σ : AH} : ∀ {L : List (Int × List UInt8)} {xs : List AV}, xs.length = L.length → (∀ (j : Nat) (x : AV) (d : List UInt8), xs[j]? = some x → (L.map (·.2))[j]? = some d → Own σ 1 x (bs d)) → LooksVL σ (crow (L.map (·.1)) xs).flatten (chg false L).flatten
  | [], [], _, _ => .nil
  | [], d :: D, h, _ => by cases h
  | x :: xs, [], h, _ => by cases h
  | p :: L, x :: xs, h, ho => by
    have e1 : (crow ((p :: L).map (·.1)) (x :: xs)).flatten = .int .i64 p.1 :: x :: (crow (L.map (·.1)) xs).flatten := rfl
    have e2 : (chg false (p :: L)).flatten = .int .i64 p.1 :: .sl 1 (bs p.2) false :: (chg false L).flatten := rfl
    rw [e1, e2]
    refine .cons (.flat (Looks.int _ _ _) rfl) (.cons (.sl (.ownbs (ho 0 x p.2 rfl rfl))) (looks_crow (by simpa using h) fun j y e h1 h2 => ho (j + 1) y e (by simpa using h1) (by simpa using h2)))
theorem NestR.looksC {σ : AH} {a : AV} {xs : List AV} {L : List (Int × List UInt8)} (h : NestR σ 2 a (crow (L.map (·.1)) xs)) (hs : Sep σ xs (L.map (·.2))) : Looks σ a (.sl 2 (chg false L) false) := by
  have hl : xs.length = L.length := by rw [hs.len, List.length_map]
  refine NestR.looks h (by rw [chg_length, crow_length (by rw [hl, List.length_map]), List.length_map]) ?_ (looks_crow hl hs.own)
  intro r hr
  simp only [chg, List.mem_map] at hr
  obtain ⟨p, _, rfl⟩ := hr
  rfl
theorem nthR_row {rows : List (List AV)} {i : Nat} {r : List AV} {K : List AV → Prop} (h : rows[i]? = some r) (hk : K r) : nthR rows (0 + (i : Int).toNat) K := nthR_intro (x := r) (by simpa using h) hk
theorem Spoil_call {σ : AH} {a : AV} {L : List Int} {xs : List AV} {D : List (List UInt8)} (hb : L.length ≤ 4611686018427) (hl : xs.length = L.length) (ha : NestR σ 2 a (crow L xs)) (hs : Sep σ xs D) (Q : AV → AH → Prop) (h : ∀ σ', Q (.tup []) σ') : CallS Try.prog F.joistlaw04_Spoil [a] σ Q := by
  have hcl := crow_length hl
  refine call_of_body mixed fc_joistlaw04_Spoil_ok (by simp [fc_joistlaw04_Spoil]) ?_
  rcases ha with ⟨rfl, _⟩ | ⟨ia, ga, p, rfl, hbk, hne⟩
  · skip
    all_goals (conv => whnf)
    all_goals (try dsimp only)
    refine loop_at (α := Unit) (fun a => [(2, .int .i64 0)]) (fun a => σ) (fun a => True) (fun a => 0) () trivial rfl rfl ?_
    rintro ⟨⟩ _
    repeat' (first
      | ((conv => whnf) <;> (first
      | (with_reducible refine and_same ?_)
      | ((with_reducible apply Br.no) ; (focus omega))
      | (with_reducible refine lenR_nils ?_)
      ))
      )
    all_goals (conv => whnf)
    all_goals (try dsimp only)
    exact h _
  · have hne' : ∀ x, x ∈ xs → x.bid ≠ some ia := fun x hx => by
      obtain ⟨j, hj⟩ := List.mem_iff_getElem?.1 hx
      have hjl : j < L.length := by rw [← hl]; exact (List.getElem?_eq_some_iff.1 hj).1
      exact hne _ (List.mem_of_getElem? (crow_get (List.getElem?_eq_getElem hjl) hj)) x (by simp)
    skip
    all_goals (conv => whnf)
    all_goals (try dsimp only)
    refine loop_at (α := Nat × AH × List Int × Bool) (fun a => [(2, .int .i64 a.1)]) (fun a => a.2.1) (fun a => a.1 ≤ L.length ∧ a.2.2.1.length = L.length ∧ a.2.1[ia]? = some { sz := 2, els := crow a.2.2.1 xs, gen := ga, wr := true, pure := a.2.2.2 } ∧ ∀ (j : Nat) (x : AV), xs[j]? = some x → a.1 ≤ j → ∃ rows, Own a.2.1 1 x rows) (fun a => L.length - a.1)
      (0, σ, L, p) ⟨by omega, rfl, hbk, fun j x hj _ => by obtain ⟨d, _, ho⟩ := hs.row hj; exact ⟨_, ho⟩⟩ rfl rfl ?_
    rintro ⟨i, σ1, L1, p1⟩ ⟨hi, hL1, hb1, ho1⟩
    dsimp only at hi hL1 hb1 ho1 ⊢
    rw [hcl]
    have hcl1 := crow_length (L := L1) (xs := xs) (by rw [hl, hL1])
    by_cases hlt : i < L.length
    · obtain ⟨n, hn, hn'⟩ := getN (l := L1) (k := i) (by omega)
      obtain ⟨x, hx, hx'⟩ := getN (l := xs) (k := i) (by omega)
      have hrow := crow_get hn' hx'
      obtain ⟨rows, hxo⟩ := ho1 i x hx' (Nat.le_refl _)
      obtain ⟨ox1, ox2, ox3⟩ := hxo.one
      have hxia : x.bid ≠ some ia := hne' x (List.mem_of_getElem? hx')
      have hial := (List.getElem?_eq_some_iff.1 hb1).1
      repeat' (first
        | ((with_reducible refine Side.intro ?_) <;> (first
        | omega
        | exact Nat.le_of_ble_eq_true rfl
        ))
        | ((conv => whnf) <;> (first
        | (with_reducible refine and_same ?_)
        | (with_reducible refine and_side ?_ ?_)
        | ((with_reducible apply Br.yes) ; (focus omega))
        | ((with_reducible apply blkAt_step) ; (focus (first
        | ((repeat (first
        | assumption
        )); done)
        )) ; (focus (first | rfl | assumption | omega)) ; (focus (first | rfl | assumption)) ; (try dsimp only))
        | ((with_reducible apply nthR_row) ; (focus assumption))
        | (with_reducible refine IaW.of ?_)
        | (with_reducible refine lenR_rsl ?_)
        ))
        )
      all_goals (conv => whnf)
      all_goals (try dsimp only)
      rw [ox1]
      have hnew : Gr σ1 (newB σ1 1 ((List.replicate 1 [AV.nils]).set 0 [x]) (allFlatL ((List.replicate 1 [AV.nils]).set 0 [x]))) none := Gr.append _ _
      refine Owned_own _ [x] σ1.length 0 _ true false get_new ?_ ?_ ?_ (by simp) _ ?_
      · intro j z hj
        match j, hj with
        | 0, hj => simp at hj; subst hj; exact ⟨_, hxo.keepN hnew⟩
      · intro j k z w hj hk hjk
        match j, k, hj, hk with
        | 0, 0, _, _ => omega
      · intro j z hj
        match j, hj with
        | 0, hj =>
          simp at hj; subst hj
          intro e
          have := hxo.lt e
          omega
      intro σ2 hE
      have hb2 : σ2[ia]? = some { sz := 2, els := crow L1 xs, gen := ga, wr := true, pure := p1 } := by
        refine hE.2 _ _ (hnew.2 _ _ hb1 (by simp)) fun j z hj e => ?_
        match j, hj with
        | 0, hj => simp at hj; subst hj; exact hxia e
      have ho2 : ∀ (j : Nat) (z : AV), xs[j]? = some z → i + 1 ≤ j → ∃ rows, Own σ2 1 z rows := fun j z hj hij => by
        obtain ⟨rz, hz⟩ := ho1 j z hj (by omega)
        refine ⟨rz, Own.els hE (hz.keepN hnew) fun k w hk => ?_⟩
        match k, hk with
        | 0, hk =>
          simp at hk; subst hk
          rcases hs.dis j i z x hj hx' (by omega) with q | q
          · exact .inl q
          · exact .inr fun e => q e.symm
      repeat' (first
        | ((with_reducible refine Side.intro ?_) <;> (first
        | omega
        | exact Nat.le_of_ble_eq_true rfl
        | exact rfl
        ))
        | ((conv => whnf) <;> (first
        | (with_reducible refine and_same ?_)
        | (with_reducible refine and_side ?_ ?_)
        | ((with_reducible apply Br.yes) ; (focus omega))
        | ((with_reducible apply blkAt_step) ; (focus (first
        | ((repeat (first
        | assumption
        )); done)
        )) ; (focus (first | rfl | assumption | omega)) ; (focus (first | rfl | assumption)) ; (try dsimp only))
        | ((with_reducible apply nthR_row) ; (focus assumption))
        | (with_reducible refine IaW.of ?_)
        ))
        )
      all_goals (conv => whnf)
      all_goals (try dsimp only)
      refine ⟨(i + 1, _, L1.set i (-7), p1 && allFlat (AV.int IntKind.i64 (-7)).cells), rfl, rfl, ⟨by omega, by rw [List.length_set]; exact hL1, ?_, fun j z hj hij => ?_⟩, by omega⟩
      · dsimp only
        rw [get_set hb2, show 0 + (i : Int).toNat = i from by omega, crow_set (by rw [hl, hL1]) hx']
      · dsimp only at hij ⊢
        obtain ⟨rz, hz⟩ := ho2 j z hj hij
        exact ⟨rz, hz.keep (Gr.set _ _ _) (.inr fun e => hne' z (List.mem_of_getElem? hj) e.symm)⟩
    · repeat' (first
        | ((conv => whnf) <;> (first
        | (with_reducible refine and_same ?_)
        | ((with_reducible apply Br.no) ; (focus omega))
        | ((with_reducible apply blkAt_step) ; (focus (first
        | ((repeat (first
        | assumption
        )); done)
        )) ; (focus (first | rfl | assumption | omega)) ; (focus (first | rfl | assumption)) ; (try dsimp only))
        | (with_reducible refine lenR_rsl ?_)
        ))
        )
      all_goals (conv => whnf)
      all_goals (try dsimp only)
      exact h _
end Go.Proofs.Ytppccaacbpkgiaa

namespace Go.Proofs.Ytppccaacbpkgiaa
open Go Go.Proofs.Ytppccaacbpkgiaa.V
theorem okW_le (n : Nat) (h : n < 4611686018427387904) : okW (le 8 n) = true := by
  unfold okW
  rw [List.getD_eq_getElem?_getD, le_get 8 n 7 (by omega), Option.getD_some, UInt8.toNat_ofNat']
  have : n / 256 ^ 7 < 64 := by
    rw [Nat.div_lt_iff_lt_mul (by decide)]
    exact Nat.lt_of_lt_of_le h (by decide)
  exact decide_eq_true (by omega)
theorem val_le8 (n : Nat) (h : n < 4611686018427387904) : val (le 8 n) = n := by
  rw [val_le]
  exact Nat.mod_eq_of_lt (Nat.lt_of_lt_of_le h (by decide))
theorem wd_cat : ∀ (l : List Int) (i : Nat) (n : Int), l[i]? = some n → wd (cat l) i = le 8 n.toNat
  | n :: l, 0, m, h => by
    cases h
    have : cat (n :: l) = le 8 n.toNat ++ cat l := rfl
    unfold wd
    rw [this, Nat.zero_mul, List.drop_zero, List.take_append_of_le_length (by rw [le_length]; exact Nat.le_refl _), List.take_of_length_le (by rw [le_length]; exact Nat.le_refl _)]
  | n :: l, i + 1, m, h => by
    have : cat (n :: l) = le 8 n.toNat ++ cat l := rfl
    have ih := wd_cat l i m (by simpa using h)
    unfold wd at ih ⊢
    rw [this, List.drop_append, List.drop_of_length_le (by rw [le_length]; omega), List.nil_append, le_length, show (i + 1) * 8 - 8 = i * 8 from by omega]
    exact ih
theorem may_le {n : Int} (h : mayW n = true) : okW (le 8 n.toNat) = true ∧ (val (le 8 n.toNat) : Int) = n := by
  have : 0 ≤ n ∧ n ≤ 4611686018427387903 := by simpa [mayW] using h
  refine ⟨okW_le _ (by omega), ?_⟩
  rw [val_le8 _ (by omega)]; omega
theorem all_cat {l : List Int} (h : l.all mayW = true) : allOk (cat l) = true ∧ allR (cat l) = l := by
  have e8 : (cat l).length / 8 = l.length := by rw [cat_length]; omega
  have hw : ∀ i, i < l.length → ∃ n, l[i]? = some n ∧ wd (cat l) i = le 8 n.toNat ∧ mayW n = true := fun i hi =>
    ⟨l[i], List.getElem?_eq_getElem hi, wd_cat _ _ _ (List.getElem?_eq_getElem hi), List.all_eq_true.1 h _ (List.getElem_mem hi)⟩
  have h1 : allOk (cat l) = true := by
    simp only [allOk, Bool.and_eq_true, decide_eq_true_eq, List.all_eq_true, List.mem_range]
    refine ⟨by rw [cat_length]; omega, fun i hi => ?_⟩
    obtain ⟨n, _, k2, k3⟩ := hw i (by omega)
    rw [k2]; exact (may_le k3).1
  refine ⟨h1, ?_⟩
  rw [allR, h1, if_pos rfl, e8]
  apply List.ext_getElem?
  intro i
  by_cases hi : i < l.length
  · obtain ⟨n, k1, k2, k3⟩ := hw i hi
    simp [vals, hi, k2, (may_le k3).2]
    rw [List.getElem?_eq_getElem hi] at k1
    exact (Option.some.inj k1).symm
  · rw [List.getElem?_eq_none (by simp [vals]; omega), List.getElem?_eq_none (by omega)]
theorem okW_val {w : List UInt8} (hl : w.length = 8) (h : okW w = true) : val w < 4611686018427387904 := by
  have := val_top w 7 hl (by simpa [okW] using h)
  exact this
theorem cat_cons (n : Int) (l : List Int) : cat (n :: l) = le 8 n.toNat ++ cat l := rfl
theorem cat_vals (s : List UInt8) (h : allOk s = true) : (allR s).all mayW = true ∧ cat (allR s) = s := by
  have h0 := h
  simp only [allOk, Bool.and_eq_true, decide_eq_true_eq, List.all_eq_true, List.mem_range] at h
  obtain ⟨h8, hall⟩ := h
  rw [allR, h0, if_pos rfl]
  refine ⟨?_, ?_⟩
  · rw [List.all_eq_true]
    intro n hn
    simp only [vals, List.mem_map, List.mem_range] at hn
    obtain ⟨i, hi, rfl⟩ := hn
    have := okW_val (wd_length hi) (hall i hi)
    simp only [mayW, decide_eq_true_eq]; omega
  · have key : ∀ k, k ≤ s.length / 8 → cat (vals s k) = s.take (k * 8) := by
      intro k
      induction k with
      | zero => intro _; simp [vals, cat]
      | succ k ih =>
        intro hk
        have ev : vals s (k + 1) = vals s k ++ [(val (wd s k) : Int)] := by simp [vals, List.range_succ]
        have hl := wd_length (s := s) (i := k) (by omega)
        have el : le 8 (val (wd s k)) = wd s k := by rw [← hl]; exact le_val _
        rw [ev, cat_append, ih (by omega), cat_one, Int.toNat_natCast, el]
        unfold wd
        rw [show (k + 1) * 8 = k * 8 + 8 from by omega, List.take_add]
    rw [key _ (Nat.le_refl _), List.take_of_length_le (by omega)]
end Go.Proofs.Ytppccaacbpkgiaa

