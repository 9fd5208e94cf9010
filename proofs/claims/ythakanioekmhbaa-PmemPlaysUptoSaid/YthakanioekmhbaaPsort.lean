import Derived.Sort.OwnSortedInts
import Derived.Test.YthakanioekmhbaaPsortl
import Derived.Shelf.Slices.In.SortNone
import Derived.Test.YthakanioekmhbaaVL
import Derived.Test.YthakanioekmhbaaVM
import Derived.Test.YthakanioekmhbaaI
namespace Go.Proofs.Ythakanioekmhbaa
open Go Go.Proofs.Ythakanioekmhbaa.V Go.Sort
/-! ### slices.Sort at []int, by the kit's contract -/
def srt (l : List Int) : List Int := l.mergeSort fun x y => decide (x ≤ y)
theorem srt_perm (l : List Int) : (srt l).Perm l := List.mergeSort_perm _ _
theorem srt_length (l : List Int) : (srt l).length = l.length := (srt_perm l).length_eq
theorem srt_sorted (l : List Int) : (srt l).Pairwise (· ≤ ·) := by
  have h := List.pairwise_mergeSort (le := fun x y : Int => decide (x ≤ y)) (by intro a b c; simp; omega) (by intro a b; simp; omega) l
  exact h.imp (by simp)
theorem flat_is (l : List Int) : (is l).flatten = l.map (AV.int .i64) := by
  induction l with
  | nil => rfl
  | cons a r ih => simp only [is, List.map_cons, List.flatten_cons, List.singleton_append] at ih ⊢; rw [ih]
theorem repVL_ints [Zone] {w : World} {W : Nat → Prop} : ∀ {l : List Int} {cs : List Value} {t : List AV}, RepVL w W cs (l.map (AV.int .i64) ++ t) → cs.take l.length = l.map (Value.int .i64) ∧ RepVL w W (cs.drop l.length) t
  | [], cs, t, h => ⟨by simp, by simpa using h⟩
  | a :: l, _, t, .cons hv ht => by
    obtain ⟨h1, h2⟩ := repVL_ints (l := l) ht
    cases hv
    exact ⟨by simp [h1], by simpa using h2⟩
theorem ints_repVL [Zone] {w : World} {W : Nat → Prop} : ∀ (l : List Int) {cs : List Value} {t : List AV}, RepVL w W cs t → RepVL w W (l.map (Value.int .i64) ++ cs) (l.map (AV.int .i64) ++ t)
  | [], _, _, h => h
  | a :: l, _, _, h => .cons (.int .i64 a) (ints_repVL l h)
theorem sort_own {P : Program} {ρ : Go.Shelf.Ren} (Ly : Lays.n189 P ρ) (hB : Bodied P (ρ.f 189)) {σ : AH} {x : AV} {l : List Int} (h : Own σ 1 x (is l)) (hne : l ≠ []) (hl : l.length ≤ 1048576) {Q : AV → AH → Prop}
    (hQ : ∀ id gen sp, x = .rsl id gen 0 l.length none → σ[id]? = some { sz := 1, els := is l ++ sp, gen := gen, wr := true, pure := true } → Q (.tup []) (σ.set id { sz := 1, els := is (srt l) ++ sp, gen := gen, wr := true, pure := true })) : CallS P (ρ.f 189) [x] σ Q := by
  refine ⟨hB, fun z w E cs hr hrep => ?_⟩
  obtain ⟨id, gen, sp, rfl, hb⟩ := h.ne (by intro e; exact hne (by simpa [is] using e))
  rw [is_length] at hrep
  cases hrep with
  | cons hv t =>
  cases t
  obtain ⟨m, hm, hok'⟩ := hr.blk id _ hb
  have hok := hok'.cells rfl
  have hs' := hv.rsl_inv hm (hok.1) hok.pos
  obtain ⟨k1, k2, k3, k4, k5, k6⟩ := (show BlkOk w E _ m from hok)
  unfold RslOk at hs'
  have hlp : 0 < l.length := List.length_pos_iff.2 hne
  split at hs'
  · omega
  · rename_i g c hp
    rw [hp] at k6
    obtain ⟨⟨k7, k7'⟩, k8, cur, e, lo, hi, k9, k10, k11, k12, k13⟩ := k6
    simp only [if_true] at k13
    obtain ⟨a, k, rfl, h1, h2, h3, h4⟩ := hs'
    have ha := h3 (by omega)
    rw [Nat.zero_mul] at ha
    subst ha
    have hfl : (is l ++ sp).flatten = l.map (AV.int .i64) ++ sp.flatten := by rw [List.flatten_append, flat_is]
    have hfl' : (is (srt l) ++ sp).flatten = (srt l).map (AV.int .i64) ++ sp.flatten := by rw [List.flatten_append, flat_is]
    have k10' : cur.size = c := by rw [k10]; exact Nat.mul_one _
    have hfn : (is (srt l) ++ sp).flatten.length = (is l ++ sp).flatten.length := by rw [hfl, hfl']; simp [srt_length]
    rw [hfl] at k13
    obtain ⟨q1, q2⟩ := repVL_ints k13
    have hsz : l.length ≤ cur.size := by simp only [List.length_append, is_length] at k7; omega
    have hgl : g < w.heap.size := hr.place_lt hm hp
    have hH : Holds (Value.int .i64) w g 0 l.toArray := by
      intro j hj
      have hj' : j < l.length := by simpa using hj
      have e1 : cur[j]? = some (.int .i64 l[j]) := by
        rw [← Array.getElem?_toList]
        have := congrArg (fun z => z[j]?) q1
        simp only [List.getElem?_map, List.getElem?_eq_getElem hj', Option.map_some] at this
        rw [← this, List.getElem?_take_of_lt hj', List.getElem?_take_of_lt (by simp only [List.length_append, List.length_map]; omega)]
      refine ⟨?_, ?_⟩
      · simp only [World.cell?, k9, Nat.zero_add]
        simpa [hj'] using e1
      · simp only [World.frozen?, k9, Nat.zero_add]
        rcases k11 with h | ⟨h, h'⟩
        · simp; omega
        · simp [h, h']
    refine (Any.slices_Sort_int Ly g 0 k l w hH hgl (by omega)).mono ?_
    rintro e1 w' ⟨rfl, n, os, rfl⟩
    have hw1 := write_block (w' := putRow (Value.int .i64) (Sort.ahead w n) g 0 (srt l).toArray) hr hb hm hok rfl hp (cur' := putCells (Value.int .i64) 0 (srt l).toArray cur) (lo' := lo) (hi' := hi) k9 ?_ ?_ (fun h => h) ?_ rfl rfl rfl ?_ (b' := { sz := 1, els := is (srt l) ++ sp, gen := gen, wr := true, pure := true }) rfl rfl rfl rfl ?_ ?_ ?_ ?_ ?_
    · obtain ⟨s1, r1⟩ := hw1
      obtain ⟨s2, r2⟩ := Rel.calm r1 (w' := grow (putRow (Value.int .i64) (Sort.ahead w n) g 0 (srt l).toArray) os) ⟨fun k hk => heap_grow_old _ _ hk, by simp, rfl, rfl, rfl⟩
      exact ⟨_, E, .tup [], _, rfl, .tup _ _ .nil, r2, s1.trans s2, hQ id gen sp (by rw [is_length]) hb⟩
    · have := heap_sortedI (n := n) (os := #[]) (srt l).toArray k9
      simpa using this
    · simp [putCells]
    · intro k hk
      simp [putRow, mapBlock, Sort.ahead, Array.getElem?_modify, Ne.symm hk]
    · simp [putRow, mapBlock, Sort.ahead]
    · intro r hr'
      rcases List.mem_append.1 hr' with q | q
      · obtain ⟨a, _, rfl⟩ := List.mem_map.1 q; rfl
      · exact k5 r (List.mem_append_right _ q)
    · simpa [is_length, srt_length] using k7
    · intro q; cases q
    · intro v hv'
      simp only [putCells, Array.mem_toList_iff, Array.mem_mapIdx] at hv'
      obtain ⟨j, hj, rfl⟩ := hv'
      split
      · rfl
      · exact k12 _ (by simp)
    · simp only [if_true]
      rw [hfn, hfl', hfl]
      have e2 : (putCells (Value.int .i64) 0 (srt l).toArray cur).toList = (srt l).map (Value.int .i64) ++ cur.toList.drop l.length := by
        apply List.ext_getElem?
        intro j
        by_cases hj : j < l.length
        · rw [List.getElem?_append_left (by simpa [srt_length] using hj)]
          rw [List.getElem?_eq_getElem (by simp [putCells]; omega), List.getElem?_eq_getElem (by simpa [srt_length] using hj)]
          simp [putCells, srt_length, hj]
        · rw [List.getElem?_append_right (by simp [srt_length]; omega), List.getElem?_drop]
          simp only [List.length_map, srt_length]
          rw [show l.length + (j - l.length) = j by omega]
          simp [putCells, srt_length, Array.getElem?_mapIdx, hj]
      rw [e2, List.take_append, List.length_map, srt_length]
      rw [List.drop_take] at q2
      simp only [List.length_append, List.length_map] at q2 ⊢
      rw [Nat.add_sub_cancel_left] at q2 ⊢
      rw [List.take_of_length_le (by simp [srt_length])]
      exact ints_repVL _ q2
theorem sort_call {P : Program} {ρ : Go.Shelf.Ren} (Ly : Lays.n189 P ρ) (hB : Bodied P (ρ.f 189)) {σ : AH} {x : AV} {l : List Int} (h : Own σ 1 x (is l)) (hl : l.length ≤ 1048576) {Q : AV → AH → Prop}
    (hQ : ∀ σ', Gr σ σ' x.bid → Own σ' 1 x (is (srt l)) → Q (.tup []) σ') : CallS P (ρ.f 189) [x] σ Q := by
  by_cases hne : l = []
  · subst hne
    refine ⟨hB, fun z w E cs hr hrep => ?_⟩
    cases hrep with
    | cons hv t =>
    rename_i v vs
    cases t
    have hv' : ∃ p c, v = .slice p 0 c := by
      rcases h with ⟨rfl, _⟩ | ⟨id, gen, sp, rfl, hb⟩
      · exact ⟨none, 0, hv.nils_inv⟩
      · obtain ⟨m, hm, hok'⟩ := hr.blk id _ hb
        have hok := hok'.cells rfl
        have hs' := hv.rsl_inv hm (hok.1) hok.pos
        unfold RslOk at hs'
        split at hs'
        · rcases hs'.1 with h | ⟨a, h⟩
          · exact ⟨_, _, h⟩
          · exact ⟨_, _, h⟩
        · obtain ⟨a, k, h, _⟩ := hs'
          exact ⟨_, _, h⟩
    obtain ⟨p, c, rfl⟩ := hv'
    refine (Any.slices_Sort_int_none Ly p c w).mono ?_
    rintro e1 w' ⟨rfl, rfl⟩
    exact ⟨_, E, .tup [], σ, rfl, .tup _ _ .nil, hr, Step.refl _ _, hQ σ (Gr.refl _ _) (by simpa [srt] using h)⟩
  · refine sort_own Ly hB h hne hl fun id gen sp e hb => hQ _ ?_ ?_
    · rw [e]; exact Gr.set _ _ _
    · rw [e, ← srt_length l]
      exact Own.mk' (get_set hb) (by rw [is_length]) rfl
end Go.Proofs.Ythakanioekmhbaa
