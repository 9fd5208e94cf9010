/-
  VD6: freezing, copies, []byte(s), calls; all instructions with effects together.
-/
import Derived.Test.YtppccaacbpkgiaaVM
namespace Go.Proofs.Ytppccaacbpkgiaa.V
open Go Go.RowKit
variable [Zone]
set_option linter.unusedSimpArgs false
set_option linter.unusedVariables false

section
variable {P : Program} {w : World} {E : Env} {σ : AH} {fr : Fr} {a : Act} {K : AV → AH → Prop}

/-- A reference, by value, where its block is not written. -/
theorem rsl_val (hr : Rel σ E w) {id gen off len : Nat} {cap : Option Nat} {b : Blk} (hb : σ[id]? = some b) (hg : b.gen = gen) (hp : b.pure = true) (hle : off + len ≤ b.els.length) {v : Value} (hv : Rep w E v (.rsl id gen off len cap)) {W : Nat → Prop}
    (hWE : ∀ g, W g → EW E g) (hnot : ∀ (m : MI) (g c : Nat), E[id]? = some m → m.place = some (g, c) → ¬ W g) : RepV w W v (.sl b.sz ((b.els.drop off).take len) true) := by
  obtain ⟨m, hm, hok⟩ := hr.blk id b hb
  replace hok := hok.cells (hok.pure hp)
  have hs' := hv.rsl_inv hm (hok.1.trans hg) hok.pos
  have hlen : ((b.els.drop off).take len).length = len := by rw [List.length_take, List.length_drop]; omega
  have hrow : ∀ r, r ∈ (b.els.drop off).take len → r.length = b.sz := fun r hr' => hok.2.2.2.2.1 r (List.mem_of_mem_drop (List.mem_of_mem_take hr'))
  unfold RslOk at hs'
  split at hs'
  · obtain ⟨h1, rfl, rfl, _⟩ := hs'
    simp only [List.take_zero]
    rcases h1 with rfl | ⟨q, rfl⟩
    · exact .slnil _ _
    · exact .sl q 0 b.sz [] true [] (by simp) (by simp) (by omega) (by simp) (by simp) (by simp) (by simp) .nil
  · rename_i g c hpl
    obtain ⟨ad, k, e1, h1, h2, h3, _⟩ := hs'
    obtain ⟨cs, hcs, hpv⟩ := blk_rows hok hpl off len hle
    have hcl : cs.length = len * b.sz := by rw [hcs.rep.length, flatten_len hrow, hlen]
    have hk6 := hok.2.2.2.2.2
    rw [hpl] at hk6
    have hkc : c ≤ 9223372036854775807 := hk6.2.1
    have hcells : CellsAt w E ad ((b.els.drop off).take len).flatten cs := by
      by_cases hk0 : k = 0
      · have hl0 : len = 0 := by omega
        subst hl0
        have hcn : cs = [] := List.length_eq_zero_iff.1 (by rw [hcl]; simp)
        subst hcn
        exact ⟨fun j u hj => by simp at hj, by simp, by simpa using hcs.rep⟩
      · rw [h3 hk0, hok.2.1]; exact hcs
    have hres := RepV.sl (w := w) (W := W) ad k b.sz ((b.els.drop off).take len) true cs (fun _ hne => by
      by_cases hk0 : k = 0
      · have hl0 : len = 0 := by omega
        subst hl0
        simp at hne
      · rw [h3 hk0]; exact hr.fresh id m g c hm hpl) (by rw [hlen]; exact h1) (by omega) hrow ?_ hcells.shows hcells.one ((hpv hp).keep ⟨fun _ _ _ _ => rfl, fun g hg => .inl (hWE g hg)⟩)
    · rw [hlen, ← e1] at hres; exact hres
    · intro hne
      by_cases hk0 : k = 0
      · have hl0 : len = 0 := by omega
        subst hl0
        simp at hne
      · rw [h3 hk0]; exact hnot m g c hm hpl

theorem frzC_ok (hr : Rel σ E w) {x y : AV} {σ' : AH} (h : frzC σ x = some (y, σ')) {v : Value} (hv : Rep w E v x) : ∃ E', Step E w E' w ∧ Rel σ' E' w ∧ RepV w (EW E') v y := by
  have hflat : ∀ z : AV, z.flat = true → Rep w E v z → ∃ E', Step E w E' w ∧ Rel σ E' w ∧ RepV w (EW E') v z := fun z hz hv => ⟨E, Step.refl _ _, hr, flat_rep hv hz⟩
  unfold frzC at h
  split at h
  · rename_i id gen off len cap
    split at h
    · rename_i b hb
      split at h
      · rename_i hc
        obtain ⟨hg, hp, hle⟩ := hc
        cases h
        obtain ⟨m, hm, hok⟩ := hr.blk id b hb
        obtain ⟨hs, hr', _⟩ := freeze_block hr hb hm
        refine ⟨_, hs, hr', ?_⟩
        have hsub : ∀ g, EW (E.set id { m with wr := false }) g → ∃ (id' : Nat) (m' : MI) (c : Nat), id' ≠ id ∧ E[id']? = some m' ∧ m'.wr = true ∧ m'.place = some (g, c) := by
          rintro g ⟨id', m', c', hm', hw', hp'⟩
          by_cases e : id' = id
          · subst e
            rw [set_get_self hm] at hm'; cases hm'; cases hw'
          · rw [List.getElem?_set_ne (fun q => e q.symm)] at hm'
            exact ⟨id', m', c', e, hm', hw', hp'⟩
        refine rsl_val hr hb hg hp hle hv ?_ ?_
        · intro g hgg
          obtain ⟨id', m', c', _, h1, h2, h3⟩ := hsub g hgg
          exact ⟨id', m', c', h1, h2, h3⟩
        · intro m0 g c hm0 hpl hgg
          obtain ⟨id', m', c', e, h1, h2, h3⟩ := hsub g hgg
          exact hr.inj id' id m' m0 g c' c e h1 hm0 h2 h3 hpl
      · cases h
    · cases h
  · split at h
    · rename_i hz; cases h; exact hflat _ hz hv
    · cases h

theorem frzL_ok : ∀ {xs ys : List AV} {σ σ' : AH} {E : Env} {cs : List Value}, frzL σ xs = some (ys, σ') → Rel σ E w → RepL w E cs xs → ∃ E', Step E w E' w ∧ Rel σ' E' w ∧ RepVL w (EW E') cs ys
  | [], ys, σ, σ', E, cs, h, hr, hv => by
    simp [frzL] at h
    obtain ⟨rfl, rfl⟩ := h
    cases hv
    exact ⟨E, Step.refl _ _, hr, .nil⟩
  | x :: xs, ys, σ, σ', E, cs, h, hr, hv => by
    simp only [frzL] at h
    split at h
    · rename_i y σ1 h1
      split at h
      · rename_i ys' σ2 h2
        cases h
        cases hv with
        | cons hx ht =>
          obtain ⟨E1, s1, r1, v1⟩ := frzC_ok hr h1 hx
          obtain ⟨E2, s2, r2, v2⟩ := frzL_ok h2 r1 (ht.step s1)
          exact ⟨E2, s1.trans s2, r2, .cons (v1.keep s2.keep) v2⟩
      · cases h
    · cases h

omit [Zone] in
theorem frzL_len : ∀ {xs ys : List AV} {σ σ' : AH}, frzL σ xs = some (ys, σ') → ys.length = xs.length
  | [], ys, σ, σ', h => by simp [frzL] at h; rw [h.1]
  | x :: xs, ys, σ, σ', h => by
    simp only [frzL] at h
    split at h
    · split at h
      · rename_i h2; cases h; simp [frzL_len h2]
      · cases h
    · cases h

theorem frzLL_ok : ∀ {xs ys : List (List AV)} {σ σ' : AH} {E : Env} {cs : List Value}, frzLL σ xs = some (ys, σ') → Rel σ E w → RepL w E cs xs.flatten → ∃ E', Step E w E' w ∧ Rel σ' E' w ∧ RepVL w (EW E') cs ys.flatten
  | [], ys, σ, σ', E, cs, h, hr, hv => by
    simp [frzLL] at h
    obtain ⟨rfl, rfl⟩ := h
    cases hv
    exact ⟨E, Step.refl _ _, hr, .nil⟩
  | x :: xs, ys, σ, σ', E, cs, h, hr, hv => by
    simp only [frzLL] at h
    split at h
    · rename_i y σ1 h1
      split at h
      · rename_i ys' σ2 h2
        cases h
        rw [List.flatten_cons] at hv
        have hl := hv.length
        rw [List.length_append] at hl
        have ha : RepL w E (cs.take x.length) x := by
          have := hv.take x.length; rwa [List.take_left' rfl] at this
        have hb : RepL w E (cs.drop x.length) xs.flatten := by
          have := hv.drop x.length; rwa [List.drop_left' rfl] at this
        obtain ⟨E1, s1, r1, v1⟩ := frzL_ok h1 hr ha
        obtain ⟨E2, s2, r2, v2⟩ := frzLL_ok h2 r1 (hb.step s1)
        refine ⟨E2, s1.trans s2, r2, ?_⟩
        have := (v1.keep s2.keep).append v2
        rwa [List.take_append_drop] at this
      · cases h
    · cases h

omit [Zone] in
theorem frzLL_len : ∀ {xs ys : List (List AV)} {σ σ' : AH}, frzLL σ xs = some (ys, σ') → ys.length = xs.length ∧ ∀ n, (∀ r, r ∈ xs → r.length = n) → ∀ r, r ∈ ys → r.length = n
  | [], ys, σ, σ', h => by simp [frzLL] at h; rw [h.1]; simp
  | x :: xs, ys, σ, σ', h => by
    simp only [frzLL] at h
    split at h
    · rename_i y σ1 h1
      split at h
      · rename_i ys' σ2 h2
        cases h
        obtain ⟨a1, a2⟩ := frzLL_len h2
        refine ⟨by simp [a1], fun n hn r hr => ?_⟩
        rcases List.mem_cons.1 hr with rfl | hr
        · rw [frzL_len h1]; exact hn x (by simp)
        · exact a2 n (fun r hr => hn r (by simp [hr])) r hr
      · cases h
    · cases h

/-- The rows that are appended. -/
theorem frz_run (hr : Rel σ E w) {sz : Nat} {x : AV} {v : Value} (hv : Rep w E v x) {K : List (List AV) → AH → Prop} (h : frzR σ sz x K) :
    ∃ ad cap l cs σ' E', v = .slice ad l.length cap ∧ (ad = none → cap = 0) ∧ K l σ' ∧ (∀ r, r ∈ l → r.length = sz) ∧ cs.length = l.length * sz ∧ (∀ q, ad = some q → CellsAt w E' q l.flatten cs) ∧ (ad = none → cs = [] ∧ l.length = 0) ∧ RepVL w (EW E') cs l.flatten ∧ Step E w E' w ∧ Rel σ' E' w ∧ ∀ u, u ∈ cs → u.oneCell' = true := by
  replace h := frzR_elim h
  unfold frzR0 at h
  obtain ⟨ad, cap, p, l, cs, e1, e2, hk, hrow, hcl, hcs, hnil, hpure⟩ := rows_run hr hv h
  have hone : ∀ u, u ∈ cs → u.oneCell' = true := by
    intro u hu
    cases ad with
    | none => rw [(hnil rfl).1] at hu; simp at hu
    | some q => exact (hcs q rfl).one u hu
  have hrepL : RepL w E cs l.flatten := by
    cases ad with
    | none => obtain ⟨a1, a2⟩ := hnil rfl; rw [a1, a2]; exact .nil
    | some q => exact (hcs q rfl).rep
  split at hk
  · rename_i hp
    exact ⟨ad, cap, l, cs, σ, E, e1, e2, hk, hrow, hcl, hcs, fun q => ⟨(hnil q).1, by rw [(hnil q).2]; rfl⟩, hpure hp, Step.refl _ _, hr, hone⟩
  · split at hk
    · rename_i l' σ' hf
      obtain ⟨E', s1, r1, v1⟩ := frzLL_ok hf hr hrepL
      obtain ⟨a1, a2⟩ := frzLL_len hf
      refine ⟨ad, cap, l', cs, σ', E', by rw [a1]; exact e1, e2, hk, a2 sz hrow, by rw [a1]; exact hcl, fun q hq => ⟨(hcs q hq).shows, (hcs q hq).one, v1.toRepL⟩, fun q => ⟨(hnil q).1, by rw [a1, (hnil q).2]; rfl⟩, v1, s1, r1, hone⟩
    · exact hk.elim

omit [Zone] in
theorem set_same {α : Type} {l : List α} {i : Nat} {x : α} (h : l[i]? = some x) : l.set i x = l := by
  apply List.ext_getElem?
  intro j
  by_cases e : i = j
  · subst e; rw [set_get_self h, h]
  · rw [List.getElem?_set_ne e]

theorem copy_leaves {t u ty e e' sz : Nat} (hu : P.underlying t = some (.slice e)) (hs : szT P e = some sz) (hr : Rel σ E w) {xv : Value} {x : AV} (hx : Rep w E xv x) {ad : Option Addr} {c : Nat} {ys : List (List AV)} {cs : List Value}
    (hcl : cs.length = ys.length * sz) (hcs : ∀ q, ad = some q → CellsAt w E q ys.flatten cs) (hnil : ad = none → cs = [] ∧ ys = []) (hrow : ∀ r, r ∈ ys → r.length = sz) (hpv : RepVL w (EW E) cs ys.flatten) (h : copyR σ sz x ys K) :
    Leaves P w E (Builtin.copy_ #[t, u] ty #[xv, .slice ad ys.length c]) K := by
  have first : ∀ n, n ≤ ys.length → (Builtin.firstCells sz n (.slice ad ys.length c)).run P w = .ok (cs.take (n * sz)).toArray w := by
    intro n hn
    cases ad with
    | none =>
      obtain ⟨rfl, rfl⟩ := hnil rfl
      simpa using run_firstCells_none w sz n 0 c
    | some q =>
      have hl : (cs.take (n * sz)).length = n * sz := by
        rw [List.length_take, hcl]; exact Nat.min_eq_left (Nat.mul_le_mul_right _ hn)
      exact run_firstCells_some w sz n q ys.length c _ hl ((hcs q rfl).shows.take _)
  have zero : ∀ (db : Option Addr) (dl dc : Nat), xv = .slice db dl dc → Nat.min ys.length dl = 0 → (Builtin.copy_ #[t, u] ty #[xv, .slice ad ys.length c]).run P w = .ok (.int .i64 0) w := by
    intro db dl dc hxv h0
    subst hxv
    have hf := first 0 (Nat.zero_le _)
    simp only [Nat.zero_mul, List.take_zero] at hf
    cases db <;> simp [Builtin.copy_, Sem.run_bind, run_underlying hu, Builtin.lenOf, h0, szT_run hs, hf, storeCells, goInt]
  unfold copyR at h
  split at h
  · exact ⟨_, _, w, E, σ, zero none 0 0 hx.nils_inv (by simp), rep_int _ _, hr, Step.refl _ _, h⟩
  · obtain ⟨rfl, h0, hK⟩ := h
    rcases hx.sl_inv with ⟨e1, rfl⟩ | ⟨ad', cap, cs', e1, _⟩
    · exact ⟨_, _, w, E, σ, zero none 0 0 e1 (by simp), rep_int _ _, hr, Step.refl _ _, hK⟩
    · refine ⟨_, _, w, E, σ, zero _ _ _ e1 ?_, rep_int _ _, hr, Step.refl _ _, hK⟩
      rcases h0 with rfl | rfl <;> simp
  · rename_i id gen off len cap
    obtain ⟨b, m, hb, hm, hok, hg1, hg2, hbe, hbsz, hwr, hle, hK⟩ := blkAt_elim hr h
    have hs' := hx.rsl_inv hm hg2 hok.pos
    obtain ⟨N, hN⟩ : ∃ N, N = min ys.length len := ⟨_, rfl⟩
    rw [← hN] at hK
    have hN1 : N ≤ ys.length := by omega
    have hN2 : N ≤ len := by omega
    have hsame : N = 0 → σ.set id { b with els := b.els.take off ++ ys.take N ++ b.els.drop (off + N) } = σ := by
      intro h0
      rw [h0]
      simp only [List.take_zero, List.append_nil, Nat.add_zero, List.take_append_drop]
      exact set_same hb
    unfold RslOk at hs'
    split at hs'
    · obtain ⟨h1, rfl, _, _⟩ := hs'
      have h0 : N = 0 := by omega
      rw [hsame h0, h0] at hK
      rcases h1 with h1 | ⟨q, h1⟩
      · exact ⟨_, _, w, E, σ, zero _ _ _ h1 (by simp), rep_int _ _, hr, Step.refl _ _, hK⟩
      · exact ⟨_, _, w, E, σ, zero _ _ _ h1 (by simp), rep_int _ _, hr, Step.refl _ _, hK⟩
    · rename_i g cc hpl
      obtain ⟨da, k, e1, h1, h2, h3, _⟩ := hs'
      by_cases h0 : N = 0
      · rw [hsame h0, h0] at hK
        exact ⟨_, _, w, E, σ, zero _ _ _ e1 (by show min ys.length len = 0; omega), rep_int _ _, hr, Step.refl _ _, hK⟩
      · have hda := h3 (by omega)
        have hvl : (cs.take (N * sz)).length = N * sz := by
          rw [List.length_take, hcl]; exact Nat.min_eq_left (Nat.mul_le_mul_right _ hN1)
        have hkl : ((ys.take N).flatten).length = N * sz := by
          rw [flatten_len (sz := sz) (fun r hr' => hrow r (List.mem_of_mem_take hr')), List.length_take, Nat.min_eq_left hN1]
        have hrv : RepVL w (EW E) (cs.take (N * sz)) (ys.take N).flatten := by rw [flatten_take hrow]; exact hpv.take _
        have hb5 := hok.2.2.2.2.1
        have hbl := flatten_len hb5
        obtain ⟨hthere, hst, hr'⟩ := splice_block hr hbe hb hm hok hwr hpl (off * sz) (cs.take (N * sz)) (ys.take N).flatten (by
            rw [hvl, hbl, ← hbsz, ← Nat.add_mul]; exact Nat.mul_le_mul_right _ (by omega)) (by
            intro u hu
            cases ad with
            | none => rw [(hnil rfl).1] at hu; simp at hu
            | some q => exact (hcs q rfl).one u (List.mem_of_mem_take hu)) hrv.toRepL (b.els.take off ++ ys.take N ++ b.els.drop (off + N)) b.pure (fun q => ⟨q, hrv⟩)
          (fun r hr' => by
            rw [← hbsz]
            simp only [List.mem_append] at hr'
            rcases hr' with (q | q) | q
            · rw [hbsz]; exact hb5 r (List.mem_of_mem_take q)
            · exact hrow r (List.mem_of_mem_take q)
            · rw [hbsz]; exact hb5 r (List.mem_of_mem_drop q))
          (by simp only [List.length_append, List.length_take, List.length_drop]; omega)
          (by
            rw [List.flatten_append, List.flatten_append, flatten_take (sz := sz) (by rw [hbsz]; exact hb5), flatten_drop (sz := sz) (by rw [hbsz]; exact hb5), hkl, Nat.add_mul])
        have hrun := run_storeCells_cells (P := P) g (off * sz) (cs.take (N * sz)) 0 w (fun j hj => by simpa using (hthere j hj).1) (fun j hj => by simpa using (hthere j hj).2) (by
            intro u hu
            cases ad with
            | none => rw [(hnil rfl).1] at hu; simp at hu
            | some q => exact (hcs q rfl).one u (List.mem_of_mem_take hu))
        rw [Nat.add_zero] at hrun
        refine ⟨.int .i64 N, .int .i64 N, _, E, _, ?_, rep_int _ _, hr', hst, hK⟩
        subst e1
        have hmn : Nat.min ys.length len = N := by rw [hN]
        have hf := first N hN1
        simp only [Builtin.copy_, Sem.run_bind, run_underlying hu, Result.andThen_ok, Builtin.lenOf, List.getElem?_toArray, List.getElem?_cons_zero, List.getElem?_cons_succ, Sem.run_pure, hmn, szT_run hs, hf]
        rw [hda, hok.2.1, ← hbsz]
        simp [hrun, goInt]
  · exact h.elim


theorem s2b_leaves {s d e : Nat} (hus : P.underlying s = some .string) (hud : P.underlying d = some (.slice e)) (hue : P.underlying e = some (.int .u8)) (hse : szT P e = some 1) (hr : Rel σ E w) {b : ByteArray}
    (hk : K (.rsl σ.length 0 0 b.data.toList.length none) (newB σ 1 (b.data.toList.map fun c => [.int .u8 c.toNat]) true)) (hsz : b.size ≤ 9223372036854775807) : Leaves P w E (convert s d (.string b)) K := by
  have hrun := Lib.run_convert_string_bytes (P := P) w s d e b hus hud hue
  have hbs : b.data.toList.length = b.size := by rw [Array.length_toList]; rfl
  have hge := grownCap_ge w b.size 0 e
  have hmx := grownCap_le_maxLen w b.size 0 e (by simp only [maxLen]; exact hsz)
  have hcl : (Lib.bytesCells w e b).size = grownCap w b.size 0 e * 1 := by
    unfold Lib.bytesCells
    rw [Array.size_append, Array.size_map, Array.size_replicate]
    show b.size + _ = _
    omega
  have hg : Grows w (Lib.bytesWorld w e b) (.cells (Lib.bytesCells w e b) e ((Lib.bytesCells w e b).size, (Lib.bytesCells w e b).size + 1)) := by
    refine ⟨?_, rfl, rfl, rfl⟩
    apply Array.ext_getElem?
    intro j
    rw [Array.getElem?_push]
    by_cases h1 : j < w.heap.size
    · rw [Lib.bytesWorld_at_old w e b j h1, if_neg (by omega)]
    · by_cases h2 : j = w.heap.size
      · subst h2; rw [Lib.bytesWorld_at_new, if_pos rfl]
      · rw [if_neg h2, Array.getElem?_eq_none (by rw [Lib.bytesWorld_size]; omega), Array.getElem?_eq_none (by omega)]
  have hfl : (b.data.toList.map fun c => [AV.int .u8 (c.toNat : Int)]).flatten = b.data.toList.map fun c => AV.int .u8 (c.toNat : Int) := by
    induction b.data.toList with
    | nil => rfl
    | cons c r ih => simp [ih]
  have htk : (Lib.bytesCells w e b).toList.take (b.data.toList.map fun c => [AV.int .u8 (c.toNat : Int)]).flatten.length = b.data.toList.map fun c => Value.int .u8 (c.toNat : Int) := by
    rw [hfl, List.length_map]
    unfold Lib.bytesCells
    rw [Array.toList_append, Array.toList_map]
    exact List.take_left' (by simp)
  have hrep : ∀ W, RepVL w W (b.data.toList.map fun c => Value.int .u8 (c.toNat : Int)) (b.data.toList.map fun c => AV.int .u8 (c.toNat : Int)) := by
    intro W
    induction b.data.toList with
    | nil => exact .nil
    | cons c r ih => exact .cons (.int _ _) ih
  obtain ⟨hs, hr'⟩ := new_block hr hg { sz := 1, els := b.data.toList.map fun c => [.int .u8 c.toNat], gen := 0, wr := true, pure := true } (grownCap w b.size 0 e) rfl rfl rfl (by simp) (by simp) (by
      show (b.data.toList.map _).length ≤ _
      rw [List.length_map, hbs]; exact hge) (by simp) (by simpa [maxLen] using hmx) hcl (.inl (Nat.le_refl _))
    (by
      intro v hv
      unfold Lib.bytesCells at hv
      rw [Array.toList_append, Array.toList_map] at hv
      rcases List.mem_append.1 hv with hv | hv
      · obtain ⟨c, _, rfl⟩ := List.mem_map.1 hv; rfl
      · simp only [Array.toList_replicate, List.mem_replicate] at hv
        rw [hv.2]; rfl)
    (by
      show RepVL w (EW E) ((Lib.bytesCells w e b).toList.take _) _
      rw [htk, hfl]; exact hrep _)
  refine ⟨_, .rsl σ.length 0 0 b.data.toList.length none, _, _, _, hrun, ?_, hr', hs, hk⟩
  rw [← hbs]
  refine .rsl ⟨0, 1, true, some (w.heap.size, grownCap w b.size 0 e)⟩ rfl ?_ (Nat.le_refl _) (fun _ => ?_)
  · rw [← hr.len, List.getElem?_append_right (Nat.le_refl _)]; simp
  · exact RslAny.of (h0 := Nat.zero_lt_one) ⟨⟨w.heap.size, 0, none⟩, _, by rw [hbs], by rw [hbs]; exact hge, by omega, fun _ => by simp, by simp⟩

theorem mark_leaves {s e : Nat} (hud : P.underlying s = some (.slice e)) (hue : P.underlying e = some (.int .u8)) (hr : Rel σ E w) {id gen off len : Nat} {cap : Option Nat} {v : Value} (hz : Rep w E v (.rsl id gen off len cap))
    (hk : blkAt σ id gen fun b => b.wr = true ∧ 0 < len ∧ K (.rsl id gen off len cap) σ) : Leaves P w E (convert s s v) K := by
  obtain ⟨b, m, hb, hm, hok, hg1, hg2, hbe, hwr, hlen, hK⟩ := blkAt_elim hr hk
  have hs := hz.rsl_inv hm hg2 hok.pos
  unfold RslOk at hs
  cases hp : m.place with
  | none => rw [hp] at hs; obtain ⟨_, h0, _⟩ := hs; omega
  | some p =>
    obtain ⟨g, c⟩ := p
    rw [hp] at hs
    obtain ⟨ad, k, rfl, h1, h2, h3, h4⟩ := hs
    have ha := h3 (by omega)
    subst ha
    have hok' := hok
    obtain ⟨k1, k2, k3, k4, k5, k6⟩ := hok
    rw [hp] at k6
    obtain ⟨k7, k8, cur, e', lo, hi, k9, k10, k11, k12, k13⟩ := k6
    have hsh : w.shape? g = some (e', cur.size) := by unfold World.shape?; rw [k9]
    have hlt : g < w.heap.size := (Array.getElem?_eq_some_iff.1 k9).1
    have hrun : (convert s s (.slice (some ⟨g, off * m.sz, none⟩) len k)).run P w = .ok (.slice (some ⟨g, off * m.sz, none⟩) len k) (w.freeze ⟨g, cur.size, none⟩ 1) := by
      simp [convert, run_underlying hud, run_underlying hue, markStringish, hsh]
    obtain ⟨lo', hi', hh', hz'⟩ : ∃ lo' hi', (w.freeze ⟨g, cur.size, none⟩ 1).heap[g]? = some (.cells cur e' (lo', hi')) ∧ cur.size ≤ lo' := by
      refine ⟨if lo == hi then cur.size else min lo cur.size, if lo == hi then cur.size + 1 else max hi (cur.size + 1), ?_, ?_⟩
      · unfold World.freeze
        rw [if_neg (by decide)]
        show (w.heap.modify g _)[g]? = _
        rw [Array.getElem?_modify, if_pos rfl, k9]
        simp only [Option.map_some]
        split <;> rfl
      · split
        · exact Nat.le_refl _
        · rename_i hne
          rcases k11 with q | ⟨q1, q2⟩
          · omega
          · subst q1; subst q2; exact absurd rfl hne
    obtain ⟨hs', hr'⟩ := write_block (b' := b) (cur' := cur) (w' := w.freeze ⟨g, cur.size, none⟩ 1) hr hb hm hok' hwr hp k9 hh' rfl (fun _ => .inl hz')
      (fun j hj => by
        unfold World.freeze
        rw [if_neg (by decide)]
        show (w.heap.modify g _)[j]? = _
        rw [Array.getElem?_modify, if_neg (fun q => hj q.symm)])
      rfl rfl rfl (by
        unfold World.freeze
        rw [if_neg (by decide)]
        show (w.heap.modify g _).size = _
        simp) hbe rfl rfl rfl k5 k7.1 k7.2 k12 k13
    exact ⟨_, _, _, E, _, hrun, hz.step hs', hr', hs', by rw [set_same hb]; exact hK⟩

theorem ef_value {o : Oper} {s : Sem Value} (he : execOp a.eval o = (do pure (.value (← s)))) (h : Leaves P w E s K) {next : Act → World → Prop} {Q : Exit → Act → World → Prop}
    (hn : ∀ v x w' E' σ', Rep w' E' v x → Rel σ' E' w' → Step E w E' w' → K x σ' → next (a.put o.dst v) w') : o.wp P a w next Q := by
  obtain ⟨v, x, w', E', σ', h1, h2, h3, h4, h5⟩ := h
  unfold Oper.wp
  rw [he]
  simp only [Sem.run_bind, h1, Result.andThen_ok, Sem.run_pure]
  exact hn v x w' E' σ' h2 h3 h4 h5

theorem Leaves.step {E1 : Env} (hs : Step E w E1 w) {s : Sem Value} (h : Leaves P w E1 s K) : Leaves P w E s K := by
  obtain ⟨v, x, w', E', σ', h1, h2, h3, h4, h5⟩ := h
  exact ⟨v, x, w', E', σ', h1, h2, h3, hs.trans h4, h5⟩

theorem call_ok {o : Oper} {f : Nat} {cs : List Value} {l : List AV} (hr : Rel σ E w) (hrep : RepL w E cs l) (hf : (execOp a.eval o).run P w = .ok (.enter f cs.toArray) w) (h : ACall P f l σ K) {next : Act → World → Prop} {Q : Exit → Act → World → Prop}
    (hn : ∀ v x w' E' σ', Rep w' E' v x → Rel σ' E' w' → Step E w E' w' → K x σ' → next (a.put o.dst v) w') : o.wp P a w next Q := by
  unfold Oper.wp
  rw [hf, Oper.upon_enter]
  refine (h _ w E cs hr hrep).mono ?_
  rintro e w' ⟨v, E', x, σ', rfl, h1, h2, h3, h4⟩
  exact hn v x w' E' σ' h1 h2 h3 h4


omit [Zone] in
theorem callFunc_run {f : Nat} {fn : Func} (hf : P.funcs[f]? = some fn) (hb : fn.body.isSome) (hn : (fn.name == "runtime.NumGoroutine") = false) (args : Array Value) (w : World) : (callFunc f args).run P w = .ok (.enter f args) w := by
  obtain ⟨c, hc⟩ := Option.isSome_iff_exists.1 hb
  simp only [beq_eq_false_iff_ne, ne_eq] at hn
  simp [callFunc, hf, hn, hc]

omit [Zone] in
theorem list2 {α : Type} {x y : α} {A : Array α} (h : A.toList = [x, y]) : A = #[x, y] := by
  apply Array.ext'; simpa using h

/-- A function that may be called by a value. -/
def Bodied (P : Program) (f : Nat) : Prop := f ≠ yno ∧ ∃ fn, P.funcs[f]? = some fn ∧ fn.body.isSome = true ∧ (fn.name == "runtime.NumGoroutine") = false

omit [Zone] in
theorem zeroCells_flat (z : Array Value) (n : Nat) (hz : 0 < z.size) : (Builtin.zeroCells z n).toList = (List.replicate n z.toList).flatten := made_flat z n hz
omit [Zone] in
theorem zeroCells_one {z : Array Value} {n : Nat} (hz : 0 < z.size) (h : ∀ u, u ∈ z.toList → u.oneCell' = true) : ∀ v, v ∈ (Builtin.zeroCells z n).toList → v.oneCell' = true := by
  intro v hv
  rw [zeroCells_flat z n hz, List.mem_flatten] at hv
  obtain ⟨r, hr, hv⟩ := hv
  rw [(List.mem_replicate.1 hr).2] at hv
  exact h v hv
theorem repvl_flat {w : World} {W : Nat → Prop} {cs : List Value} {l : List AV} (h : RepVL w W cs l) (n : Nat) : RepVL w W (List.replicate n cs).flatten (List.replicate n l).flatten := by
  induction n with
  | zero => exact .nil
  | succ n ih => rw [List.replicate_succ, List.replicate_succ, List.flatten_cons, List.flatten_cons]; exact h.append ih
theorem ef_sound {o : Oper} {i : EI} (hc : cEI P o.op = some i) (hf : FrOk w E fr a) (hr : Rel σ E w) (h : efI (fun f l σ K => Bodied P f ∧ ACall P f l σ K) σ fr i K) {next : Act → World → Prop} {Q : Exit → Act → World → Prop}
    (hn : ∀ v x w' E' σ', Rep w' E' v x → Rel σ' E' w' → Step E w E' w' → K x σ' → next (a.put o.dst v) w') : o.wp P a w next Q := by
  unfold cEI at hc
  split at hc
  case h_1 e ho =>
    obtain ⟨⟨z, sz⟩, hz, rfl⟩ := Option.map_eq_some_iff.1 hc
    obtain ⟨ii, zv, hi, hzv, hsz, hpos, hzl, hzs, hzr, hz1⟩ := zeroSz_val hz
    simp only [efI] at h
    refine ef_value (s := Instr.alloc e true (.tuple #[])) (by unfold execOp; simp only [ho]) ?_ hn
    obtain ⟨v, x, w', E', σ', q1, q2, q3, q4, q5⟩ := newVar_leaves (e := e) hpos hzl (hzr w E) hz1 hr (p := allFlat z) rfl (by rw [← hzl]; exact h)
    refine ⟨v, x, w', E', σ', ?_, q2, q3, q4, q5⟩
    have hz0 : (zeroValue e).run P w = .ok zv w := by simp [zeroValue, typeInfo, hi, hzv]
    simp only [Instr.alloc, Sem.run_bind, hz0, Result.andThen_ok]
    exact q1
  case h_2 e x ho =>
    split at hc
    · rename_i y n hy hsz
      cases hc
      simp only [efI] at h
      obtain ⟨z, hz, hok, hl, hk⟩ := evR_ok hf hy h
      obtain ⟨hcl, hc1⟩ := hz.cells hok
      have hL : Leaves P w E (do pure (.pointer (some (← newVar e (a.eval x))))) K := newVar_leaves (l := z.cells) (p := allFlat z.cells) (posSz_szT hsz).2 hl hcl hc1 hr rfl hk
      exact ef_value (s := do pure (.pointer (some (← newVar e (a.eval x))))) (by unfold execOp; simp only [ho]; rfl) hL hn
    · cases hc
  case h_3 t n parts ho =>
    split at hc
    · rename_i e hu
      split at hc
      · rename_i z sz ps hz hps
        cases hc
        unfold efI at h
        have hL : Leaves P w E (Instr.buildSlice t n (parts.map fun (i, x) => (i, a.eval x))) K := bslice_leaves hu hz hps hf hr h
        have he : execOp a.eval o = (do pure (.value (← Instr.buildSlice t n (parts.map fun (i, x) => (i, a.eval x))))) := by unfold execOp; simp only [ho]
        exact ef_value he hL hn
      · cases hc
    · cases hc
  case h_4 t ad x ho =>
    split at hc
    · rename_i p v n hp hv hsz
      cases hc
      simp only [efI] at h
      obtain ⟨pz, hpz, h⟩ := evR_ok hf hp h
      obtain ⟨vz, hvz, hl, hok, h⟩ := evR_ok hf hv h
      obtain ⟨w', σ', q1, q2, q3, q4⟩ := store_leaves hsz hr hpz hvz hok hl h
      unfold Oper.wp execOp
      simp only [ho, Sem.run_bind, q1, Result.andThen_ok, Sem.run_pure]
      exact hn undef (.tup []) w' E σ' (.tup #[] [] .nil) q2 q3 q4
    · cases hc
  case h_5 t l c ho =>
    split at hc
    · rename_i e hu
      split at hc
      · rename_i z sz by_ x y hz hby hx hy
        cases hc
        simp only [efI] at h
        obtain ⟨kl, L, eL, h⟩ := intR_ok hf hx h
        obtain ⟨kc, C, eC, h0, h1, h2, hk⟩ := intR_ok hf hy h
        have hb0 : 0 < by_ := by
          obtain ⟨ii, zv, hi, _⟩ := zeroSz_val hz
          exact (bytesT_info hby hi).2
        refine ef_value (s := Instr.makeSlice t (a.eval l) (a.eval c)) (by unfold execOp; simp only [ho]) ?_ hn
        rw [eL, eC]
        have h3 : C ≤ C * by_ := by
          have : C * 1 ≤ C * (by_ : Int) := Int.mul_le_mul_of_nonneg_left (by omega) (by omega)
          omega
        exact make_leaves hu hz hby h0 h1 h2 (by omega) hr hk
      · cases hc
    · cases hc
  case h_6 s d x ho =>
    split at hc
    · rename_i e y hus hud hx
      split at hc
      · rename_i hue hse
        cases hc
        simp only [efI] at h
        obtain ⟨z, hz, h⟩ := evR_ok hf hx h
        split at h
        · obtain ⟨hle, hk⟩ := h
          obtain ⟨b, e1, rfl⟩ := hz.str_inv
          refine ef_value (s := convert s d (a.eval x)) (by unfold execOp; simp only [ho]) ?_ hn
          rw [e1]
          exact s2b_leaves hus hud hue hse hr hk (by rw [Array.length_toList] at hle; exact hle)
        · exact h.elim
      · cases hc
    · rename_i e0 e y hus hud hx
      split at hc
      · rename_i hue hsd
        cases hc
        have hsd' := Nat.eq_of_beq_eq_true hsd
        subst hsd'
        simp only [efI] at h
        obtain ⟨z, hz, h⟩ := evR_ok hf hx h
        split at h
        · exact ef_value (s := convert s s (a.eval x)) (by unfold execOp; simp only [ho]) (mark_leaves hud hue hr hz h) hn
        · exact h.elim
      · cases hc
    · cases hc
  case h_7 args ts ho =>
    split at hc
    · rename_i x y t u hargs hts
      have hA := list2 hargs
      have hT := list2 hts
      subst hA; subst hT
      split at hc
      · rename_i e x' y' hu hx hy
        split at hc
        · rename_i z sz by_ e' hz hby hu2
          cases hc
          simp only [efI] at h
          obtain ⟨vx, hvx, h⟩ := evR_ok hf hx h
          obtain ⟨vy, hvy, h⟩ := evR_ok hf hy h
          obtain ⟨ii, zv, hi, hzv, hsz, hpos, hzl, hzs, hzr, hz1⟩ := zeroSz_val hz
          have hL : Leaves P w E (Builtin.append_ #[t, u] o.type #[a.eval x, a.eval y]) K := by
            rcases h.ok with h | h
            · obtain ⟨ad, cap, l, cs, σ', E', e1, e2, hk, hrow, hcl, hcs, hnil, hpv, hs, hr', hone⟩ := frz_run hr hvy h
              rw [e1]
              refine Leaves.step hs (append_leaves hu hz hby hr' (hvx.step hs) (cs := cs) (ys := l) ?_ hrow hone hpv hk.ok)
              intro i2 zv2 hi2 hzv2
              rw [hi] at hi2; cases hi2
              rw [hzv] at hzv2; cases hzv2
              refine App.ofSrc hu hi hzv ?_
              rw [hsz]
              exact src_of hu2 hcl hcs hnil
            · obtain ⟨ad, cap, p, l, cs, e1, e2, hk, hrow, hcl, hcs, hnil, hpv⟩ := rows_run hr hvy h.ok
              have hone : ∀ v, v ∈ cs → v.oneCell' = true := by
                intro v hv
                cases ad with
                | none => rw [(hnil rfl).1] at hv; simp at hv
                | some q => exact (hcs q rfl).one v hv
              have hrepL : RepL w E cs l.flatten := by
                cases ad with
                | none => obtain ⟨a1, a2⟩ := hnil rfl; rw [a1, a2]; exact .nil
                | some q => exact (hcs q rfl).rep
              rw [e1]
              refine appendI_leaves hu hz hby hr hvx (cs := cs) (ys := l) ?_ hrow hone hrepL hk.ok
              intro i2 zv2 hi2 hzv2
              rw [hi] at hi2; cases hi2
              rw [hzv] at hzv2; cases hzv2
              refine App.ofSrc hu hi hzv ?_
              rw [hsz]
              exact src_of hu2 hcl hcs fun q => ⟨(hnil q).1, by rw [(hnil q).2]; rfl⟩
          obtain ⟨v, xx, w', E2, σ2, q1, q2, q3, q4, q5⟩ := hL
          unfold Oper.wp execOp
          simp only [ho, resolve, invoke, Sem.run_bind, Sem.run_pure, Result.andThen_ok, builtin, List.map_toArray, List.map_cons, List.map_nil, q1]
          exact hn v xx w' E2 σ2 q2 q3 q4 q5
        · rename_i z sz by_ k hz hby hu2
          split at hc
          · rename_i hzf
            cases hc
            simp only [efI] at h
            obtain ⟨vx, hvx, h⟩ := evR_ok hf hx h
            obtain ⟨kx, m, em, h0, hb, hk⟩ := intR_ok hf hy h
            obtain ⟨ii, zv, hi, hzv, hsz, hpos, hzl, hzs, hzr, hz1⟩ := zeroSz_val hz
            obtain ⟨hby1, hby2⟩ := bytesT_info hby hi
            have hL : Leaves P w E (Builtin.append_ #[t, u] o.type #[a.eval x, a.eval y]) K := by
              obtain ⟨n, rfl⟩ : ∃ n : Nat, m = n := ⟨m.toNat, by omega⟩
              rw [em]
              refine append_leaves hu hz hby hr hvx (cs := (Builtin.zeroCells zv.cells n).toList) (ys := List.replicate n z) ?_ ?_ ?_ ?_ hk.ok
              · intro i2 zv2 hi2 hzv2
                rw [hi] at hi2; cases hi2
                rw [hzv] at hzv2; cases hzv2
                rw [List.length_replicate]
                exact App.ofZeros hu hu2 hi hzv (by rw [hzs, hsz]) (by omega) (by omega) hz1 (by rw [hby1, ← Int.ofNat_le, Int.natCast_mul]; exact hb)
              · intro r hr'
                rw [(List.mem_replicate.1 hr').2]; exact hzl
              · exact zeroCells_one (by omega) hz1
              · rw [zeroCells_flat zv.cells n (by omega)]
                exact repvl_flat (flat_repL (hzr w E) hzf) n
            obtain ⟨v, xx, w', E2, σ2, q1, q2, q3, q4, q5⟩ := hL
            unfold Oper.wp execOp
            simp only [ho, resolve, invoke, Sem.run_bind, Sem.run_pure, Result.andThen_ok, builtin, List.map_toArray, List.map_cons, List.map_nil, q1]
            exact hn v xx w' E2 σ2 q2 q3 q4 q5
          · cases hc
        · cases hc
      · cases hc
    · cases hc
  case h_8 args ts ho =>
    split at hc
    · rename_i x y t u hargs hts
      have hA := list2 hargs
      have hT := list2 hts
      subst hA; subst hT
      split at hc
      · rename_i e x' y' hu hx hy
        split at hc
        · rename_i sz e' hsz hu2
          cases hc
          simp only [efI] at h
          obtain ⟨vx, hvx, h⟩ := evR_ok hf hx h
          obtain ⟨vy, hvy, h⟩ := evR_ok hf hy h
          obtain ⟨ad, cap, p, l, cs, e1, e2, hk, hrow, hcl, hcs, hnil, hpure⟩ := rows_run hr hvy h.ok
          obtain ⟨rfl, hk⟩ := hk
          have hL : Leaves P w E (Builtin.copy_ #[t, u] o.type #[a.eval x, a.eval y]) K := by
            rw [e1]
            exact copy_leaves (e' := e') hu (posSz_szT hsz).1 hr hvx hcl hcs hnil hrow (hpure rfl) hk.ok
          obtain ⟨v, xx, w', E2, σ2, q1, q2, q3, q4, q5⟩ := hL
          unfold Oper.wp execOp
          simp only [ho, resolve, invoke, Sem.run_bind, Sem.run_pure, Result.andThen_ok, builtin, List.map_toArray, List.map_cons, List.map_nil, q1]
          exact hn v xx w' E2 σ2 q2 q3 q4 q5
        · cases hc
      · cases hc
    · cases hc
  case h_9 t ho =>
    obtain ⟨z, hz, rfl⟩ := Option.map_eq_some_iff.1 hc
    simp only [efI] at h
    exact ef_value (s := Instr.makeMap t none) (by unfold execOp; simp only [ho]; rfl) (mkmap_leaves hr h) hn
  case h_10 t x k c ho =>
    split at hc
    · rename_i z y j hz hy hj
      cases hc
      obtain ⟨kt, et, ht, hk, hzr⟩ := mapT_ok hz
      simp only [efI] at h
      obtain ⟨vx, hvx, h⟩ := evR_ok hf hy h
      obtain ⟨vk, hvk, h⟩ := evR_ok hf hj h
      obtain ⟨n, en, h⟩ := keyR_elim h hvk
      refine ef_value (s := Instr.lookup t (a.eval x) (a.eval k) c) (by unfold execOp; simp only [ho]) ?_ hn
      rw [en]
      exact look_leaves ht hk (hzr w) hr hvx h
    · cases hc
  case h_11 t x k v ho =>
    split at hc
    · rename_i z y j u hz hy hj hu
      cases hc
      obtain ⟨kt, et, ht, hk, hzr⟩ := mapT_ok hz
      simp only [efI] at h
      obtain ⟨vx, hvx, h⟩ := evR_ok hf hy h
      obtain ⟨vk, hvk, h⟩ := evR_ok hf hj h
      obtain ⟨n, en, h⟩ := keyR_elim h hvk
      obtain ⟨vv, hvv, h⟩ := evR_ok hf hu h
      obtain ⟨m, em, h⟩ := litK_elim h hvv
      obtain ⟨v', xx, w', E2, σ2, q1, q2, q3, q4, q5⟩ := upd_leaves ht hk hr hvx h
      unfold Oper.wp execOp
      simp only [ho, en, em]
      simp only [Sem.run_bind, Sem.run_pure] at q1 ⊢
      cases hq : (Instr.mapUpdate t (a.eval x) (.int .i64 n) m.v).run P w with
      | ok r w1 =>
        rw [hq] at q1
        simp only [Result.andThen_ok] at q1 ⊢
        cases q1
        exact hn _ xx _ E2 σ2 q2 q3 q4 q5
      | _ => rw [hq] at q1; cases q1
    · cases hc
  case h_12 args ts ho =>
    split at hc
    · rename_i x k t u hargs hts
      have hA := list2 hargs
      have hT := list2 hts
      subst hA; subst hT
      split at hc
      · rename_i z y j hz hy hj
        cases hc
        obtain ⟨kt, et, ht, hk, hzr⟩ := mapT_ok hz
        simp only [efI] at h
        obtain ⟨vx, hvx, h⟩ := evR_ok hf hy h
        obtain ⟨vk, hvk, h⟩ := evR_ok hf hj h
        obtain ⟨n, en, h⟩ := keyR_elim h hvk
        obtain ⟨v', xx, w', E2, σ2, q1, q2, q3, q4, q5⟩ := del_leaves (t2 := u) (ty := o.type) ht hk hr hvx h
        rw [← en] at q1
        unfold Oper.wp execOp
        simp only [ho, resolve, invoke, Sem.run_bind, Sem.run_pure, Result.andThen_ok, builtin, List.map_toArray, List.map_cons, List.map_nil, q1]
        exact hn v' xx w' E2 σ2 q2 q3 q4 q5
      · cases hc
    · cases hc
  case h_13 args ts ho =>
    split at hc
    · rename_i x t hargs hts
      have hA : args = #[x] := by apply Array.ext'; simpa using hargs
      have hT : ts = #[t] := by apply Array.ext'; simpa using hts
      subst hA; subst hT
      split at hc
      · rename_i z y hz hy
        cases hc
        obtain ⟨kt, et, ht, hk, hzr⟩ := mapT_ok hz
        simp only [efI] at h
        obtain ⟨vx, hvx, h⟩ := evR_ok hf hy h
        obtain ⟨v', xx, w', E2, σ2, q1, q2, q3, q4, q5⟩ := clr_leaves (ty := o.type) ht hr hvx h
        unfold Oper.wp execOp
        simp only [ho, resolve, invoke, Sem.run_bind, Sem.run_pure, Result.andThen_ok, builtin, List.map_toArray, List.map_cons, List.map_nil, q1]
        exact hn v' xx w' E2 σ2 q2 q3 q4 q5
      · cases hc
    · cases hc
  case h_14 t x ho =>
    split at hc
    · rename_i z y hz hy
      cases hc
      obtain ⟨kt, et, ht, hk, hzr⟩ := mapT_ok hz
      simp only [efI] at h
      obtain ⟨vx, hvx, h⟩ := evR_ok hf hy h
      exact ef_value (s := Instr.range t (a.eval x)) (by unfold execOp; simp only [ho]) (rng_leaves ht hr hvx h) hn
    · cases hc
  case h_15 x ho =>
    obtain ⟨y, hy, rfl⟩ := Option.map_eq_some_iff.1 hc
    simp only [efI] at h
    obtain ⟨vx, hvx, h⟩ := evR_ok hf hy h
    exact ef_value (s := Instr.next (a.eval x) false o.type) (by unfold execOp; simp only [ho]) (next_leaves hr hvx h) hn
  case h_16 x ho =>
    obtain ⟨y, hy, rfl⟩ := Option.map_eq_some_iff.1 hc
    simp only [efI] at h
    obtain ⟨vx, hvx, h⟩ := evR_ok hf hy h
    exact ef_value (s := Instr.entry (a.eval x)) (by unfold execOp; simp only [ho]) (entry_leaves hr hvx h) hn
  case h_17 f args ts ho =>
    split at hc
    · rename_i fn l hfn hl
      split at hc
      · rename_i hb
        cases hc
        simp only [efI] at h
        split at h
        · rename_i zs hzs
          have hrep := evs_ok hf hl hzs
          refine call_ok (o := o) hr hrep ?_ h.2 hn
          have e1 : args.map a.eval = (args.toList.map a.eval).toArray := by apply Array.ext'; simp
          unfold execOp
          simp only [ho, resolve, Act.eval, Deferred.ofValue, invoke, Sem.run_bind, Sem.run_pure, Result.andThen_ok, Array.append_empty, Array.empty_append]
          have := callFunc_run hfn hb.1 hb.2.1 (args.map a.eval) w
          rw [← e1]
          simpa [Array.empty_append] using this
        · exact h.elim
      · cases hc
    · cases hc
  case h_18 t args ts ho =>
    obtain ⟨l, hl, rfl⟩ := Option.map_eq_some_iff.1 hc
    simp only [efI] at h
    obtain ⟨z, hz, h⟩ := evR_ok (x := .tmp t) hf rfl h
    split at h
    · rename_i g caps
      split at h
      · rename_i zs hzs
        have hrep := evs_ok hf hl hzs
        obtain ⟨cv, e1, hcv⟩ := hz.fn_inv
        obtain ⟨⟨_, fn, hfn, hb1, hb2⟩, h⟩ := h
        refine call_ok (o := o) hr (hrep.append hcv) ?_ h hn
        have e2 : args.map a.eval ++ cv = (args.toList.map a.eval ++ cv.toList).toArray := by apply Array.ext'; simp
        unfold execOp
        simp only [ho, resolve, e1, Deferred.ofValue, invoke, Sem.run_bind, Sem.run_pure, Result.andThen_ok, Array.empty_append]
        rw [← e2]
        exact callFunc_run hfn hb1 hb2 _ w
      · exact h.elim
    · split at h
      · exact absurd rfl h.1.1
      · exact h.elim
    · rename_i g pre caps
      split at h
      · rename_i zs hzs
        have hrep := evs_ok hf hl hzs
        obtain ⟨hne, ps, cv, e1, hps, hcv⟩ := hz.fnb_inv
        obtain ⟨⟨_, fn, hfn, hb1, hb2⟩, h⟩ := h
        refine call_ok (o := o) hr ((hps.append hrep).append hcv) ?_ h hn
        have e2 : ps ++ args.map a.eval ++ cv = (ps.toList ++ args.toList.map a.eval ++ cv.toList).toArray := by apply Array.ext'; simp
        unfold execOp
        simp only [ho, resolve, e1, Deferred.ofValue, invoke, Sem.run_bind, Sem.run_pure, Result.andThen_ok]
        rw [← e2]
        exact callFunc_run hfn hb1 hb2 _ w
      · exact h.elim
    · exact h.elim
  case h_19 => cases hc

end
end Go.Proofs.Ytppccaacbpkgiaa.V
