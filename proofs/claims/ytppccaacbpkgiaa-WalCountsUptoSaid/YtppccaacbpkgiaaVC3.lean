/-
  VC3: the other read-only instructions; all of them together.
-/
import Derived.Test.YtppccaacbpkgiaaVC2
namespace Go.Proofs.Ytppccaacbpkgiaa.V
open Go Go.RowKit
variable [Zone]
set_option linter.unusedSimpArgs false
set_option linter.unusedVariables false

section
variable {P : Program} {w : World} {E : Env} {σ : AH} {fr : Fr} {a : Act} {K : AV → Prop}

theorem load_yields {t : TypeId} {n : Nat} {g : Bool} (hn : szT P t = some n) (hg : rowT P t = some g) {ad : Addr} {row : List AV} {cs : List Value} (hc : CellsAt w E ad row cs) {off : Nat} (h : loadRow g n off row K) :
    Yields P w E (loadVar t (ad.add off)) K := by
  have hl := hc.rep.length
  replace h := loadRow_elim h
  unfold loadRow0 at h
  cases g
  · simp only [Bool.false_eq_true, if_false] at h
    obtain ⟨hlt, h⟩ := h
    obtain ⟨v, hv, hrep⟩ := hc.rep.get off row[off] (List.getElem?_eq_getElem hlt)
    refine .of hrep (h _ (List.getElem?_eq_getElem hlt)) fun w' ho => ?_
    have := ho.cell (hc.shows off v hv)
    simp [loadVar, Sem.run_bind, rowT_run hg, load, Sem.run, this]
  · simp only [if_true] at h
    obtain ⟨hlt, h⟩ := h
    have hd := (hc.drop off).take n
    have hlen : ((cs.drop off).take n).length = n := by rw [List.length_take, List.length_drop]; omega
    refine .of (.agg ((cs.drop off).take n).toArray _ (by simpa using hd.one) (by simpa using hd.rep)) h fun w' ho => ?_
    have := run_loadCells_list (P := P) w' (ad.add off) _ (hd.shows.old ho)
    rw [hlen] at this
    simp [loadVar, Sem.run_bind, rowT_run hg, szT_run hn, this]

theorem part_yields {t : TypeId} {n : Nat} {g : Bool} (hn : szT P t = some n) (hg : rowT P t = some g) {row : List AV} {cs : Array Value} (h1 : ∀ v, v ∈ cs.toList → v.oneCell' = true) (hr : RepL w E cs.toList row) {off : Nat} (h : loadRow g n off row K) :
    Yields P w E (part t cs off) K := by
  have hl := hr.length
  replace h := loadRow_elim h
  unfold loadRow0 at h
  cases g
  · simp only [Bool.false_eq_true, if_false] at h
    obtain ⟨hlt, h⟩ := h
    obtain ⟨v, hv, hrep⟩ := hr.get off row[off] (List.getElem?_eq_getElem hlt)
    refine .of hrep (h _ (List.getElem?_eq_getElem hlt)) fun w' ho => ?_
    have e : cs[off]? = some v := by simpa using hv
    simp [part, Sem.run_bind, rowT_run hg, e]
  · simp only [if_true] at h
    obtain ⟨hlt, h⟩ := h
    have e : (cs.extract off (off + n)).toList = (cs.toList.drop off).take n := by simp
    refine .of (.agg (cs.extract off (off + n)) _ ?_ ?_) h fun w' ho => ?_
    · intro v hv
      rw [e] at hv
      exact h1 v (List.mem_of_mem_drop (List.mem_of_mem_take hv))
    · rw [e]; exact (hr.drop off).take n
    · simp [part, Sem.run_bind, rowT_run hg, szT_run hn]

/-- What a pointer points to. -/
theorem ptr_load {id gen idx off : Nat} {v : Value} (hr : Rel σ E w) (hp : Rep w E v (.ptr id gen idx off)) {b : Blk} (hb : σ[id]? = some b) (hg : b.gen = gen) {row : List AV} (hrow : b.els[idx]? = some row) :
    ∃ ad cs, v = .pointer (some (ad.add off)) ∧ CellsAt w E ad row cs := by
  obtain ⟨m, hm, hok⟩ := hr.blk id b hb
  replace hok := hok.cells (hok.rows fun e => by rw [e] at hrow; simp at hrow)
  obtain ⟨g, c, hpl, rfl⟩ := hp.ptr_inv hm (hok.1.trans hg)
  obtain ⟨cs, hcs⟩ := blk_row hok hpl hrow
  refine ⟨_, cs, ?_, hcs⟩
  rw [add_lit, hok.2.1]

omit [Zone] in
theorem run_bounds (isSlice : Bool) (len cap : Nat) (lo hi mx : Option Value) (l h : Int) (m : Nat) (hlo : (lo = none ∧ l = 0) ∨ ∃ k, lo = some (.int k l)) (hhi : (hi = none ∧ h = len ∧ mx = none) ∨ ∃ k, hi = some (.int k h))
    (hmx : (mx = none ∧ m = cap) ∨ ∃ k, mx = some (.int k m)) (h0 : 0 ≤ l) (h1 : l ≤ h) (h2 : h ≤ m) (h3 : m ≤ cap) (w' : World) :
    (Instr.sliceBounds isSlice len cap lo hi mx).run P w' = .ok (l.toNat, h.toNat, m) w' := by
  have eh : (h.toNat : Int) = h := Int.toNat_of_nonneg (by omega)
  have hh0 : 0 ≤ h := by omega
  have hl : l ≤ (h.toNat : Int) := by omega
  rcases hhi with ⟨rfl, rfl, rfl⟩ | ⟨k', rfl⟩
  · rcases hmx with ⟨_, rfl⟩ | ⟨k'', hq⟩
    · rcases hlo with ⟨rfl, rfl⟩ | ⟨k, rfl⟩
      · simp [Instr.sliceBounds]
      · have e := fun code => run_sliceBound (P := P) w' k l len code h0 h1
        simp [Instr.sliceBounds, e]
    · cases hq
  · rcases hmx with ⟨rfl, rfl⟩ | ⟨k'', rfl⟩
    · have eh2 := fun code => run_sliceBound (P := P) w' k' h m code hh0 h2
      rcases hlo with ⟨rfl, rfl⟩ | ⟨k, rfl⟩
      · cases isSlice <;> simp [Instr.sliceBounds, eh2]
      · have e := fun code => run_sliceBound (P := P) w' k l h.toNat code h0 hl
        cases isSlice <;> simp [Instr.sliceBounds, eh2, e]
    · have em := fun code => run_sliceBound (P := P) w' k'' (m : Int) cap code (by omega) (by omega)
      have eh2 := fun code => run_sliceBound (P := P) w' k' h m code hh0 h2
      simp only [Int.toNat_natCast] at em
      rcases hlo with ⟨rfl, rfl⟩ | ⟨k, rfl⟩
      · cases isSlice <;> simp [Instr.sliceBounds, em, eh2]
      · have e := fun code => run_sliceBound (P := P) w' k l h.toNat code h0 hl
        cases isSlice <;> simp [Instr.sliceBounds, em, eh2, e]

omit [Zone] in
theorem run_slice_val {t e : TypeId} {sz : Nat} (hu : P.underlying t = some (.slice e)) (hs : szT P e = some sz) (ad : Option Addr) (len cap : Nat) (lo hi mx : Option Value) (l h : Int) (m : Nat)
    (hlo : (lo = none ∧ l = 0) ∨ ∃ k, lo = some (.int k l)) (hhi : (hi = none ∧ h = len ∧ mx = none) ∨ ∃ k, hi = some (.int k h)) (hmx : (mx = none ∧ m = cap) ∨ ∃ k, mx = some (.int k m))
    (h0 : 0 ≤ l) (h1 : l ≤ h) (h2 : h ≤ m) (h3 : m ≤ cap) (w' : World) :
    (Instr.sliceAt t (.slice ad len cap) lo hi mx).run P w' = .ok (.slice (if m = l.toNat then ad else ad.map (·.add (l.toNat * sz))) (h.toNat - l.toNat) (m - l.toNat)) w' := by
  simp [Instr.sliceAt, Instr.slice, Sem.run_bind, run_underlying hu, run_bounds (P := P) true len cap lo hi mx l h m hlo hhi hmx h0 h1 h2 h3, szT_run hs]


/-! ### The instructions one by one -/
omit [Zone] in
theorem old_refl : Old w w := fun _ _ => rfl

theorem slice_yields {t e : TypeId} {sz : Nat} (hu : P.underlying t = some (.slice e)) (hs : szT P e = some sz) (hr : Rel σ E w) {v : Value} {x : AV} (hv : Rep w E v x) (lo hi mx : Option Value) (l : Int) (h m : Option Int)
    (hlo : (lo = none ∧ l = 0) ∨ ∃ k, lo = some (.int k l)) (hhi : (hi = none ∧ h = none) ∨ ∃ k n, hi = some (.int k n) ∧ h = some n) (hmx : (mx = none ∧ m = none) ∨ ∃ k n, mx = some (.int k n) ∧ m = some n ∧ ∃ n', h = some n')
    (hk : sliceR σ sz x l h m K) : Yields P w E (Instr.sliceAt t v lo hi mx) K := by
  replace hk := sliceR_elim hk
  unfold sliceR0 at hk
  -- one run: 'len', 'cap', the bounds
  have run : ∀ (ad : Option Addr) (len cap : Nat) (H M : Nat), v = .slice ad len cap → h.getD len = (H : Int) → (m = none ∧ M = cap ∨ m = some (M : Int)) → 0 ≤ l → l ≤ H → H ≤ M → M ≤ cap → ∀ w',
      (Instr.sliceAt t v lo hi mx).run P w' = .ok (.slice (if M = l.toNat then ad else ad.map (·.add (l.toNat * sz))) (H - l.toNat) (M - l.toNat)) w' := by
    intro ad len cap H M hv' hH hM h0 h1 h2 h3 w'
    subst hv'
    have := run_slice_val (P := P) hu hs ad len cap lo hi mx l H M hlo
      (by
        rcases hhi with ⟨rfl, rfl⟩ | ⟨k, n, rfl, rfl⟩
        · refine .inl ⟨rfl, by simpa using hH.symm, ?_⟩
          rcases hmx with ⟨rfl, _⟩ | ⟨_, _, _, _, _, hq⟩
          · rfl
          · cases hq
        · exact .inr ⟨k, by simp at hH; rw [hH]⟩)
      (by
        rcases hmx with ⟨rfl, rfl⟩ | ⟨k, n, rfl, rfl, _⟩
        · rcases hM with ⟨_, rfl⟩ | hq
          · exact .inl ⟨rfl, rfl⟩
          · cases hq
        · rcases hM with ⟨hq, _⟩ | hq
          · cases hq
          · exact .inr ⟨k, by cases hq; rfl⟩)
      h0 (by omega) (by omega) h3 w'
    simpa using this
  split at hk
  · -- nil
    obtain ⟨rfl, h1, h2, hk⟩ := hk
    have hv' := hv.nils_inv
    refine .of (v := .slice none 0 0) (.pure .nils) hk fun w' _ => ?_
    have := run none 0 0 0 0 hv' (by simpa using h1) (by
      cases m with
      | none => exact .inl ⟨rfl, rfl⟩
      | some n => exact .inr (by rw [h2 n rfl]; rfl)) (by omega) (by omega) (by omega) (by omega) w'
    simpa using this
  · rename_i sz' ls nn
    obtain ⟨rfl, h0, h1, h2, h3, hk⟩ := hk
    -- the bounds as natural numbers
    obtain ⟨H, hH⟩ : ∃ H : Nat, h.getD ls.length = (H : Int) := ⟨(h.getD ls.length).toNat, by omega⟩
    obtain ⟨L, rfl⟩ : ∃ L : Nat, l = (L : Int) := ⟨l.toNat, by omega⟩
    rw [hH] at h1 h2 h3 hk
    simp only [Int.toNat_natCast] at hk
    have hlen : ((ls.take H).drop L).length = H - L := by rw [List.length_drop, List.length_take]; omega
    rcases hv.sl_inv with ⟨hv', rfl⟩ | ⟨ad, cap, cs, hv', hle, hcap, hrow, hcs, hW, hpv, hB⟩
    · have hH0 : H = 0 := by simp at h2; omega
      have hL0 : L = 0 := by omega
      subst hH0; subst hL0
      have hrun := run none 0 0 0 0 hv' (by simpa using hH) (by
        cases m with
        | none => exact .inl ⟨rfl, rfl⟩
        | some n => exact .inr (by rw [h3 n rfl])) (by omega) (by omega) (by omega) (by omega)
      cases m with
      | none => simp at hk; exact .of (v := .slice none 0 0) (.pure (.slnil _ _)) hk fun w' _ => by simpa using hrun w'
      | some n => simp at hk; exact .of (v := .slice none 0 0) (.pure (.slxnil _)) hk fun w' _ => by simpa using hrun w'
    · have hflat : ((ls.take H).drop L).flatten = (ls.flatten.take (H * sz)).drop (L * sz) := by
        rw [flatten_drop (sz := sz) (fun r hr => hrow r (List.mem_of_mem_take hr)), flatten_take hrow]
      have hcs2 : CellsAt w E (ad.add (L * sz)) ((ls.take H).drop L).flatten ((cs.take (H * sz)).drop (L * sz)) := by
        rw [hflat]; exact (hcs.take _).drop _
      have hpv2 : RepVL w (EW E) ((cs.take (H * sz)).drop (L * sz)) ((ls.take H).drop L).flatten := by
        rw [hflat]; exact (hpv.take _).drop _
      have hrow2 : ∀ r, r ∈ (ls.take H).drop L → r.length = sz := fun r hr => hrow r (List.mem_of_mem_take (List.mem_of_mem_drop hr))
      have hW2 : ((ls.take H).drop L).flatten ≠ [] → ¬ EW E (ad.add (L * sz)).block := by
        intro hne; rw [add_block]; refine hW (fun q => hne ?_)
        rw [hflat, q]; simp
      -- the machine's address: where nothing is left it is the old one
      have mk : ∀ (M : Nat), H ≤ M → M ≤ cap → ∃ ad', (if M = L then some ad else (some ad).map (·.add (L * sz))) = some ad' ∧ CellsAt w E ad' ((ls.take H).drop L).flatten ((cs.take (H * sz)).drop (L * sz)) ∧ (((ls.take H).drop L).flatten ≠ [] → ¬ EW E ad'.block) ∧ (nn = true → ((ls.take H).drop L).flatten ≠ [] → Zone.base ≤ ad'.block) := by
        intro M hM1 hM2
        by_cases hML : M = L
        · refine ⟨ad, by rw [if_pos hML], ?_, ?_, ?_⟩
          · have : (ls.take H).drop L = [] := List.length_eq_zero_iff.1 (by rw [hlen]; omega)
            rw [this] at hcs2 ⊢
            have hnil : (cs.take (H * sz)).drop (L * sz) = [] := List.length_eq_zero_iff.1 (by simpa using hcs2.rep.length)
            rw [hnil]; exact ⟨fun j u hj => by simp at hj, by simp, .nil⟩
          · have : (ls.take H).drop L = [] := List.length_eq_zero_iff.1 (by rw [hlen]; omega)
            rw [this]; simp
          · have : (ls.take H).drop L = [] := List.length_eq_zero_iff.1 (by rw [hlen]; omega)
            rw [this]; simp
        · exact ⟨_, by rw [if_neg hML]; rfl, hcs2, hW2, fun q hne => by
            rw [add_block]; exact hB q (fun e => hne (by rw [hflat, e]; simp))⟩
      cases m with
      | none =>
        simp at hk
        obtain ⟨ad', e1, c1, c2, c3⟩ := mk cap (by omega) (Nat.le_refl _)
        refine .of (v := .slice (some ad') ((ls.take H).drop L).length (cap - L)) (.pure (.sl ad' (cap - L) sz _ nn _ c3 (by rw [hlen]; omega) (by omega) hrow2 c2 c1.shows c1.one hpv2)) (by simpa [List.drop_take] using hk) fun w' _ => ?_
        have := run (some ad) ls.length cap H cap hv' hH (.inl ⟨rfl, rfl⟩) (by omega) (by omega) (by omega) (Nat.le_refl _) w'
        rw [this, hlen]; simp only [Int.toNat_natCast]; rw [e1]
      | some n =>
        simp at hk
        have hn := h3 n rfl
        obtain ⟨ad', e1, c1, c2, c3⟩ := mk H (Nat.le_refl _) (by omega)
        refine .of (v := .slice (some ad') ((ls.take H).drop L).length ((ls.take H).drop L).length) (.pure (.slx ad' sz _ _ (by rw [hlen]; omega) hrow2 c2 c1.shows c1.one hpv2)) (by simpa [List.drop_take] using hk) fun w' _ => ?_
        have := run (some ad) ls.length cap H H hv' hH (.inr (by rw [hn])) (by omega) (by omega) (by omega) (by omega) w'
        rw [this, hlen]; simp only [Int.toNat_natCast]; rw [e1]
  · rename_i id gen off len cap
    obtain ⟨b, mm, hb, hm, hok, hg1, hg2, hbe, hk⟩ := blkAt_elim hr hk
    obtain ⟨rfl, h0, h1, h2, h3, hk⟩ := hk
    have hs' := hv.rsl_inv hm hg2 hok.pos
    obtain ⟨H, hH⟩ : ∃ H : Nat, h.getD len = (H : Int) := ⟨(h.getD len).toNat, by omega⟩
    obtain ⟨L, rfl⟩ : ∃ L : Nat, l = (L : Int) := ⟨l.toNat, by omega⟩
    rw [hH] at h1 h2 h3 hk
    simp only [Int.toNat_natCast] at hk h2
    unfold RslOk at hs'
    split at hs'
    · rename_i hpl
      obtain ⟨hv', rfl, rfl, hc0⟩ := hs'
      have hbl : b.els = [] := by have := hok.2.2.2.2.2; rw [hpl] at this; exact this
      have hH0 : H = 0 := by
        rcases h2 with h2 | ⟨_, h2⟩ | ⟨c, h2, h4⟩
        · omega
        · rw [hbl] at h2; simp at h2; omega
        · have := hc0 c h2; omega
      have hL0 : L = 0 := by omega
      subst hH0; subst hL0
      have fin : ∀ ad : Option Addr, v = .slice ad 0 0 → (ad = none ∨ ∃ q, ad = some q) → Yields P w E (Instr.sliceAt t v lo hi mx) K := by
        intro ad hv' had
        refine .of (v := .slice ad 0 0) (.rsl (m := mm) (one_slice _ _ _) hm (by omega) (fun _ => ?_)) hk fun w' _ => ?_
        · refine RslAny.of ?_ hok.pos
          unfold RslOk; rw [hpl]
          refine ⟨?_, rfl, rfl, ?_⟩
          · rcases had with rfl | ⟨q, rfl⟩
            · exact .inl rfl
            · exact .inr ⟨q, rfl⟩
          · intro k' hk'
            cases m with
            | none =>
              cases cap with
              | none => simp at hk'
              | some c => simp at hk'; have := hc0 c rfl; omega
            | some n => simp at hk'; have := h3 n rfl; omega
        · have := run ad 0 0 0 0 hv' (by simpa using hH) (by
            cases m with
            | none => exact .inl ⟨rfl, rfl⟩
            | some n => exact .inr (by rw [h3 n rfl])) (by omega) (by omega) (by omega) (by omega) w'
          rw [this]
          cases ad <;> simp
      rcases hv' with hv' | ⟨q, hv'⟩
      · exact fin none hv' (.inl rfl)
      · exact fin (some q) hv' (.inr ⟨q, rfl⟩)
    · rename_i g c hpl
      obtain ⟨ad, k, hv', hk1, hk2, hk3, hk4⟩ := hs'
      have hHk : H ≤ k := by
        rcases h2 with h2 | ⟨hcn, h2⟩ | ⟨c', hc', h2⟩
        · omega
        · rw [hcn] at hk4
          have hbc : b.els.length ≤ c := by have := hok.2.2.2.2.2; rw [hpl] at this; exact this.1.1
          simp only [] at hk4
          omega
        · rw [hc'] at hk4; simp only [] at hk4; omega
      have hsz : mm.sz = b.sz := hok.2.1
      -- M: the new end
      have fin : ∀ (M : Nat) (cap' : Option Nat), (m = none ∧ M = k ∨ m = some (M : Int)) → H ≤ M → M ≤ k → (match cap' with | some k' => M - L = k' | none => off + L + (M - L) = c) → K (.rsl id gen (off + L) (H - L) cap') → Yields P w E (Instr.sliceAt t v lo hi mx) K := by
        intro M cap' hM hM1 hM2 hcap' hK
        refine .of (v := .slice (if M = L then some ad else (some ad).map (·.add (L * b.sz))) (H - L) (M - L)) (.rsl (m := mm) (one_slice _ _ _) hm (by omega) (fun _ => ?_)) hK fun w' _ => ?_
        · refine RslAny.of ?_ hok.pos
          unfold RslOk; rw [hpl]
          simp only []
          by_cases hML : M = L
          · rw [if_pos hML]
            exact ⟨ad, M - L, rfl, by omega, by omega, fun q => absurd (by omega) q, hcap'⟩
          · rw [if_neg hML]
            refine ⟨ad.add (L * b.sz), M - L, rfl, by omega, by omega, fun _ => ?_, hcap'⟩
            rw [hk3 (by omega), add_lit, hsz, Nat.add_mul]
        · exact run (some ad) len k H M hv' hH hM (by omega) (by omega) hM1 hM2 w'
      cases m with
      | some n =>
        have hn := h3 n rfl
        subst hn
        exact fin H (some (H - L)) (.inr rfl) (Nat.le_refl _) hHk rfl (by simpa using hk)
      | none =>
        cases cap with
        | none => exact fin k none (.inl ⟨rfl, rfl⟩) hHk (Nat.le_refl _) (by have h4 : off + k = c := hk4; show off + L + (k - L) = c; omega) (by simpa using hk)
        | some c' => exact fin k (some (c' - L)) (.inl ⟨rfl, rfl⟩) hHk (Nat.le_refl _) (by have h4 : k = c' := hk4; show k - L = c' - L; omega) (by simpa using hk)
  · exact hk.elim

end
end Go.Proofs.Ytppccaacbpkgiaa.V
