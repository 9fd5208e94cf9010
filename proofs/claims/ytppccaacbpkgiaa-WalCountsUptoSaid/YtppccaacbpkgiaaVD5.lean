/-
  VD5: append.
-/
import Derived.Test.YtppccaacbpkgiaaVD4
namespace Go.Proofs.Ytppccaacbpkgiaa.V
open Go Go.RowKit
variable [Zone]
set_option linter.unusedSimpArgs false
set_option linter.unusedVariables false

section
variable {P : Program} {w : World} {E : Env} {σ : AH} {fr : Fr} {a : Act} {K : AV → AH → Prop}

/-- What append does with its second argument. -/
structure App (P : Program) (t u ty e : TypeId) (i : TypeInfo) (zv : Value) (yv : Value) (m : Nat) (cs : List Value) (w : World) : Prop where
  len : cs.length = m * i.size
  room : ∀ (b off sLen sCap : Nat), sLen + m ≤ sCap → (∀ j, j < cs.length → (w.cell? ⟨b, off + sLen * i.size + j, none⟩).isSome = true) → (∀ j, j < cs.length → w.frozen? ⟨b, off + sLen * i.size + j, none⟩ = false) →
    (Builtin.append_ #[t, u] ty #[.slice (some ⟨b, off, none⟩) sLen sCap, yv]).run P w = .ok (.slice (some ⟨b, off, none⟩) (sLen + m) sCap) (w.setCells b (off + sLen * i.size) cs)
  grow : ∀ (base : Option Addr) (sLen sCap : Nat) (olds : List Value), (Builtin.firstCells i.size sLen (.slice base sLen sCap)).run P w.drew = .ok olds.toArray w.drew → sCap < sLen + m → ((sLen + m : Nat) : Int) ≤ 9223372036854775807 →
    Builtin.nextslicecap (sLen + m) sCap * i.bytes ≤ 281474976710656 →
    (Builtin.append_ #[t, u] ty #[.slice base sLen sCap, yv]).run P w = .ok (.slice (some ⟨w.heap.size, 0, none⟩) (sLen + m) (grownCap w (sLen + m) sCap e))
        (w.drew.alloc (.cells ((olds ++ cs).toArray ++ Builtin.zeroCells zv.cells (grownCap w (sLen + m) sCap e - (sLen + m))) e))
  nothing : m = 0 → ∀ (base : Option Addr) (sLen sCap : Nat), sLen ≤ sCap → (Builtin.append_ #[t, u] ty #[.slice base sLen sCap, yv]).run P w = .ok (.slice base sLen sCap) w

omit [Zone] in
theorem App.ofSrc {t u ty e : TypeId} {i : TypeInfo} {zv : Value} (ht : P.underlying t = some (.slice e)) (hi : P.info? e = some i) (hz : i.zero = some zv) {yv : Value} {m : Nat} {cs : List Value} (hs : Src P i.size u yv m cs w) : App P t u ty e i zv yv m cs w :=
  ⟨hs.newsLen, fun b off sLen sCap h1 h2 h3 => run_append_room_src w t u ty e i ht hi b off sLen sCap yv m cs hs h1 h2 h3,
   fun base sLen sCap olds h1 h2 h3 h4 => run_append_grow_src w t u ty e i zv ht hi hz base sLen sCap olds h1 yv m cs hs h2 h3 h4,
   fun h0 base sLen sCap hle => by
    subst h0
    have hc : cs = [] := List.length_eq_zero_iff.1 (by rw [hs.newsLen, Nat.zero_mul])
    subst hc
    exact run_append_nothing w t u ty e i ht hi base sLen sCap hle yv hs⟩

omit [Zone] in
theorem App.ofZeros {t u ty e : TypeId} {i : TypeInfo} {zv : Value} (ht : P.underlying t = some (.slice e)) {k kx : IntKind} (hu : P.underlying u = some (.int k)) (hi : P.info? e = some i) (hz : i.zero = some zv) (hzs : zv.cells.size = i.size) (hsz : 0 < i.size) (hb0 : 0 < i.bytes)
    (h1 : ∀ v, v ∈ zv.cells.toList → v.oneCell' = true) {m : Nat} (hb : m * i.bytes ≤ 140737488355328) : App P t u ty e i zv (.int kx m) m (Builtin.zeroCells zv.cells m).toList w := by
  have hm : m ≤ 140737488355328 := Nat.le_trans (Nat.le_mul_of_pos_right _ hb0) hb
  have hw : IntKind.i64.wrap (m : Int) = m := by rw [IntKind.wrap_i64]; omega
  have hneg : ¬ ((m : Int) < 0) := by omega
  have hbig : ¬ (281474976710656 < (m : Int) * (i.bytes : Int)) := by rw [← Int.natCast_mul]; omega
  have hsn : i.size ≠ 0 := by omega
  obtain ⟨news, hnews⟩ : ∃ news, news = (Builtin.zeroCells zv.cells m).toList := ⟨_, rfl⟩
  have hl : news.length = m * i.size := by rw [hnews, Array.length_toList, size_zeroCells, hzs]
  have hna : Builtin.zeroCells zv.cells m = news.toArray := by rw [hnews]
  have hone : ∀ v, v ∈ news → v.oneCell' = true := by
    intro v hv
    rw [hnews] at hv
    simp only [Builtin.zeroCells, Array.toList_map, List.mem_map] at hv
    obtain ⟨j, _, rfl⟩ := hv
    have hj : j % zv.cells.size < zv.cells.size := Nat.mod_lt _ (by omega)
    rw [getElem!_pos zv.cells _ hj]
    exact h1 _ (by simp)
  have happ : ∀ w' : World, (if m * i.size = 0 then (pure #[] : Sem (Array Value)) else do pure (Builtin.zeroCells (← zeroValue e).cells m)).run P w' = .ok news.toArray w' := by
    intro w'
    split
    · rename_i h0
      have : m = 0 := by rcases Nat.mul_eq_zero.1 h0 with q | q; exact q; exact absurd q hsn
      have hn0 : news = [] := List.length_eq_zero_iff.1 (by rw [hl, this, Nat.zero_mul])
      rw [hn0]; rfl
    · simp [zeroValue, typeInfo, hi, hz, hna]
  rw [← hnews]
  refine ⟨hl, ?_, ?_, ?_⟩
  · intro b off sLen sCap hroom hc hf
    have hst := run_storeCells_cells (P := P) b (off + sLen * i.size) news 0 w (by simpa using hc) (by simpa using hf) hone
    simp only [Nat.add_zero] at hst
    have h3 := happ w
    by_cases h0 : m = 0
    · subst h0
      have hn0 : news = [] := List.length_eq_zero_iff.1 (by rw [hl, Nat.zero_mul])
      subst hn0
      simp only [Nat.add_zero] at hroom
      have hw0 : IntKind.i64.wrap 0 = 0 := by rw [IntKind.wrap_i64]; rfl
      simp [Builtin.append_, run_underlying ht, run_underlying hu, sizeOf, typeInfo, hi, asInt, asIntOf, hw0, hroom, storeCells, World.setCells]
    · have hmz : m * i.size ≠ 0 := Nat.mul_ne_zero h0 hsn
      simp [Builtin.append_, run_underlying ht, run_underlying hu, sizeOf, typeInfo, hi, asInt, asIntOf, hw, hneg, hbig, hroom, hmz, h0, hsn, zeroValue, hz, hna, Addr.add_lit, hst]
  · intro base sLen sCap olds hold hg h63 hfit
    have hn : ¬ (sLen + m ≤ sCap) := by omega
    have h63' : ¬ (9223372036854775807 < ((sLen : Int) + (m : Int))) := by omega
    have h48' : ¬ (281474976710656 < Builtin.nextslicecap (sLen + m) sCap * i.bytes) := by omega
    by_cases h0 : m = 0
    · subst h0
      have hn0 : news = [] := List.length_eq_zero_iff.1 (by rw [hl, Nat.zero_mul])
      subst hn0
      have hw0 : IntKind.i64.wrap 0 = 0 := by rw [IntKind.wrap_i64]; rfl
      simp only [Nat.add_zero] at hn h48' h63'
      have h63'' : ¬ (9223372036854775807 < (sLen : Int)) := by omega
      simp [Builtin.append_, run_underlying ht, run_underlying hu, sizeOf, typeInfo, zeroValue, hi, hz, asInt, asIntOf, hw0, hn, h63'', h48', Question.forced, hold, newRow, grownCap]
    · have hmz : m * i.size ≠ 0 := Nat.mul_ne_zero h0 hsn
      simp [Builtin.append_, run_underlying ht, run_underlying hu, sizeOf, typeInfo, zeroValue, hi, hz, asInt, asIntOf, hw, hneg, hbig, hn, h63', h48', hmz, h0, hsn, hna, Question.forced, hold, newRow, grownCap]
      congr 2
      apply Array.ext'
      simp [List.append_assoc]
  · intro h0 base sLen sCap hle
    subst h0
    have hw0 : IntKind.i64.wrap 0 = 0 := by rw [IntKind.wrap_i64]; rfl
    cases base <;> simp [Builtin.append_, run_underlying ht, run_underlying hu, sizeOf, typeInfo, hi, asInt, asIntOf, hw0, hle, storeCells]

theorem grow_run {t u ty e sz by_ : Nat} {z : List AV} (hu : P.underlying t = some (.slice e)) (hz : zeroSz P e = some (z, sz)) (hby : bytesT P e = some by_)
    {base : Option Addr} {sLen sCap : Nat} {olds : List Value} (hold : olds.length = sLen * sz) (hshow : ∀ q, base = some q → Shows w q olds) (hbn : base = none → olds = [] ∧ sLen = 0)
    {x : Value} {m : Nat} {news : List Value} (hs : ∀ i zv, P.info? e = some i → i.zero = some zv → App P t u ty e i zv x m news w) (hg : sCap < sLen + m) (hbnd : (sLen + m) * by_ ≤ 140737488355328) :
    ∃ w' C cur, (Builtin.append_ #[t, u] ty #[.slice base sLen sCap, x]).run P w = .ok (.slice (some ⟨w.heap.size, 0, none⟩) (sLen + m) C) w' ∧ Grows w w' (.cells cur e (0, 0)) ∧ sLen + m ≤ C ∧ C ≤ 9223372036854775807 ∧ cur.size = C * sz ∧ cur.toList.take ((sLen + m) * sz) = olds ++ news ∧ ∀ v, v ∈ cur.toList → v ∈ olds ++ news ∨ v.oneCell' = true := by
  obtain ⟨i, zv, hi, hzv, hsz, hpos, hzl, hzs, hzr, hz1⟩ := zeroSz_val hz
  obtain ⟨hb, hb0⟩ := bytesT_info hby hi
  have hsm : sLen + m ≤ 140737488355328 := Nat.le_trans (Nat.le_mul_of_pos_right _ hb0) hbnd
  subst hsz
  have hold' : (Builtin.firstCells i.size sLen (.slice base sLen sCap)).run P w.drew = .ok olds.toArray w.drew := by
    cases base with
    | none => obtain ⟨rfl, rfl⟩ := hbn rfl; exact run_firstCells_none w.drew i.size 0 0 sCap
    | some q => exact run_firstCells_some w.drew i.size sLen q sLen sCap olds hold (by simpa [Shows] using hshow q rfl)
  have hs := hs i zv hi hzv
  have hrun := hs.grow base sLen sCap olds hold' hg (by omega) (growslice_fits (by omega) (by rw [hb]; exact hbnd))
  have hge := grownCap_ge w (sLen + m) sCap e
  have hnl := hs.len
  refine ⟨_, grownCap w (sLen + m) sCap e, _, hrun, Grows.drewAlloc w _, hge, ?_, ?_, ?_, ?_⟩
  · have := grownCap_le_maxLen w (sLen + m) sCap e (by simp only [maxLen]; omega)
    simpa [maxLen] using this
  · rw [Array.size_append, size_zeroCells, hzs]
    simp only [List.size_toArray, List.length_append, hold, hnl]
    rw [← Nat.add_mul, ← Nat.add_mul]; congr 1; omega
  · rw [Array.toList_append]
    have : (olds ++ news).length = (sLen + m) * i.size := by rw [List.length_append, hold, hnl, Nat.add_mul]
    rw [← this]
    exact List.take_left' rfl
  · intro v hv
    rw [Array.toList_append] at hv
    rcases List.mem_append.1 hv with hv | hv
    · exact .inl hv
    · right
      simp only [Builtin.zeroCells, Array.toList_map, List.mem_map] at hv
      obtain ⟨j, _, rfl⟩ := hv
      have hj : j % zv.cells.size < zv.cells.size := Nat.mod_lt _ (by omega)
      rw [getElem!_pos zv.cells _ hj]
      exact hz1 _ (by simp)

theorem new_none (hr : Rel σ E w) {sz : Nat} (hsz : 0 < sz) : Step E w (E ++ [⟨0, sz, true, none⟩]) w ∧ Rel (newB σ sz [] true) (E ++ [⟨0, sz, true, none⟩]) w := by
  have hs : Step E w (E ++ [⟨0, sz, true, none⟩]) w := by
    refine ⟨rfl, rfl, rfl, Nat.le_refl _, fun _ _ _ => rfl, ?_, ?_⟩
    · intro g h
      rcases ew_append h with h | ⟨c', h⟩
      · exact .inl h
      · cases h
    · intro id m hm
      have hlt : id < E.length := (List.getElem?_eq_some_iff.1 hm).1
      exact ⟨m, by rw [List.getElem?_append_left hlt]; exact hm, Nat.le_refl _, fun _ => ⟨rfl, rfl⟩⟩
  unfold newB
  refine ⟨hs, hr.change hs (by simp [hr.len]) σ.length ?_ (fun _ _ _ _ _ _ _ => rfl) ?_ (fun m g c hm hp => by
      rw [← hr.len, List.getElem?_append_right (Nat.le_refl _)] at hm
      simp at hm
      subst hm
      cases hp) ?_⟩
  · intro id hne
    by_cases hlt : id < σ.length
    · rw [List.getElem?_append_left hlt, List.getElem?_append_left (by rw [hr.len]; exact hlt)]; exact ⟨rfl, rfl⟩
    · rw [List.getElem?_eq_none (by simp; omega), List.getElem?_eq_none (by omega), List.getElem?_eq_none (by simp [hr.len]; omega), List.getElem?_eq_none (by rw [hr.len]; omega)]
      exact ⟨rfl, rfl⟩
  · intro b' hb'
    rw [List.getElem?_append_right (Nat.le_refl _)] at hb'
    simp at hb'
    subst hb'
    exact ⟨⟨0, sz, true, none⟩, by rw [← hr.len, List.getElem?_append_right (Nat.le_refl _)]; simp, rfl, rfl, rfl, hsz, by simp, rfl⟩
  · intro id m m' g c1 c2 hne hm hm' hp hp' _
    rw [← hr.len, List.getElem?_append_right (Nat.le_refl _)] at hm'
    simp at hm'
    subst hm'
    cases hp'

theorem append_leaves {t u ty e sz by_ : Nat} {z : List AV} (hu : P.underlying t = some (.slice e)) (hz : zeroSz P e = some (z, sz)) (hby : bytesT P e = some by_) (hr : Rel σ E w)
    {xv : Value} {x : AV} (hx : Rep w E xv x) {yv : Value} {ys : List (List AV)} {cs : List Value} (hsrc : ∀ i zv, P.info? e = some i → i.zero = some zv → App P t u ty e i zv yv ys.length cs w)
    (hrow : ∀ r, r ∈ ys → r.length = sz) (h1 : ∀ v, v ∈ cs → v.oneCell' = true) (hpure : RepVL w (EW E) cs ys.flatten) (h : appendR σ sz by_ x ys K) :
    Leaves P w E (Builtin.append_ #[t, u] ty #[xv, yv]) K := by
  obtain ⟨i, zv, hi, hzv, hsz, hpos, hzl, hzs, hzr, hz1⟩ := zeroSz_val hz
  have hcl : cs.length = ys.length * sz := by rw [hpure.length, flatten_len hrow]
  -- a new row, by whatever was there
  have fresh : ∀ (base : Option Addr) (olds : List Value) (orows : List (List AV)) (sCap : Nat), xv = .slice base orows.length sCap → olds.length = orows.length * sz → (∀ q, base = some q → Shows w q olds) → (base = none → olds = [] ∧ orows.length = 0) →
      RepVL w (EW E) olds orows.flatten → (∀ r, r ∈ orows → r.length = sz) → (∀ v, v ∈ olds → v.oneCell' = true) → sCap < orows.length + ys.length → (orows.length + ys.length) * by_ ≤ 140737488355328 →
      K (.rsl σ.length 0 0 (orows.length + ys.length) none) (newB σ sz (orows ++ ys) true) → Leaves P w E (Builtin.append_ #[t, u] ty #[xv, yv]) K := by
    intro base olds orows sCap hxv hol hsh hbn hrepo hrowo h1o hg hbnd hK
    subst hxv
    obtain ⟨w', C, cur, q1, q2, q3, q4, q5, q6, q7⟩ := grow_run (ty := ty) hu hz hby hol hsh hbn hsrc hg hbnd
    have hfl : (orows ++ ys).flatten.length = (orows.length + ys.length) * sz := by
      rw [flatten_len (sz := sz) (fun r hr' => by rcases List.mem_append.1 hr' with q | q; exact hrowo r q; exact hrow r q)]; simp
    have hrep : RepVL w (EW E) (olds ++ cs) (orows ++ ys).flatten := by rw [List.flatten_append]; exact hrepo.append hpure
    obtain ⟨x', E', σ', p1, p2, p3, p4⟩ := newRow_leaves (K := K) (e := e) (n := orows.length + ys.length) (c := C) (cells := cur) (p := true) (rows := orows ++ ys) hpos q5 (by simpa using q3) q4
      (fun r hr' => by rcases List.mem_append.1 hr' with q | q; exact hrowo r q; exact hrow r q) (by rw [hfl, q6]; exact hrep.toRepL)
      (by intro v hv; rcases q7 v hv with hv | q; (rcases List.mem_append.1 hv with q | q; exact h1o v q; exact h1 v q); exact q) hr q2 (fun _ => by rw [hfl, q6]; exact hrep) q3 hK
    exact ⟨_, x', w', E', σ', q1, p1, p2, p3, p4⟩
  unfold appendR at h
  split at h
  · -- nil
    obtain ⟨hb, hK⟩ := h
    have hxv := hx.nils_inv
    by_cases hm : ys.length = 0
    · have hcs0 : cs = [] := List.length_eq_zero_iff.1 (by rw [hcl, hm]; simp)
      have hys0 : ys = [] := List.length_eq_zero_iff.1 hm
      subst hcs0; subst hys0
      subst hxv; subst hsz
      obtain ⟨hs, hr'⟩ := new_none hr hpos
      refine ⟨.slice none 0 0, .rsl σ.length 0 0 0 none, w, _, _, (hsrc i zv hi hzv).nothing rfl none 0 0 (Nat.le_refl _), ?_, hr', hs, by simpa using hK⟩
      refine .rsl ⟨0, i.size, true, none⟩ rfl ?_ (Nat.le_refl _) (fun _ => RslAny.of (h0 := by assumption) ⟨.inl rfl, rfl, rfl, by simp⟩)
      rw [← hr.len, List.getElem?_append_right (Nat.le_refl _)]; simp
    · exact fresh none [] [] 0 hxv (by simp) (by simp) (fun _ => ⟨rfl, rfl⟩) .nil (by simp) (by simp) (by simp; omega) (by simpa using hb) (by simpa using hK)
  · -- by value, its capacity its length
    rename_i sz' l
    obtain ⟨rfl, hm, hb, hK⟩ := h
    rcases hx.slx_inv with ⟨e1, rfl⟩ | ⟨ad, cs', e1, hcap, hrowl, hcs', hW, hpv⟩
    · exact fresh none [] [] 0 e1 (by simp) (by simp) (fun _ => ⟨rfl, rfl⟩) .nil (by simp) (by simp) (by simpa using hm) (by simpa using hb) (by simpa using hK)
    · exact fresh (some ad) cs' l l.length e1 (by rw [hpv.length, flatten_len hrowl]) (fun q hq => by cases hq; exact hcs'.shows) (by simp) hpv hrowl hcs'.one (by omega) hb hK
  · -- one of the call's own, to its end
    rename_i id gen off len
    obtain ⟨b, m, hb, hm, hok, hg1, hg2, hbe, hbsz, hwr, hpu, rfl, hle, hbnd, hK⟩ := blkAt_elim hr h
    have hs' := hx.rsl_inv hm hg2 hok.pos
    have hokk := hok
    obtain ⟨k1, k2, k3, k4, k5, k6⟩ := hok
    have hrowl : ∀ r, r ∈ b.els.take len → r.length = sz := fun r hr' => by rw [hbsz]; exact k5 r (List.mem_of_mem_take hr')
    have hrowB : ∀ r, r ∈ b.els.take len ++ ys → r.length = b.sz := fun r hr' => by
      rw [← hbsz]; rcases List.mem_append.1 hr' with q | q
      · exact hrowl r q
      · exact hrow r q
    have htl : (b.els.take len).length = len := by rw [List.length_take]; omega
    have hflB : (b.els.take len ++ ys).flatten.length = (len + ys.length) * sz := by
      rw [flatten_len hrowB, List.length_append, htl, hbsz]
    -- it moves, or is new
    have move : ∀ (base : Option Addr) (olds : List Value) (sCap : Nat), xv = .slice base len sCap → olds.length = len * sz → (∀ q, base = some q → Shows w q olds) → (base = none → olds = [] ∧ len = 0) →
        RepVL w (EW E) olds (b.els.take len).flatten → (∀ v, v ∈ olds → v.oneCell' = true) → sCap < len + ys.length → Leaves P w E (Builtin.append_ #[t, u] ty #[xv, yv]) K := by
      intro base olds sCap hxv hol hsh hbn hrepo h1o hg
      subst hxv
      obtain ⟨w', C, cur, q1, q2, q3, q4, q5, q6, q7⟩ := grow_run (ty := ty) hu hz hby hol hsh hbn hsrc hg hbnd
      have hrep : RepVL w (EW E) (olds ++ cs) (b.els.take len ++ ys).flatten := by rw [List.flatten_append]; exact hrepo.append hpure
      obtain ⟨hs, hr'⟩ := bump_block (p := true) (els := b.els.take len ++ ys) (place := some (w.heap.size, C)) hr hb hm hokk hwr q2.os q2.tape q2.output (by rw [q2.heap]; simp) (fun k hk _ => q2.old hk)
        (fun g c hgc => by cases hgc; exact .inr (Nat.le_refl _))
        (fun E' hs => ⟨rfl, rfl, rfl, k4, hrowB, ⟨by show (b.els.take len ++ ys).length ≤ C; rw [List.length_append, htl]; exact q3, by simp⟩, q4, cur, e, 0, 0, by rw [q2.heap]; simp, by rw [q5, hbsz], .inr ⟨rfl, rfl⟩,
          by intro v hv; rcases q7 v hv with hv | q; (rcases List.mem_append.1 hv with q | q; exact h1o v q; exact h1 v q); exact q, by rw [hflB, q6]; exact hrep.keep hs.keep⟩)
      refine ⟨_, .rsl id (gen + 1) 0 (len + ys.length) none, w', _, _, q1, ?_, hr', hs, by rw [hg1]; exact hK⟩
      refine .rsl ⟨b.gen + 1, b.sz, true, some (w.heap.size, C)⟩ rfl (set_get_self hm) (by rw [hg1]; exact Nat.le_refl _) (fun _ => ?_)
      exact RslAny.of (h0 := k4) ⟨⟨w.heap.size, 0, none⟩, C, rfl, q3, by omega, fun _ => by simp, by simp⟩
    unfold RslOk at hs'
    split at hs'
    · -- no block yet
      rename_i hpl
      rw [hpl] at k6
      obtain ⟨hv', rfl, _, _⟩ := hs'
      have hels : b.els = [] := k6
      have base : ∃ ba, xv = .slice ba 0 0 := by rcases hv' with q | ⟨q', q⟩; exact ⟨_, q⟩; exact ⟨_, q⟩
      obtain ⟨ba, hxv⟩ := base
      by_cases hmz : ys.length = 0
      · have hcs0 : cs = [] := List.length_eq_zero_iff.1 (by rw [hcl, hmz]; simp)
        have hys0 : ys = [] := List.length_eq_zero_iff.1 hmz
        subst hcs0; subst hys0
        obtain ⟨hs, hr'⟩ := bump_block (p := true) (w' := w) (els := b.els.take 0 ++ []) (place := none) hr hb hm hokk hwr rfl rfl rfl (Nat.le_refl _) (fun _ _ _ => rfl) (fun g c hgc => by cases hgc) (fun E' hs => ⟨rfl, rfl, rfl, k4, by simp, by simp⟩)
        refine ⟨.slice ba 0 0, .rsl id (gen + 1) 0 0 none, w, _, _, ?_, ?_, hr', hs, by rw [hg1]; simpa using hK⟩
        · subst hxv; exact (hsrc i zv hi hzv).nothing rfl ba 0 0 (Nat.le_refl _)
        · refine .rsl ⟨b.gen + 1, b.sz, true, none⟩ rfl (set_get_self hm) (by rw [hg1]; exact Nat.le_refl _) (fun _ => RslAny.of (h0 := k4) ⟨?_, rfl, rfl, by simp⟩)
          cases ba with
          | none => exact .inl rfl
          | some q => exact .inr ⟨q, rfl⟩
      · exact move ba [] 0 hxv (by simp) (fun q _ => by intro j u hj; simp at hj) (fun _ => ⟨rfl, rfl⟩) (by simp; exact .nil) (by simp) (by omega)
    · rename_i g c hpl
      obtain ⟨ad, k, hxv, hk1, hk2, hk3, hk4⟩ := hs'
      have hkc : 0 + k = c := hk4
      have k6' := k6
      rw [hpl] at k6'
      obtain ⟨k7, k8, cur, ee, lo, hi', k9, k10, k11, k12, k13⟩ := k6'
      rw [if_pos hpu] at k13
      obtain ⟨olds, hco, hpo⟩ := blk_rows hokk hpl 0 len (by omega)
      simp only [List.drop_zero, Nat.zero_mul] at hco hpo
      have hpo := hpo hpu
      have hol : olds.length = len * sz := by rw [hpo.length, flatten_len hrowl, htl]
      by_cases hroom : len + ys.length ≤ k
      · by_cases hmz : ys.length = 0
        · have hcs0 : cs = [] := List.length_eq_zero_iff.1 (by rw [hcl, hmz]; simp)
          have hys0 : ys = [] := List.length_eq_zero_iff.1 hmz
          subst hcs0; subst hys0
          have hfl0 : (b.els.take len).flatten.length = len * b.sz := by rw [← hbsz]; rw [flatten_len hrowl, htl]
          have htk : cur.toList.take (b.els.take len).flatten.length = (cur.toList.take b.els.flatten.length).take (len * b.sz) := by
            rw [hfl0, List.take_take, flatten_len k5, Nat.min_eq_left (Nat.mul_le_mul_right _ hle)]
          obtain ⟨hs, hr'⟩ := bump_block (p := true) (w' := w) (els := b.els.take len ++ []) (place := some (g, c)) hr hb hm hokk hwr rfl rfl rfl (Nat.le_refl _) (fun _ _ _ => rfl) (fun g' c' hgc => by cases hgc; exact .inl ⟨c, hpl⟩)
            (fun E' hs => ⟨rfl, rfl, rfl, k4, by rw [List.append_nil]; intro r hr''; exact k5 r (List.mem_of_mem_take hr''), ⟨by
              show (b.els.take len ++ []).length ≤ c
              rw [List.append_nil, htl]; omega, by simp⟩, k8, cur, ee, lo, hi', k9, k10, k11, k12, by
                show RepVL w (EW E') (cur.toList.take (b.els.take len ++ []).flatten.length) (b.els.take len ++ []).flatten
                rw [List.append_nil, htk, flatten_take k5]
                exact (k13.take _).keep hs.keep⟩)
          refine ⟨.slice (some ad) len k, .rsl id (gen + 1) 0 (len + 0) none, w, _, _, ?_, ?_, hr', hs, by rw [hg1]; simpa using hK⟩
          · subst hxv; exact (hsrc i zv hi hzv).nothing rfl (some ad) len k hk1
          · refine .rsl ⟨b.gen + 1, b.sz, true, some (g, c)⟩ rfl (set_get_self hm) (by rw [hg1]; exact Nat.le_refl _) (fun _ => RslAny.of (h0 := k4) ⟨ad, k, rfl, hk1, hk2, fun q => ?_, hk4⟩)
            rw [hk3 q, k2]
        · -- in its place
          have hk0 : k ≠ 0 := by omega
          have had := hk3 hk0
          simp only [Nat.zero_mul] at had
          have hbound : len * sz + cs.length ≤ cur.size := by
            rw [hcl, k10, ← Nat.add_mul, ← hbsz]; exact Nat.mul_le_mul_right _ (by omega)
          have hrun := (hsrc i zv hi hzv).room g 0 len k hroom
            (fun j hj => by rw [hsz, Nat.zero_add]; exact (cells_there k9 k11 (by omega)).1) (fun j hj => by rw [hsz, Nat.zero_add]; exact (cells_there k9 k11 (by omega)).2)
          rw [hsz, Nat.zero_add] at hrun
          obtain ⟨cur', q1, q2, q3⟩ := setCells_heap g cs (len * sz) w cur ee (lo, hi') k9 hbound
          obtain ⟨s1, s2, s3, s4⟩ := setCells_same g cs (len * sz) w
          have hcurlen : len * sz ≤ (cur.toList.take b.els.flatten.length).length := by
            have h2 : len * sz ≤ b.els.flatten.length := by rw [flatten_len k5, ← hbsz]; exact Nat.mul_le_mul_right _ hle
            rw [List.length_take]
            have h3 : cur.toList.length = cur.size := Array.length_toList
            omega
          have htk : cur'.toList.take (b.els.take len ++ ys).flatten.length = (cur.toList.take b.els.flatten.length).take (len * sz) ++ cs := by
            rw [q3, hflB]
            have e1 : (cur.toList.take (len * sz)).length = len * sz := by rw [List.length_take, Array.length_toList]; omega
            have e2 : (cur.toList.take (len * sz) ++ cs).length = (len + ys.length) * sz := by rw [List.length_append, e1, hcl, Nat.add_mul]
            rw [List.take_left' e2, List.take_take]
            have e3 : len * sz ≤ b.els.flatten.length := by rw [flatten_len k5, ← hbsz]; exact Nat.mul_le_mul_right _ hle
            rw [Nat.min_eq_left e3]
          obtain ⟨hs, hr'⟩ := bump_block (p := true) (w' := w.setCells g (len * sz) cs) (els := b.els.take len ++ ys) (place := some (g, c)) hr hb hm hokk hwr s1 s2 s3 (by omega)
            (fun k' _ hne => setCells_other g cs (len * sz) w k' (hne g c hpl)) (fun g' c' hgc => by cases hgc; exact .inl ⟨c, hpl⟩)
            (fun E' hs => ⟨rfl, rfl, rfl, k4, hrowB, ⟨by
              show (b.els.take len ++ ys).length ≤ c
              rw [List.length_append, htl]; omega, by simp⟩, k8, cur', ee, lo, hi', q1, by rw [q2, k10], by rw [q2]; exact k11, by
                intro v hv
                rw [q3] at hv
                simp only [List.mem_append] at hv
                rcases hv with (hv | hv) | hv
                · exact k12 v (List.mem_of_mem_take hv)
                · exact h1 v hv
                · exact k12 v (List.mem_of_mem_drop hv), by
                show RepVL (w.setCells g (len * sz) cs) (EW E') (cur'.toList.take (b.els.take len ++ ys).flatten.length) (b.els.take len ++ ys).flatten
                rw [htk, List.flatten_append, flatten_take (sz := sz) (by rw [hbsz]; exact k5)]
                exact ((k13.take _).append hpure).keep hs.keep⟩)
          refine ⟨.slice (some ⟨g, 0, none⟩) (len + ys.length) k, .rsl id (gen + 1) 0 (len + ys.length) none, _, _, _, ?_, ?_, hr', hs, by rw [hg1]; exact hK⟩
          · rw [hxv, had]; exact hrun
          · exact .rsl ⟨b.gen + 1, b.sz, true, some (g, c)⟩ rfl (set_get_self hm) (by rw [hg1]; exact Nat.le_refl _) (fun _ => RslAny.of (h0 := k4) ⟨⟨g, 0, none⟩, k, rfl, hroom, by omega, fun _ => by simp, by omega⟩)
      · refine move (some ad) olds k hxv hol (fun q hq => ?_) (by simp) hpo hco.one (by omega)
        cases hq
        by_cases hk0 : k = 0
        · have : olds = [] := List.length_eq_zero_iff.1 (by rw [hol, show len = 0 from by omega, Nat.zero_mul])
          rw [this]; intro j u hj; simp at hj
        · have had := hk3 hk0
          simp only [Nat.zero_mul] at had
          rw [had]; exact hco.shows
  · -- its capacity its length: always a new one
    rename_i id gen off len c
    obtain ⟨b, m, hb, hm, hok, hg1, hg2, hbe, hbsz, hpu, rfl, hmz, hle, hbnd, hK⟩ := blkAt_elim hr h
    have hs' := hx.rsl_inv hm hg2 hok.pos
    have hlen : ((b.els.drop off).take c).length = c := by rw [List.length_take, List.length_drop]; omega
    have hrowl : ∀ r, r ∈ (b.els.drop off).take c → r.length = sz := fun r hr' => by rw [hbsz]; exact hok.2.2.2.2.1 r (List.mem_of_mem_drop (List.mem_of_mem_take hr'))
    unfold RslOk at hs'
    split at hs'
    · obtain ⟨hv', rfl, _, _⟩ := hs'
      have hnil : (b.els.drop off).take 0 = [] := by simp
      rw [hnil] at hK
      rcases hv' with q | ⟨q', q⟩
      · exact fresh none [] [] 0 q (by simp) (by simp) (fun _ => ⟨rfl, rfl⟩) .nil (by simp) (by simp) (by simpa using hmz) (by simpa using hbnd) (by simpa using hK)
      · exact fresh (some q') [] [] 0 q (by simp) (fun q _ => by intro j u hj; simp at hj) (by simp) .nil (by simp) (by simp) (by simpa using hmz) (by simpa using hbnd) (by simpa using hK)
    · rename_i g cc hpl
      obtain ⟨ad, k, hxv, hk1, hk2, hk3, hk4⟩ := hs'
      have hk4' : k = c := hk4
      subst hk4'
      obtain ⟨olds, hco, hpo⟩ := blk_rows hok hpl off k hle
      have hpo := hpo hpu
      have hol : olds.length = ((b.els.drop off).take k).length * sz := by rw [hpo.length, flatten_len hrowl]
      refine fresh (some ad) olds ((b.els.drop off).take k) k (by rw [hlen]; exact hxv) hol (fun q hq => ?_) (by simp) hpo hrowl hco.one (by rw [hlen]; omega) (by rw [hlen]; exact hbnd) (by rw [hlen]; exact hK)
      cases hq
      by_cases hk0 : k = 0
      · have : olds = [] := List.length_eq_zero_iff.1 (by rw [hol, hlen, hk0, Nat.zero_mul])
        rw [this]; intro j u hj; simp at hj
      · have had := hk3 hk0
        rw [had, hok.2.1]; exact hco.shows
  · exact h.elim

/-- Append of rows that may hold references. -/
theorem appendI_leaves {t u ty e sz by_ : Nat} {z : List AV} (hu : P.underlying t = some (.slice e)) (hz : zeroSz P e = some (z, sz)) (hby : bytesT P e = some by_) (hr : Rel σ E w)
    {xv : Value} {x : AV} (hx : Rep w E xv x) {yv : Value} {ys : List (List AV)} {cs : List Value} (hsrc : ∀ i zv, P.info? e = some i → i.zero = some zv → App P t u ty e i zv yv ys.length cs w)
    (hrow : ∀ r, r ∈ ys → r.length = sz) (h1 : ∀ v, v ∈ cs → v.oneCell' = true) (hrepL : RepL w E cs ys.flatten) (h : appendIR σ sz by_ x ys K) :
    Leaves P w E (Builtin.append_ #[t, u] ty #[xv, yv]) K := by
  obtain ⟨i, zv, hi, hzv, hsz, hpos, hzl, hzs, hzr, hz1⟩ := zeroSz_val hz
  have hcl : cs.length = ys.length * sz := by rw [hrepL.length, flatten_len hrow]
  unfold appendIR at h
  split at h
  · obtain ⟨hm, hb, hK⟩ := h
    have hxv := hx.nils_inv
    subst hxv
    obtain ⟨w', C, cur, q1, q2, q3, q4, q5, q6, q7⟩ := grow_run (ty := ty) (base := none) (sLen := 0) (sCap := 0) (olds := []) hu hz hby (by simp) (by simp) (fun _ => ⟨rfl, rfl⟩) hsrc (by omega) (by simpa using hb)
    simp only [Nat.zero_add, List.nil_append] at q1 q3 q6 q7
    have hfl : ys.flatten.length = ys.length * sz := flatten_len hrow
    obtain ⟨x', E', σ', p1, p2, p3, p4⟩ := newRow_leaves (K := K) (e := e) (n := ys.length) (c := C) (cells := cur) (p := false) (rows := ys) hpos q5 q3 q4
      hrow (by rw [hfl, q6]; exact hrepL)
      (by intro v hv; rcases q7 v hv with hv | q; exact h1 v hv; exact q) hr q2 (fun q => by cases q) q3 hK
    exact ⟨_, x', w', E', σ', q1, p1, p2, p3, p4⟩
  · rename_i id gen off len
    obtain ⟨b, m, hb, hm, hok, hg1, hg2, hbe, hbsz, hwr, rfl, hle, hbnd, hK⟩ := blkAt_elim hr h
    have hs' := hx.rsl_inv hm hg2 hok.pos
    have hokk := hok
    obtain ⟨k1, k2, k3, k4, k5, k6⟩ := hok
    have hrowl : ∀ r, r ∈ b.els.take len → r.length = sz := fun r hr' => by rw [hbsz]; exact k5 r (List.mem_of_mem_take hr')
    have hrowB : ∀ r, r ∈ b.els.take len ++ ys → r.length = b.sz := fun r hr' => by
      rw [← hbsz]; rcases List.mem_append.1 hr' with q | q
      · exact hrowl r q
      · exact hrow r q
    have htl : (b.els.take len).length = len := by rw [List.length_take]; omega
    have hflB : (b.els.take len ++ ys).flatten.length = (len + ys.length) * sz := by
      rw [flatten_len hrowB, List.length_append, htl, hbsz]
    have move : ∀ (base : Option Addr) (olds : List Value) (sCap : Nat), xv = .slice base len sCap → olds.length = len * sz → (∀ q, base = some q → Shows w q olds) → (base = none → olds = [] ∧ len = 0) →
        RepL w E olds (b.els.take len).flatten → (∀ v, v ∈ olds → v.oneCell' = true) → sCap < len + ys.length → Leaves P w E (Builtin.append_ #[t, u] ty #[xv, yv]) K := by
      intro base olds sCap hxv hol hsh hbn hrepo h1o hg
      subst hxv
      obtain ⟨w', C, cur, q1, q2, q3, q4, q5, q6, q7⟩ := grow_run (ty := ty) hu hz hby hol hsh hbn hsrc hg hbnd
      have hrep : RepL w E (olds ++ cs) (b.els.take len ++ ys).flatten := by rw [List.flatten_append]; exact hrepo.append hrepL
      obtain ⟨hs, hr'⟩ := bump_block (p := false) (els := b.els.take len ++ ys) (place := some (w.heap.size, C)) hr hb hm hokk hwr q2.os q2.tape q2.output (by rw [q2.heap]; simp) (fun k hk _ => q2.old hk)
        (fun g c hgc => by cases hgc; exact .inr (Nat.le_refl _))
        (fun E' hs => ⟨rfl, rfl, rfl, k4, hrowB, ⟨by show (b.els.take len ++ ys).length ≤ C; rw [List.length_append, htl]; exact q3, by simp⟩, q4, cur, e, 0, 0, by rw [q2.heap]; simp, by rw [q5, hbsz], .inr ⟨rfl, rfl⟩,
          by intro v hv; rcases q7 v hv with hv | q; (rcases List.mem_append.1 hv with q | q; exact h1o v q; exact h1 v q); exact q, by
            show RepL w' E' (cur.toList.take (b.els.take len ++ ys).flatten.length) (b.els.take len ++ ys).flatten
            rw [hflB, q6]; exact hrep.step hs⟩)
      refine ⟨_, .rsl id (gen + 1) 0 (len + ys.length) none, w', _, _, q1, ?_, hr', hs, by rw [hg1]; exact hK⟩
      refine .rsl ⟨b.gen + 1, b.sz, true, some (w.heap.size, C)⟩ rfl (set_get_self hm) (by rw [hg1]; exact Nat.le_refl _) (fun _ => ?_)
      exact RslAny.of (h0 := k4) ⟨⟨w.heap.size, 0, none⟩, C, rfl, q3, by omega, fun _ => by simp, by simp⟩
    unfold RslOk at hs'
    split at hs'
    · rename_i hpl
      rw [hpl] at k6
      obtain ⟨hv', rfl, _, _⟩ := hs'
      have hels : b.els = [] := k6
      have base : ∃ ba, xv = .slice ba 0 0 := by rcases hv' with q | ⟨q', q⟩; exact ⟨_, q⟩; exact ⟨_, q⟩
      obtain ⟨ba, hxv⟩ := base
      by_cases hmz : ys.length = 0
      · have hcs0 : cs = [] := List.length_eq_zero_iff.1 (by rw [hcl, hmz]; simp)
        have hys0 : ys = [] := List.length_eq_zero_iff.1 hmz
        subst hcs0; subst hys0
        obtain ⟨hs, hr'⟩ := bump_block (p := false) (w' := w) (els := b.els.take 0 ++ []) (place := none) hr hb hm hokk hwr rfl rfl rfl (Nat.le_refl _) (fun _ _ _ => rfl) (fun g c hgc => by cases hgc) (fun E' hs => ⟨rfl, rfl, rfl, k4, by simp, by simp⟩)
        refine ⟨.slice ba 0 0, .rsl id (gen + 1) 0 0 none, w, _, _, ?_, ?_, hr', hs, by rw [hg1]; simpa using hK⟩
        · subst hxv; exact (hsrc i zv hi hzv).nothing rfl ba 0 0 (Nat.le_refl _)
        · refine .rsl ⟨b.gen + 1, b.sz, true, none⟩ rfl (set_get_self hm) (by rw [hg1]; exact Nat.le_refl _) (fun _ => RslAny.of (h0 := k4) ⟨?_, rfl, rfl, by simp⟩)
          cases ba with
          | none => exact .inl rfl
          | some q => exact .inr ⟨q, rfl⟩
      · exact move ba [] 0 hxv (by simp) (fun q _ => by intro j u hj; simp at hj) (fun _ => ⟨rfl, rfl⟩) (by simp; exact .nil) (by simp) (by omega)
    · rename_i g c hpl
      obtain ⟨ad, k, hxv, hk1, hk2, hk3, hk4⟩ := hs'
      have hkc : 0 + k = c := hk4
      have k6' := k6
      rw [hpl] at k6'
      obtain ⟨k7, k8, cur, ee, lo, hi', k9, k10, k11, k12, k13⟩ := k6'
      have k13 : RepL w E (cur.toList.take b.els.flatten.length) b.els.flatten := by
        cases hpu : b.pure
        · rw [hpu] at k13; exact k13
        · rw [hpu] at k13; exact RepVL.toRepL k13
      obtain ⟨olds, hco, _⟩ := blk_rows hokk hpl 0 len (by omega)
      simp only [List.drop_zero, Nat.zero_mul] at hco
      have hpo := hco.rep
      have hol : olds.length = len * sz := by rw [hpo.length, flatten_len hrowl, htl]
      by_cases hroom : len + ys.length ≤ k
      · by_cases hmz : ys.length = 0
        · have hcs0 : cs = [] := List.length_eq_zero_iff.1 (by rw [hcl, hmz]; simp)
          have hys0 : ys = [] := List.length_eq_zero_iff.1 hmz
          subst hcs0; subst hys0
          have hfl0 : (b.els.take len).flatten.length = len * b.sz := by rw [← hbsz]; rw [flatten_len hrowl, htl]
          have htk : cur.toList.take (b.els.take len).flatten.length = (cur.toList.take b.els.flatten.length).take (len * b.sz) := by
            rw [hfl0, List.take_take, flatten_len k5, Nat.min_eq_left (Nat.mul_le_mul_right _ hle)]
          obtain ⟨hs, hr'⟩ := bump_block (p := false) (w' := w) (els := b.els.take len ++ []) (place := some (g, c)) hr hb hm hokk hwr rfl rfl rfl (Nat.le_refl _) (fun _ _ _ => rfl) (fun g' c' hgc => by cases hgc; exact .inl ⟨c, hpl⟩)
            (fun E' hs => ⟨rfl, rfl, rfl, k4, by rw [List.append_nil]; intro r hr''; exact k5 r (List.mem_of_mem_take hr''), ⟨by
              show (b.els.take len ++ []).length ≤ c
              rw [List.append_nil, htl]; omega, by simp⟩, k8, cur, ee, lo, hi', k9, k10, k11, k12, by
                show RepL w E' (cur.toList.take (b.els.take len ++ []).flatten.length) (b.els.take len ++ []).flatten
                rw [List.append_nil, htk, flatten_take k5]
                exact (k13.take _).step hs⟩)
          refine ⟨.slice (some ad) len k, .rsl id (gen + 1) 0 (len + 0) none, w, _, _, ?_, ?_, hr', hs, by rw [hg1]; simpa using hK⟩
          · subst hxv; exact (hsrc i zv hi hzv).nothing rfl (some ad) len k hk1
          · refine .rsl ⟨b.gen + 1, b.sz, true, some (g, c)⟩ rfl (set_get_self hm) (by rw [hg1]; exact Nat.le_refl _) (fun _ => RslAny.of (h0 := k4) ⟨ad, k, rfl, hk1, hk2, fun q => ?_, hk4⟩)
            rw [hk3 q, k2]
        · have hk0 : k ≠ 0 := by omega
          have had := hk3 hk0
          simp only [Nat.zero_mul] at had
          have hbound : len * sz + cs.length ≤ cur.size := by
            rw [hcl, k10, ← Nat.add_mul, ← hbsz]; exact Nat.mul_le_mul_right _ (by omega)
          have hrun := (hsrc i zv hi hzv).room g 0 len k hroom
            (fun j hj => by rw [hsz, Nat.zero_add]; exact (cells_there k9 k11 (by omega)).1) (fun j hj => by rw [hsz, Nat.zero_add]; exact (cells_there k9 k11 (by omega)).2)
          rw [hsz, Nat.zero_add] at hrun
          obtain ⟨cur', q1, q2, q3⟩ := setCells_heap g cs (len * sz) w cur ee (lo, hi') k9 hbound
          obtain ⟨s1, s2, s3, s4⟩ := setCells_same g cs (len * sz) w
          have htk : cur'.toList.take (b.els.take len ++ ys).flatten.length = (cur.toList.take b.els.flatten.length).take (len * sz) ++ cs := by
            rw [q3, hflB]
            have e1 : (cur.toList.take (len * sz)).length = len * sz := by rw [List.length_take, Array.length_toList]; omega
            have e2 : (cur.toList.take (len * sz) ++ cs).length = (len + ys.length) * sz := by rw [List.length_append, e1, hcl, Nat.add_mul]
            rw [List.take_left' e2, List.take_take]
            have e3 : len * sz ≤ b.els.flatten.length := by rw [flatten_len k5, ← hbsz]; exact Nat.mul_le_mul_right _ hle
            rw [Nat.min_eq_left e3]
          obtain ⟨hs, hr'⟩ := bump_block (p := false) (w' := w.setCells g (len * sz) cs) (els := b.els.take len ++ ys) (place := some (g, c)) hr hb hm hokk hwr s1 s2 s3 (by omega)
            (fun k' _ hne => setCells_other g cs (len * sz) w k' (hne g c hpl)) (fun g' c' hgc => by cases hgc; exact .inl ⟨c, hpl⟩)
            (fun E' hs => ⟨rfl, rfl, rfl, k4, hrowB, ⟨by
              show (b.els.take len ++ ys).length ≤ c
              rw [List.length_append, htl]; omega, by simp⟩, k8, cur', ee, lo, hi', q1, by rw [q2, k10], by rw [q2]; exact k11, by
                intro v hv
                rw [q3] at hv
                simp only [List.mem_append] at hv
                rcases hv with (hv | hv) | hv
                · exact k12 v (List.mem_of_mem_take hv)
                · exact h1 v hv
                · exact k12 v (List.mem_of_mem_drop hv), by
                show RepL (w.setCells g (len * sz) cs) E' (cur'.toList.take (b.els.take len ++ ys).flatten.length) (b.els.take len ++ ys).flatten
                rw [htk, List.flatten_append, flatten_take (sz := sz) (by rw [hbsz]; exact k5)]
                exact ((k13.take _).append hrepL).step hs⟩)
          refine ⟨.slice (some ⟨g, 0, none⟩) (len + ys.length) k, .rsl id (gen + 1) 0 (len + ys.length) none, _, _, _, ?_, ?_, hr', hs, by rw [hg1]; exact hK⟩
          · rw [hxv, had]; exact hrun
          · exact .rsl ⟨b.gen + 1, b.sz, true, some (g, c)⟩ rfl (set_get_self hm) (by rw [hg1]; exact Nat.le_refl _) (fun _ => RslAny.of (h0 := k4) ⟨⟨g, 0, none⟩, k, rfl, hroom, by omega, fun _ => by simp, by omega⟩)
      · refine move (some ad) olds k hxv hol (fun q hq => ?_) (by simp) hpo hco.one (by omega)
        cases hq
        by_cases hk0 : k = 0
        · have : olds = [] := List.length_eq_zero_iff.1 (by rw [hol, show len = 0 from by omega, Nat.zero_mul])
          rw [this]; intro j u hj; simp at hj
        · have had := hk3 hk0
          simp only [Nat.zero_mul] at had
          rw [had]; exact hco.shows
  · exact h.elim

end
end Go.Proofs.Ytppccaacbpkgiaa.V
