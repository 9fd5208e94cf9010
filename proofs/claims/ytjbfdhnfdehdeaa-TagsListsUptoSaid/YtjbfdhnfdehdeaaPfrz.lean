import Derived.Test.YtjbfdhnfdehdeaaPcalls
namespace Go.Proofs.Ytjbfdhnfdehdeaa
open Go Go.RowKit Go.Proofs.Ytjbfdhnfdehdeaa.V
/-! ### A block of slices of one's own, frozen: who is called sees rows of slices by value -/
theorem rel_frz [Zone] {σ : AH} {E : Env} {w : World} (hr : Rel σ E w) {id : Nat} {b : Blk} {els' : List (List AV)} {σ1 : AH} (hb : σ[id]? = some b) (hpu : b.pure = false) (hfz : frzLL σ b.els = some (els', σ1)) (hb1 : σ1[id]? = some b) :
    ∃ E1, Step E w E1 w ∧ Rel (σ1.set id { b with els := els', pure := true }) E1 w := by
  obtain ⟨m, hm, hok⟩ := hr.blk id b hb
  obtain ⟨k1, k2, k3, k4, k5, k6⟩ := hok
  obtain ⟨hlen, hrow⟩ := frzLL_len hfz
  have hrow' := hrow b.sz k5
  have key : ∀ (E1 : Env), Step E w E1 w → Rel σ1 E1 w → (∀ m1, E1[id]? = some m1 → BlkOk w E1 b m1 → BlkOk w E1 { b with els := els', pure := true } m1) → ∃ E1, Step E w E1 w ∧ Rel (σ1.set id { b with els := els', pure := true }) E1 w := by
    intro E1 s r hB
    refine ⟨E1, s, by simp [r.len], r.base, r.fresh, ?_, r.inj⟩
    intro id' b' hb'
    by_cases e : id' = id
    · subst e
      rw [get_set' hb1] at hb'; cases hb'
      obtain ⟨m1, hm1, ok1⟩ := r.blk id' b hb1
      exact ⟨m1, hm1, hB m1 hm1 ok1⟩
    · rw [List.getElem?_set_ne (fun q => e q.symm)] at hb'
      exact r.blk id' b' hb'
  have same : ∀ (E1 : Env), Step E w E1 w → ∀ m1, E1[id]? = some m1 → m1.gen = b.gen → m1.place = m.place := by
    intro E1 s m1 hm1 hg1
    obtain ⟨m2, hm2, _, h2⟩ := s.metas id m hm
    rw [hm1] at hm2; cases hm2
    exact (h2 (by rw [k1, hg1])).2
  cases hp : m.place with
  | none =>
    have k6' : b.els = [] := by rw [hp] at k6; exact k6
    obtain ⟨E1, s, r, v⟩ := frzLL_ok hfz hr (cs := []) (by rw [k6']; exact .nil)
    refine key E1 s r fun m1 hm1 ok1 => ?_
    obtain ⟨j1, j2, j3, j4, j5, j6⟩ := ok1
    have hpl := same E1 s m1 hm1 j1
    rw [hp] at hpl
    refine ⟨j1, j2, j3, j4, hrow', ?_⟩
    rw [hpl]
    have : els'.length = 0 := by rw [hlen, k6']; rfl
    exact List.length_eq_zero_iff.1 this
  | some q =>
    obtain ⟨g, c⟩ := q
    rw [hp] at k6
    obtain ⟨⟨k7, k7'⟩, k8, cur, e, lo, hi, k9, k10, k11, k12, k13⟩ := k6
    have k13' : RepL w E (cur.toList.take b.els.flatten.length) b.els.flatten := by
      have : (if b.pure then RepVL w (EW E) (cur.toList.take b.els.flatten.length) b.els.flatten else RepL w E (cur.toList.take b.els.flatten.length) b.els.flatten) := k13
      rw [hpu] at this
      simpa using this
    obtain ⟨E1, s, r, v⟩ := frzLL_ok hfz hr k13'
    have hfl : els'.flatten.length = b.els.flatten.length := by
      have p1 := v.length
      have p2 := k13'.length
      omega
    refine key E1 s r fun m1 hm1 ok1 => ?_
    obtain ⟨j1, j2, j3, j4, j5, j6⟩ := ok1
    have hpl := same E1 s m1 hm1 j1
    rw [hp] at hpl
    refine ⟨j1, j2, j3, j4, hrow', ?_⟩
    rw [hpl]
    refine ⟨⟨by show els'.length ≤ c; omega, fun h => by have := k7' h; show c ≤ els'.length; omega⟩, k8, cur, e, lo, hi, k9, k10, k11, k12, ?_⟩
    show RepVL w (EW E1) (cur.toList.take els'.flatten.length) els'.flatten
    rw [hfl]; exact v
theorem CallS.frz {P : Program} {f : Nat} (hB : Bodied P f) {args : List AV} {σ : AH} {Q : AV → AH → Prop} {id : Nat} {b : Blk} {els' : List (List AV)} {σ1 : AH} (hb : σ[id]? = some b) (hpu : b.pure = false) (hfz : frzLL σ b.els = some (els', σ1)) (hb1 : σ1[id]? = some b)
    (h : CallS P f args (σ1.set id { b with els := els', pure := true }) Q) : CallS P f args σ Q := by
  refine ⟨hB, fun z w E cs hr hrep => ?_⟩
  obtain ⟨E1, s, r⟩ := rel_frz hr hb hpu hfz hb1
  have h2 := h.2 z w E1 cs r (hrep.step s)
  refine h2.mono ?_
  rintro en w' ⟨v, E', y, σ', rfl, h1, h2, h3, h4⟩
  exact ⟨v, E', y, σ', rfl, h1, h2, s.trans h3, h4⟩
end Go.Proofs.Ytjbfdhnfdehdeaa
