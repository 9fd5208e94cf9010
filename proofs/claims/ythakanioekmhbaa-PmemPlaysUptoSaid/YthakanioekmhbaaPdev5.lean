import Derived.Test.YthakanioekmhbaaPdev4
namespace Go.Proofs.Ythakanioekmhbaa
open Go Go.Proofs.Ythakanioekmhbaa.V
set_option maxRecDepth 20000
attribute [local irreducible] CallS AOK AOKn ALoop Side Ref.ok
/-! ### The dirty lines -/
structure MapOk (es : List ME) (clock : Nat) : Prop where
  keys : (es.map ME.key).Nodup
  borns : (es.map ME.born).Nodup
  lt : ∀ e, e ∈ es → e.born < clock
theorem find_born : ∀ {es : List ME}, (es.map ME.born).Nodup → ∀ {e : ME}, e ∈ es → es.find? (fun x => x.born == e.born) = some e
  | x :: r, hn, e, he => by
    simp only [List.map_cons, List.nodup_cons] at hn
    rcases List.mem_cons.1 he with rfl | he
    · simp
    · have : x.born ≠ e.born := fun q => hn.1 (by rw [q]; exact List.mem_map_of_mem he)
      rw [List.find?_cons_of_neg (by simpa using this)]
      exact find_born hn.2 he
theorem srt_eq {l m : List Int} (h : l.Perm m) : srt l = srt m :=
  List.Perm.eq_of_pairwise (fun a b _ _ h1 h2 => by omega) (srt_sorted l) (srt_sorted m) (((srt_perm l).trans h).trans (srt_perm m).symm)
theorem Dirty_ok {σ : AH} {a : DA} {d : Dv} (h : DevH σ a d) (hm : MapOk d.es d.clock) (hlen : d.es.length ≤ 4096) (Q : AV → AH → Prop)
    (hQ : ∀ y σ', Gr σ σ' none → Own σ' 1 y (is (srt (d.es.map ME.key))) → New σ y → Q y σ') : CallS Try.prog F.pmem_Device_Dirty [.ptr a.i 0 0 0] σ Q := by
  obtain ⟨box, lasts, seen, map, ne⟩ := id h
  have him : a.im < σ.length := h.lt _ (.inr (.inr (.inr rfl)))
  refine call_of_body mixed fc_pmem_Device_Dirty_ok (by simp [fc_pmem_Device_Dirty]) ?_
  repeat' (first
    | ((conv => whnf) <;> (first
    | ((with_reducible apply blkAt_step) ; (focus (first
    | ((repeat (first
    | assumption
    )); done)
    )) ; (focus (first | rfl | assumption | omega)) ; (focus (first | rfl | assumption)) ; (try dsimp only))
    | ((with_reducible apply mapW_step) ; (focus (first
    | ((repeat (first
    | assumption
    )); done)
    )) ; (try dsimp only))
    ))
    )
  all_goals (conv => whnf)
  all_goals (try dsimp only)
  refine loop_at (α := List ME × List ME × AV × AH) (fun q => [(3, q.2.2.1)]) (fun q => q.2.2.2) (fun q => (q.1 ++ q.2.1).Perm d.es ∧ Own q.2.2.2 1 q.2.2.1 (is (q.1.map ME.key)) ∧ (∀ id, q.2.2.1.bid = some id → σ.length < id) ∧ q.2.2.2[σ.length]? = some (iblk a.im 0 d.clock (q.1.map ME.born) d.clock) ∧ Gr σ q.2.2.2 none) (fun q => q.2.1.length) ([], d.es, .nils, σ ++ [iblk a.im 0 d.clock [] d.clock]) ⟨.refl _, Own.nil _ _, (fun id e => by cases e), get_new, Gr.append _ _⟩ rfl rfl ?_
  rintro ⟨V, R, y, τ⟩ ⟨hp, ho, hy, hit, hg⟩
  dsimp only at hp ho hy hit hg ⊢
  have hmap := hg.2 _ _ map (by simp)
  have hVR : V.length + R.length = d.es.length := by rw [← hp.length_eq, List.length_append]
  have hnd : ((V ++ R).map ME.born).Nodup := (hp.map _).nodup_iff.2 hm.borns
  skip
  all_goals (conv => whnf)
  all_goals (try dsimp only)
  refine nextW_step hit hmap ?_ ?_ ?_
  · cases hes : d.es with
    | nil => exact .inr (.inl rfl)
    | cons e r => exact .inr (.inr ⟨e, by simp, hm.lt e (by rw [hes]; simp)⟩)
  · intro hall
    have hR : R = [] := by
      cases R with
      | nil => rfl
      | cons e r =>
        exfalso
        have he : e ∈ d.es := hp.mem_iff.1 (by simp)
        have := hall e he (hm.lt e he)
        rw [List.map_append, List.nodup_append] at hnd
        exact hnd.2.2 _ this _ (by simp) rfl
    subst hR
    rw [List.append_nil] at hp
    skip
    all_goals (conv => whnf)
    all_goals (try dsimp only)
    show CallS Try.prog (Try.lays189_ren.f 189) [y] τ _
    refine sort_call Try.lays189 (bodied_of fc_slices_Sort_ok) ho (by simp; omega) fun σ' hg' ho' => ?_
    have es : srt (V.map ME.key) = srt (d.es.map ME.key) := srt_eq (hp.map _)
    rw [es] at ho'
    have hgr : Gr σ σ' none := ⟨Nat.le_trans hg.1 hg'.1, fun id b hb _ => hg'.2 _ _ (hg.2 _ _ hb (by simp)) fun q => by
      have := hy id q
      have := (List.getElem?_eq_some_iff.1 hb).1
      omega⟩
    skip
    all_goals (conv => whnf)
    all_goals (try dsimp only)
    exact hQ y σ' hgr ho' fun id q => Nat.le_of_lt (hy id q)
  · intro e he hns
    have heR : e ∈ R := by
      rcases List.mem_append.1 (hp.mem_iff.2 he) with q | q
      · exact absurd (List.mem_map_of_mem q) hns
      · exact q
    obtain ⟨s, t, rfl⟩ := List.append_of_mem heR
    skip
    all_goals (conv => whnf)
    all_goals (try dsimp only)
    refine entryW_step (s := e.born) (e := e) (get_set hit) (get_set_ne (by omega) hmap) (by simp) (find_born hm.borns he) ?_
    repeat' (first
      | ((with_reducible refine Side.intro ?_) <;> (first
      | omega
      | exact Nat.le_of_ble_eq_true rfl
      | exact rfl
      ))
      | ((conv => whnf) <;> (first
      | (with_reducible refine and_same ?_)
      | (with_reducible refine and_side ?_ ?_)
      | ((with_reducible apply blkAt_step) ; (focus (first
      | ((repeat (first
      | exact get_new
      )); done)
      )) ; (focus (first | rfl | assumption | omega)) ; (focus (first | rfl | assumption)) ; (try dsimp only))
      | (with_reducible refine AppC.frz ?_)
      | (with_reducible refine rowsR_rsl ?_)
      ))
      )
    all_goals (conv => whnf)
    all_goals (try dsimp only)
    refine appendR_own (rows := is (V.map ME.key)) ?_ ?_ ?_
    · refine Own.keep (o := some σ.length) ?_ ho ?_
      · exact (Gr.set _ _ _).trans ((Gr.append _ _).anyO _)
      · exact .inr fun q => by have := hy _ q.symm; omega
    · simp only [is_length, List.length_map, List.length_take]
      simp only [List.length_append, List.length_cons] at hVR
      omega
    · intro y' τ' ho' hg' hb'
      skip
      all_goals (conv => whnf)
      all_goals (try dsimp only)
      have hset : Gr σ (τ.set σ.length (iblk a.im 0 d.clock (V.map ME.born ++ [e.born]) d.clock)) none := by
        refine Gr.setNew hg (Nat.le_refl _) _
      have hlen' : σ.length + 1 ≤ τ.length := (List.getElem?_eq_some_iff.1 hit).1
      have hy' : ∀ id, y'.bid = some id → σ.length < id := by
        intro id q
        rcases hb' with hb' | hb'
        · exact hy id (by rw [← hb']; exact q)
        · rw [hb'] at q
          cases q
          simp only [newB_length, List.length_set]
          omega
      have hst : ∀ id b, id < τ.length → y.bid ≠ some id → (τ.set σ.length (iblk a.im 0 d.clock (V.map ME.born ++ [e.born]) d.clock))[id]? = some b → τ'[id]? = some b := fun id b _ hn hb => hg'.2 _ _ (get_old hb) hn
      refine ⟨(V ++ [e], s ++ t, y', τ'), rfl, rfl, ⟨?_, ?_, hy', ?_, ?_⟩, by simp⟩
      · have := List.perm_middle (a := e) (l₁ := s) (l₂ := t)
        refine List.Perm.trans ?_ hp
        simp only [List.append_assoc, List.singleton_append]
        exact this.symm.append_left V
      · have e1 : is ((V ++ [e]).map ME.key) = is (V.map ME.key) ++ [[.int .i64 e.key]] := by simp [is]
        dsimp only
        rw [e1]
        exact ho'
      · dsimp only
        rw [List.map_append]
        exact hst _ _ (by omega) (fun q => by have := hy _ q; omega) (get_set hit)
      · refine ⟨Nat.le_trans hg.1 (Nat.le_trans (by simp only [newB_length, List.length_set]; omega) hg'.1), fun id b hb _ => ?_⟩
        have hlt := (List.getElem?_eq_some_iff.1 hb).1
        exact hst id b (by omega) (fun q => by have := hy _ q; omega) (hset.2 _ _ hb (by simp))
end Go.Proofs.Ythakanioekmhbaa
