import Derived.Test.YthakanioekmhbaaPdevp
namespace Go.Proofs.Ythakanioekmhbaa
open Go Go.Proofs.Ythakanioekmhbaa.V
set_option maxRecDepth 20000
attribute [local irreducible] CallS AOK AOKn ALoop Side Ref.ok
def flushed (es : List ME) (k : Int) : Bool := match mget es k with | some (.bool b) => b | _ => false
def fenceS (d : Dv) (k : Int) : Dv := if flushed d.es k = true then { d with L := lastL d.L d.S k.toNat, es := mdel d.es k } else d
def fenceD (d : Dv) : Int × Dv :=
  match beginD d 0 0 with
  | (e, d1) => if e ≠ 0 then (e, d1) else (0, (srt (d1.es.map ME.key)).foldl fenceS d1)
theorem lastL_length {L S : List UInt8} {k : Nat} (h : S.length = L.length) (hk : 64 * k + 64 ≤ L.length) : (lastL L S k).length = L.length := by
  simp [lastL]; omega
/-- A step keeps what it leaves. -/
structure DvLt (d0 d : Dv) : Prop where
  ok : DvOk d
  L : d.L.length = d0.L.length
  S : d.S = d0.S
  clock : d.clock = d0.clock
  armed : d.armed = d0.armed
  down : d.down = d0.down
theorem DvLt.refl {d : Dv} (h : DvOk d) : DvLt d d := ⟨h, rfl, rfl, rfl, rfl, rfl⟩
theorem DvLt.trans {d0 d1 d2 : Dv} (h : DvLt d0 d1) (k : DvLt d1 d2) : DvLt d0 d2 := ⟨k.ok, k.L.trans h.L, k.S.trans h.S, k.clock.trans h.clock, k.armed.trans h.armed, k.down.trans h.down⟩
theorem DvOk.fenceS {d : Dv} (h : DvOk d) {k : Int} (hk : 0 ≤ k ∧ 64 * k + 64 ≤ d.L.length) : DvLt d (fenceS d k) := by
  unfold Go.Proofs.Ythakanioekmhbaa.fenceS
  split
  · have hl : (lastL d.L d.S k.toNat).length = d.L.length := lastL_length h.len (by omega)
    have hs := mdel_sub k d.es
    exact ⟨⟨h.map.mdel k, fun e he => h.vals e (hs.subset he), fun e he => by dsimp only; rw [hl]; exact h.rng e (hs.subset he), by dsimp only; rw [hl]; exact h.len, by dsimp only; rw [hl]; exact h.le, by dsimp only; rw [hl]; exact h.al, h.arm⟩, hl, rfl, rfl, rfl, rfl⟩
  · exact .refl h
theorem DvOk.fenceL : ∀ {l : List Int} {d : Dv}, DvOk d → (∀ k, k ∈ l → 0 ≤ k ∧ 64 * k + 64 ≤ d.L.length) → DvLt d (l.foldl Go.Proofs.Ythakanioekmhbaa.fenceS d)
  | [], d, h, _ => .refl h
  | k :: r, d, h, hk => by
    have h1 := h.fenceS (hk k (by simp))
    exact h1.trans (DvOk.fenceL h1.ok fun k' hk' => by rw [h1.L]; exact hk k' (by simp [hk']))
theorem DvOk.keysIn {d : Dv} (h : DvOk d) {k : Int} (hk : k ∈ srt (d.es.map ME.key)) : 0 ≤ k ∧ 64 * k + 64 ≤ d.L.length := by
  obtain ⟨e, he, rfl⟩ := List.mem_map.1 ((srt_perm _).mem_iff.1 hk)
  exact h.rng e he
theorem DvOk.begin {d : Dv} (h : DvOk d) (at' n : Int) : DvOk (beginD d at' n).2 := by
  have ha := h.arm
  unfold beginD
  repeat' split
  all_goals first | exact h | exact ⟨h.map, h.vals, h.rng, h.len, h.le, h.al, by dsimp only; omega⟩
theorem Own.keepP {σ σ' : AH} {sz : Nat} {x : AV} {rows : List (List AV)} {X : Nat → Prop} (h : Own σ sz x rows) (hg : GrP σ σ' X) (hx : ∀ id, X id → x.bid ≠ some id) : Own σ' sz x rows := by
  rcases h with ⟨rfl, h⟩ | ⟨id, gen, sp, rfl, h⟩
  · exact .inl ⟨rfl, h⟩
  · exact .inr ⟨id, gen, sp, rfl, hg.2 _ _ h fun q => hx id q rfl⟩
theorem Fence_ok {σ : AH} {a : DA} {d : Dv} (h : DevH σ a d) (hd : DvOk d) (Q : AV → AH → Prop)
    (hQ : ∀ σ', DevH σ' a (fenceD d).2 → GrP σ σ' a.has → Q (.int .i64 (fenceD d).1) σ') : CallS Try.prog F.pmem_Device_Fence [.ptr a.i 0 0 0] σ Q := by
  have hle := hd.le
  have hlen := hd.len
  refine call_of_body mixed fc_pmem_Device_Fence_ok (by simp [fc_pmem_Device_Fence]) ?_
  skip
  all_goals (conv => whnf)
  all_goals (try dsimp only)
  refine begins_ok h (by omega) hd.arm 0 0 _ ?_
  intro σ1 h1 hg1
  have hd1 := hd.begin 0 0
  unfold fenceD at hQ
  obtain ⟨s1, s2, s3, s4⟩ := beginD_same d 0 0
  generalize beginD d 0 0 = p at *
  obtain ⟨e, d1⟩ := p
  dsimp only at h1 hd1 hQ s1 s2 s3 s4 ⊢
  by_cases he : e = 0
  · subst he
    rw [if_neg (by simp)] at hQ
    repeat' (first
      | ((conv => whnf) <;> (first
      | (with_reducible refine and_same ?_)
      | ((with_reducible apply Br.no) ; (focus omega))
      ))
      )
    all_goals (conv => whnf)
    all_goals (try dsimp only)
    refine Dirty_ok h1 hd1.map hd1.few _ fun y σ2 hg2 ho hy => ?_
    have h2 := h1.keepN hg2
    have hkeys : ∀ k, k ∈ srt (d1.es.map ME.key) → 0 ≤ k ∧ 64 * k + 64 ≤ d1.L.length := fun k hk => hd1.keysIn hk
    have hl : (srt (d1.es.map ME.key)).length ≤ 4096 := by rw [srt_length, List.length_map]; exact hd1.few
    have hil := is_length (srt (d1.es.map ME.key))
    have hgg : GrP σ σ2 a.has := hg1.trans (.of hg2 _)
    have hyn : ∀ id, a.has id → y.bid ≠ some id := fun id q r => by
      have := h1.lt id q
      have := hy id r
      omega
    generalize srt (d1.es.map ME.key) = l at *
    repeat' (first
      | ((conv => whnf) <;> (first
      | ((with_reducible apply lenR_own) ; (focus assumption))
      ))
      )
    all_goals (conv => whnf)
    all_goals (try dsimp only)
    refine loop_at (α := Nat × AH) (fun q => [(14, .int .i64 q.1)]) (fun q => q.2) (fun q => q.1 ≤ l.length ∧ DevH q.2 a ((l.take q.1).foldl fenceS d1) ∧ Own q.2 1 y (is l) ∧ GrP σ q.2 a.has) (fun q => l.length - q.1) (0, σ2) ⟨Nat.zero_le _, h2, ho, hgg⟩ rfl rfl ?_
    rintro ⟨i, τ⟩ ⟨hi, hD, hO, hG⟩
    dsimp only at hi hD hO hG ⊢
    by_cases hlt : i < l.length
    · obtain ⟨k, hk, hk'⟩ := getN hlt
      have hdi := (DvOk.fenceL (l := l.take i) hd1 fun k' hk' => hkeys k' (List.mem_of_mem_take hk'))
      have et : l.take (i + 1) = l.take i ++ [k] := by rw [List.take_add_one, hk']; rfl
      have ef : (l.take (i + 1)).foldl fenceS d1 = fenceS ((l.take i).foldl fenceS d1) k := by rw [et, List.foldl_append]; rfl
      have hkr := hkeys k (List.mem_of_getElem? hk')
      generalize (l.take i).foldl fenceS d1 = di at *
      obtain ⟨box, lasts, seen, map, ne⟩ := id hD
      obtain ⟨kn, rfl⟩ := Int.eq_ofNat_of_zero_le hkr.1
      have hno : flushed di.es kn = false → fenceS di kn = di := fun q => if_neg (by rw [q]; simp)
      cases hm : mget di.es kn with
      | none =>
        rw [hno (by rw [flushed, hm])] at ef
        repeat' (first
          | ((with_reducible refine Side.intro ?_) <;> (first
          | omega
          ))
          | ((conv => whnf) <;> (first
          | (with_reducible refine and_same ?_)
          | ((with_reducible apply Br.yes) ; (focus omega))
          | ((with_reducible apply blkAt_step) ; (focus (first
          | ((repeat (first
          | assumption
          )); done)
          )) ; (focus (first | rfl | assumption | omega)) ; (focus (first | rfl | assumption)) ; (try dsimp only))
          | ((with_reducible apply nthR_is1) ; (focus assumption))
          | ((with_reducible apply ia_own) ; (focus assumption))
          | ((with_reducible apply mapW_step) ; (focus (first
          | ((repeat (first
          | assumption
          )); done)
          )) ; (try dsimp only))
          | ((with_reducible apply lookW_none) ; (focus assumption))
          | (with_reducible refine nthR_z ?_)
          | ((with_reducible apply nthR_left) ; (focus (first | omega | (simp only [List.length_append, List.length_cons, List.length_nil, List.length_take, List.length_drop, bs_length]; omega))))
          | (with_reducible intro _)
          ))
          )
        all_goals (conv => whnf)
        all_goals (try dsimp only)
        exact ⟨(i + 1, τ), rfl, rfl, ⟨by dsimp only; omega, by dsimp only; rw [ef]; exact hD, hO, hG⟩, by dsimp only; omega⟩
      | some v =>
        obtain ⟨e0, he0, _, hv⟩ := mget_mem hm
        obtain ⟨b, hb⟩ := hdi.ok.vals e0 he0
        rw [hb] at hv
        subst hv
        cases b with
        | false =>
          rw [hno (by rw [flushed, hm])] at ef
          repeat' (first
            | ((with_reducible refine Side.intro ?_) <;> (first
            | omega
            ))
            | ((conv => whnf) <;> (first
            | (with_reducible refine and_same ?_)
            | ((with_reducible apply Br.yes) ; (focus omega))
            | ((with_reducible apply blkAt_step) ; (focus (first
            | ((repeat (first
            | assumption
            )); done)
            )) ; (focus (first | rfl | assumption | omega)) ; (focus (first | rfl | assumption)) ; (try dsimp only))
            | ((with_reducible apply nthR_is1) ; (focus assumption))
            | ((with_reducible apply ia_own) ; (focus assumption))
            | ((with_reducible apply mapW_step) ; (focus (first
            | ((repeat (first
            | assumption
            )); done)
            )) ; (try dsimp only))
            | ((with_reducible apply lookW_some) ; (focus assumption))
            | (with_reducible refine nthR_z ?_)
            | ((with_reducible apply nthR_left) ; (focus (first | omega | (simp only [List.length_append, List.length_cons, List.length_nil, List.length_take, List.length_drop, bs_length]; omega))))
            | (with_reducible intro _)
            ))
            )
          all_goals (conv => whnf)
          all_goals (try dsimp only)
          exact ⟨(i + 1, τ), rfl, rfl, ⟨by dsimp only; omega, by dsimp only; rw [ef]; exact hD, hO, hG⟩, by dsimp only; omega⟩
        | true =>
          have ef' : fenceS di kn = { di with L := lastL di.L di.S kn, es := mdel di.es kn } := if_pos (by rw [flushed, hm])
          rw [ef'] at ef
          have hdL := hdi.L
          have hle1 := hdi.ok.le
          repeat' (first
            | ((with_reducible refine Side.intro ?_) <;> (first
            | omega
            ))
            | ((conv => whnf) <;> (first
            | (with_reducible refine and_same ?_)
            | ((with_reducible apply Br.yes) ; (focus omega))
            | ((with_reducible apply blkAt_step) ; (focus (first
            | ((repeat (first
            | assumption
            )); done)
            )) ; (focus (first | rfl | assumption | omega)) ; (focus (first | rfl | assumption)) ; (try dsimp only))
            | ((with_reducible apply nthR_is1) ; (focus assumption))
            | ((with_reducible apply ia_own) ; (focus assumption))
            | ((with_reducible apply mapW_step) ; (focus (first
            | ((repeat (first
            | assumption
            )); done)
            )) ; (try dsimp only))
            | ((with_reducible apply lookW_some) ; (focus assumption))
            | (with_reducible refine nthR_z ?_)
            | ((with_reducible apply nthR_left) ; (focus (first | omega | (simp only [List.length_append, List.length_cons, List.length_nil, List.length_take, List.length_drop, bs_length]; omega))))
            | (with_reducible intro _)
            ))
            )
          all_goals (conv => whnf)
          all_goals (try dsimp only)
          refine last_ok hD (by omega) hdi.ok.len kn (by omega) _ fun τ1 hD1 hG1 => ?_
          obtain ⟨box1, lasts1, seen1, map1, _⟩ := id hD1
          dsimp only at map1
          have hO1 := Own.keepP hO hG1 hyn
          repeat' (first
            | ((conv => whnf) <;> (first
            | (with_reducible refine and_same ?_)
            | ((with_reducible apply Br.yes) ; (focus omega))
            | ((with_reducible apply blkAt_step) ; (focus (first
            | ((repeat (first
            | assumption
            )); done)
            )) ; (focus (first | rfl | assumption | omega)) ; (focus (first | rfl | assumption)) ; (try dsimp only))
            | ((with_reducible apply mapW_step) ; (focus (first
            | ((repeat (first
            | assumption
            )); done)
            )) ; (try dsimp only))
            ))
            )
          all_goals (conv => whnf)
          all_goals (try dsimp only)
          refine ⟨(i + 1, _), rfl, rfl, ⟨by dsimp only; omega, by dsimp only; rw [ef]; exact hD1.setM _ _, ?_, ?_⟩, by dsimp only; omega⟩
          · exact Own.keepP hO1 (GrP.set (.inr (.inr (.inr rfl))) _) hyn
          · exact (hG.trans hG1).setT (.inr (.inr (.inr rfl))) _
    · have ei : i = l.length := by omega
      subst ei
      rw [List.take_length] at hD
      repeat' (first
        | ((conv => whnf) <;> (first
        | (with_reducible refine and_same ?_)
        | ((with_reducible apply Br.no) ; (focus omega))
        ))
        )
      all_goals (conv => whnf)
      all_goals (try dsimp only)
      exact hQ _ hD hG
  · rw [if_pos he] at hQ
    repeat' (first
      | ((conv => whnf) <;> (first
      | (with_reducible refine and_same ?_)
      | ((with_reducible apply Br.yes) ; (focus omega))
      ))
      )
    all_goals (conv => whnf)
    all_goals (try dsimp only)
    exact hQ _ h1 hg1
end Go.Proofs.Ythakanioekmhbaa
