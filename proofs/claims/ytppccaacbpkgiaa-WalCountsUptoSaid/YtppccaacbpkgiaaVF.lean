/-
  VF: whole functions: a contract out of a body; results that are new; a contract used where the caller has memory of its own.
-/
import Derived.Test.YtppccaacbpkgiaaVE2
namespace Go.Proofs.Ytppccaacbpkgiaa.V
open Go Go.RowKit
set_option linter.unusedSimpArgs false
set_option linter.unusedVariables false

/-! ### A function -/
structure FC where
  n : Nat
  cmd : Cmd
  res : List RV

def cRV (P : Program) : ResultVar → Option RV
  | .tmp t => some (.t t)
  | .cell a t => match szT P t, rowT P t with
    | some n, some g => if g || n == 1 then some (.cell a g n) else none
    | _, _ => none

def cRVs (P : Program) : List ResultVar → Option (List RV)
  | [] => some []
  | x :: r => match cRV P x, cRVs P r with
    | some y, some ys => some (y :: ys)
    | _, _ => none

def compF (P : Program) (f : Nat) (hs : Hs) : Option FC :=
  match P.funcs[f]? with
  | some fn => match fn.body with
    | some c => match comp P fn.ntmps c hs, cRVs P fn.results.toList with
      | some (cmd, _), some r => if (fn.name == "runtime.NumGoroutine") = false ∧ f ≠ yno then some { n := fn.ntmps, cmd := cmd, res := r } else none
      | _, _ => none
    | none => none
  | none => none

theorem fr0_get : ∀ (l : List AV) (k n : Nat) (x : AV), (fr0 k l).get n = some x → ∃ i, n = k + i ∧ l[i]? = some x
  | [], k, n, x, h => by simp [fr0, Fr.get] at h
  | y :: l, k, n, x, h => by
    simp only [fr0, Fr.get] at h
    split at h
    · cases h; exact ⟨0, by omega, rfl⟩
    · obtain ⟨i, h1, h2⟩ := fr0_get l (k + 1) n x h
      exact ⟨i + 1, by omega, by simpa using h2⟩

section
variable [Zone] {P : Program}

def rv1 (σ : AH) (fr : Fr) (y : RV) (K : AV → Prop) : Prop :=
  match y with
  | .t n => evR fr (.t n) K
  | .cell n g sz => roI σ fr (.load g sz (.t n)) K

def runRV (tmps : Array Value) (r : ResultVar) : Sem Value :=
  match r with
  | .tmp t => pure (tmps.getD t undef)
  | .cell ad t => do loadVar t (← asAddr (tmps.getD ad undef))

theorem rv1_sound {N : Nat} {E0 : Env} {w0 : World} {fr : Fr} {σ : AH} {E : Env} {a : Act} {w : World} (s : St N E0 w0 fr σ E a w) {r : ResultVar} {y : RV} (hy : cRV P r = some y) {K : AV → Prop} (h : rv1 σ fr y K) :
    ∃ v x, Rep w E v x ∧ K x ∧ (runRV a.tmps r).run P w = .ok v w := by
  cases r with
  | tmp t =>
    simp only [cRV, Option.some.injEq] at hy; subst hy
    obtain ⟨z, hz, hk⟩ := evR_ok (x := .tmp t) s.frame rfl h
    exact ⟨_, z, hz, hk, rfl⟩
  | cell ad t =>
    simp only [cRV] at hy
    split at hy
    · rename_i n g hn hg
      split at hy
      · cases hy
        simp only [rv1, roI] at h
        obtain ⟨z, hz, h⟩ := evR_ok (x := .tmp ad) s.frame rfl h
        split at h
        · obtain ⟨b, m, hb, hm, hok, hg1, hg2, hbe, h⟩ := blkAt_elim s.rel h
          obtain ⟨hlt, h⟩ := nthR_elim h
          have hrow := List.getElem?_eq_getElem hlt
          obtain ⟨q, cs, e1, hcs⟩ := ptr_load s.rel hz hb hg1 hrow
          obtain ⟨v, y, hv, hk, hrun⟩ := load_yields hn hg hcs (h _ hrow)
          refine ⟨v, y, hv, hk, ?_⟩
          have e2 : a.tmps.getD ad undef = .pointer (some (q.add _)) := e1
          simp only [runRV, e2, asAddr, Sem.run_bind, Sem.run_pure, Result.andThen_ok, hrun w (Old.refl w)]
        · obtain ⟨q, cs, e1, hcs, _⟩ := hz.vptr_inv
          obtain ⟨v, y, hv, hk, hrun⟩ := load_yields hn hg hcs h
          refine ⟨v, y, hv, hk, ?_⟩
          have e2 : a.tmps.getD ad undef = .pointer (some (q.add _)) := e1
          simp only [runRV, e2, asAddr, Sem.run_bind, Sem.run_pure, Result.andThen_ok, hrun w (Old.refl w)]
        · exact h.elim
      · cases hy
    · cases hy

theorem resR_sound {N : Nat} {E0 : Env} {w0 : World} {fr : Fr} {σ : AH} {E : Env} {a : Act} {w : World} (s : St N E0 w0 fr σ E a w) : ∀ {rs : List ResultVar} {ys : List RV}, cRVs P rs = some ys → ∀ {K : List AV → Prop}, resR σ fr ys K →
    ∃ vs l, RepL w E vs l ∧ K l ∧ (rs.mapM (runRV a.tmps)).run P w = .ok vs w
  | [], ys, hc, K, h => by
    simp [cRVs] at hc; subst hc
    exact ⟨[], [], .nil, h, by simp⟩
  | r :: rs, ys, hc, K, h => by
    simp only [cRVs] at hc
    split at hc
    · rename_i y ys' hy hys
      cases hc
      have h' : rv1 σ fr y (fun x => resR σ fr ys' fun l => K (x :: l)) := by
        cases y <;> exact h
      obtain ⟨v, x, hv, hk, hrun⟩ := rv1_sound s hy h'
      obtain ⟨vs, l, h1, h2, h3⟩ := resR_sound s hys hk
      refine ⟨v :: vs, x :: l, .cons hv h1, h2, ?_⟩
      rw [List.mapM_cons]
      simp only [Sem.run_bind, hrun, Result.andThen_ok, h3, Sem.run_pure]
    · cases hc

omit [Zone] in
theorem results_run {fn : Func} {tmps : Array Value} {w : World} {vs : List Value} (h : (fn.results.toList.mapM (runRV tmps)).run P w = .ok vs w) : (results fn tmps).run P w = .ok (if h : vs.toArray.size = 1 then vs.toArray[0] else .tuple vs.toArray) w := by
  have e : (fun r : ResultVar => (match r with
    | .tmp t => pure (tmps.getD t undef)
    | .cell a t => do loadVar t (← asAddr (tmps.getD a undef)) : Sem Value)) = runRV tmps := by
    funext r; cases r <;> rfl
  unfold results
  rw [Array.mapM_eq_mapM_toList]
  have h2 : (List.toArray <$> fn.results.toList.mapM (runRV tmps)).run P w = .ok vs.toArray w := by
    rw [Sem.run_map, h]; rfl
  rw [← e] at h2
  simp only [Sem.run_bind]
  refine (congrArg (fun q => Result.andThen q _) h2).trans ?_
  rfl

theorem pack_ok {w : World} {E : Env} {vs : List Value} {l : List AV} (h : RepL w E vs l) : Rep w E (if h : vs.toArray.size = 1 then vs.toArray[0] else .tuple vs.toArray) (packA l) := by
  match h with
  | .nil => exact .tup _ _ (by simpa using RepL.nil)
  | .cons a .nil => exact a
  | .cons a (.cons b t) =>
    rw [dif_neg (by simp)]
    exact .tup _ _ (by simpa using RepL.cons a (.cons b t))

end

section
variable [Zone]
/-- A frame on its way out, over the marks. -/
theorem leaves_marks {N : Nat} {P : Program} {fn : Func} {E0 : Env} {w0 : World} {R : Ending → World → Prop} {fr : Fr} {σ : AH} {E : Env} {tmps : Array Value} (Ds : List Nat) : ∀ {w : World}, St N E0 w0 fr σ E { tmps := tmps, defers := Ds.map (fun D => { target := .collected D, args := #[] }) } w →
    (∀ w', St N E0 w0 fr σ E { tmps := tmps, defers := [] } w' → ∃ v, (results fn tmps).run P w' = .ok v w' ∧ R (.returned v) w') → LeavesInM Fence.wide 0 P fn tmps R (Ds.map (fun D => { target := .collected D, args := #[] })) .returning w := by
  induction Ds with
  | nil => intro w s h; exact h w s
  | cons D Ds ih =>
    intro w s h
    obtain ⟨Ds', e, hnd, hall⟩ := s.defers
    have e' : D :: Ds = Ds' := by
      have : Function.Injective (fun D : Nat => ({ target := .collected D, args := #[] } : Deferred)) := fun a b q => by cases q; rfl
      exact (List.map_inj_right (fun a b q => this q)).1 e
    subst e'
    obtain ⟨k1, k2, k3⟩ := hall D (by simp)
    refine ⟨by simp, .inl ⟨D, w.putObj D (.deferred none), rfl, run_takeDeferred k2, ih ⟨?_, s.size, ?_, s.rel.shut k2, ?_⟩ h⟩⟩
    · refine ⟨Ds, rfl, (List.nodup_cons.1 hnd).2, fun D' hD' => ?_⟩
      obtain ⟨q1, q2, q3⟩ := hall D' (by simp [hD'])
      have hne : D' ≠ D := fun q => (List.nodup_cons.1 hnd).1 (q ▸ hD')
      exact ⟨q1, (World.putObj_heap_other hne).trans q2, q3⟩
    · intro n x hx
      exact Rep.keepM (keep_shut k2 (EW E)) (fun id m h => ⟨m, h, Nat.le_refl _, fun _ => ⟨rfl, rfl⟩⟩) (s.frame n x hx)
    · refine ⟨s.step.os, s.step.tape, s.step.output, by rw [World.putObj_size]; exact s.step.size, fun g hg hn => ?_, s.step.own, s.step.metas⟩
      rw [World.putObj_heap_other (by omega)]
      exact s.step.block g hg hn
theorem body_calls {P : Program} (hm : P.follows .mixedOrders = true) {f : Nat} {hs : Hs} {F : FC} (hc : compF P f hs = some F) {fn : Func} {c : Code} (hfn : P.funcs[f]? = some fn) (hb : fn.body = some c) {C : CallP} {I : IterP} (hCm : C.Mono) {E : Env} {w : World} (hC : CSound P none E w C)
    (hk : rok c = true ∨ RF P fn.ntmps none C I E w) {args : List AV} (ha : args.length ≤ F.n) {σ : AH} {Q : AV → AH → Prop} {cs : List Value} (hr : Rel σ E w) (hrep : RepL w E cs args) (h : bodyA C I F.cmd F.res args σ Q) :
    Calls P f cs.toArray w fun e w' => ∃ v E' x σ', e = .returned v ∧ Rep w' E' v x ∧ Rel σ' E' w' ∧ Step E w E' w' ∧ Q x σ' := by
  unfold compF at hc
  rw [hfn] at hc
  simp only [hb] at hc
  split at hc
  · rename_i cmd hs' r hcomp hres
    split at hc
    · rename_i hname
      cases hc
      have hlen := hrep.length
      refine callsIn_wide.1 (callsIn_of_wp_marks (F := Fence.wide) (n := 0) hfn hb trivial ?_)
      have s0 : St fn.ntmps E w (fr0 0 args) σ E { tmps := cs.toArray ++ Array.replicate (fn.ntmps - cs.toArray.size) undef, defers := [] } w := by
        refine ⟨Marks.nil _ _ _, ?_, ?_, hr, Step.refl _ _⟩
        · simp only [Array.size_append, Array.size_replicate, List.size_toArray]
          simp only [] at ha
          omega
        · intro n x hx
          obtain ⟨i, rfl, hi⟩ := fr0_get args 0 n x hx
          obtain ⟨v, hv, hrv⟩ := hrep.get i x hi
          have : (cs.toArray ++ Array.replicate (fn.ntmps - cs.toArray.size) undef).getD (0 + i) undef = v := by
            have hlt : i < cs.length := (List.getElem?_eq_some_iff.1 hv).1
            rw [Nat.zero_add, Array.getD_eq_getD_getElem?, Array.getElem?_append_left (by simpa using hlt)]
            simp [hv]
          rw [this]; exact hrv
      refine wpIn_mono (awp_gen (ro := none) hm hC hCm (hk.imp id fun q => ⟨rfl, q⟩) hcomp s0 h) ?_
      rintro e a1 w1 hp
      have fin : ∀ {fr1 : Fr} {σ1 : AH} {E1 : Env}, St fn.ntmps E w fr1 σ1 E1 a1 w1 → (resR σ1 fr1 r fun l => Q (packA l) σ1) → LeavesInM Fence.wide 0 P fn a1.tmps (fun e w' => ∃ v E' x σ', e = .returned v ∧ Rep w' E' v x ∧ Rel σ' E' w' ∧ Step E w E' w' ∧ Q x σ') a1.defers .returning w1 := by
        intro fr1 σ1 E1 s1 hq
        obtain ⟨Ds, hDs, _⟩ := s1.defers
        obtain ⟨tmps, defers⟩ := a1
        simp only at hDs
        subst hDs
        refine leaves_marks Ds s1 fun w' s' => ?_
        obtain ⟨vs, l, h1, h2, h3⟩ := resR_sound s' hres hq
        exact ⟨_, results_run h3, _, E1, packA l, σ1, rfl, pack_ok h1, s'.rel, s'.step, h2⟩
      cases e with
      | normal => obtain ⟨fr1, σ1, E1, s1, h1⟩ := hp; exact fin s1 h1
      | ret => obtain ⟨fr1, σ1, E1, s1, h1⟩ := hp; exact fin s1 h1
      | exit i => obtain ⟨fr1, σ1, E1, s1, h1⟩ := hp; exact h1.elim
      | goto l => exact hp.elim
      | panic ch => exact hp.elim
      | outgrown => exact hp.elim
    · cases hc
  · cases hc

end

/-! ### Ranges over functions -/
def monoY (Y : List AV → AH → (AV → AH → Prop) → Prop) : List AV → AH → (AV → AH → Prop) → Prop := fun l σ K => ∃ K0, (∀ x τ, K0 x τ → K x τ) ∧ Y l σ K0
def Yc (C : CallP) (Y : List AV → AH → (AV → AH → Prop) → Prop) : CallP := fun f l σ K => if f = yno then monoY Y l σ K else C f l σ K
theorem Yc.mono {C : CallP} (hC : C.Mono) (Y : List AV → AH → (AV → AH → Prop) → Prop) : (Yc C Y).Mono := by
  intro f l σ K K' hK h
  unfold Yc at h ⊢
  split at h
  · rename_i e
    rw [if_pos e]
    obtain ⟨K0, h1, h2⟩ := h
    exact ⟨K0, fun x τ q => hK _ _ (h1 x τ q), h2⟩
  · rename_i e
    rw [if_neg e]
    exact hC _ _ _ _ _ hK h
theorem Yc.yl {C : CallP} {Y : List AV → AH → (AV → AH → Prop) → Prop} {l : List AV} {σ : AH} {K : AV → AH → Prop} (h : monoY Y l σ K) : Yc C Y yno l σ K := by
  unfold Yc; rw [if_pos rfl]; exact h
def noI : IterP := fun _ _ _ _ _ _ => False
/-- An iterator is run: its own code, yield by what the round asks. -/
structure IterW (P : Program) (f : Nat) (caps : List AV) (σ : AH) (id : Nat) (Y : List AV → AH → (AV → AH → Prop) → Prop) (Q : AH → Prop) : Prop where
  of ::
  ok : ∃ hs F fn c, P.funcs[f]? = some fn ∧ fn.body = some c ∧ rok c = true ∧ compF P f hs = some F ∧ caps.length + 1 ≤ F.n ∧ bodyA (Yc (CallS P) Y) noI F.cmd F.res (.rsl id 0 1 0 none :: caps) σ fun _ σ' => Q σ'
def IterS (P : Program) : IterP := fun f caps σ id Y Q => IterW P f caps σ id Y Q

section
variable [Zone] {P : Program} {N : Nat}
/-- A round's temporaries. -/
theorem round_tmps {w : World} {E : Env} : ∀ {ps : List Nat} {xs : List AV} {cs : List Value} {fr fr1 : Fr} {tmps : Array Value}, roundFr fr ps xs = some fr1 → RepL w E cs xs → (∀ p, p ∈ ps → p < N) → tmps.size = N → (∀ n x, fr.get n = some x → Rep w E (tmps.getD n undef) x) →
    ps.length = cs.length ∧ ((ps.zip cs).foldl (fun tmps (p : Nat × Value) => tmps.setIfInBounds p.1 p.2) tmps).size = N ∧ ∀ n x, fr1.get n = some x → Rep w E (((ps.zip cs).foldl (fun tmps (p : Nat × Value) => tmps.setIfInBounds p.1 p.2) tmps).getD n undef) x
  | [], [], cs, fr, fr1, tmps, h, hr, hp, hs, hf => by
    cases hr
    cases h
    exact ⟨rfl, hs, hf⟩
  | p :: ps, x :: xs, cs, fr, fr1, tmps, h, hr, hp, hs, hf => by
    cases hr with
    | cons a t =>
      simp only [roundFr] at h
      obtain ⟨h1, h2, h3⟩ := round_tmps (tmps := tmps.setIfInBounds p _) h t (fun q hq => hp q (by simp [hq])) (by simpa using hs) (fun n y hy => by
        rw [Fr.get_put] at hy
        rw [getD_set _ _ _ _ (by rw [hs]; exact hp p (by simp))]
        split at hy
        · rename_i e; rw [if_pos e]; cases hy; exact a
        · rename_i e; rw [if_neg e]; exact hf n y hy)
      exact ⟨by simp [h1], by simpa using h2, by simpa using h3⟩
  | [], x :: xs, cs, fr, fr1, tmps, h, hr, hp, hs, hf => by simp [roundFr] at h
  | p :: ps, [], cs, fr, fr1, tmps, h, hr, hp, hs, hf => by simp [roundFr] at h

theorem rf_sound (hm : P.follows .mixedOrders = true) {E0 : Env} {w0 : World} : RF P N none (CallS P) (IterS P) E0 w0 := by
  intro g ps x y hs hs' cmd hc Kn Kx Kr fr σ E a w s h
  simp only [comp] at hc
  split at hc
  · rename_i go ca hs1 hg hx
    split at hc
    · rename_i cb hs2 hy
      split at hc
      · rename_i hok
        cases hc
        simp only [Bool.and_eq_true, Array.all_eq_true'] at hok
        obtain ⟨⟨hrx, hry⟩, hps⟩ := hok
        simp only [awp] at h
        obtain ⟨z, hz, h⟩ := evR_ok s.frame hg h
        split at h
        · rename_i f caps
          have hfy := hz.fn_ne
          obtain ⟨cv, hv, hcv⟩ := hz.fn_inv
          refine wpIn_rangeFunc fun fnid _ => ?_
          obtain ⟨lr, hlr⟩ : ∃ lr : Loop, lr = { state := .ready, pending := none, fn := fnid, tmps := a.tmps, params := ps, assign := x, body := y, defers := w.heap.size } := ⟨_, rfl⟩
          have hrdy : lst lr .ready = lr := by rw [hlr]; rfl
          obtain ⟨hs3, F, fn, c, hfn, hb, hrok, hcF, hlen, hbody⟩ := (h lr).ok
          rw [hrdy] at hbody
          have hB : (fn.name == "runtime.NumGoroutine") = false := by
            unfold compF at hcF
            rw [hfn] at hcF
            simp only [hb] at hcF
            split at hcF
            · split at hcF
              · rename_i q; exact q.1
              · cases hcF
            · cases hcF
          have hb' : fn.body.isSome = true := by rw [hb]; rfl
          -- the block for deferred calls, the record
          have hc1 : Calm w (w.alloc (.deferred (some []))) := ⟨fun g hg => (Grows.alloc w _).old hg, by rw [World.size_alloc]; omega, rfl, rfl, rfl⟩
          obtain ⟨st1, rel1⟩ := s.rel.calm hc1
          obtain ⟨st2, rel2⟩ := new_ext rel1 (Grows.alloc (w.alloc (.deferred (some []))) (.loop lr)) (lblk lr) (.loop lr) rfl rfl rfl rfl rfl rfl (World.alloc_heap_new _ _)
          rw [World.size_alloc] at st2 rel2
          obtain ⟨w1, hw1⟩ : ∃ w1, w1 = (w.alloc (.deferred (some []))).alloc (.loop lr) := ⟨_, rfl⟩
          rw [← hw1] at st2 rel2
          have st12 := st1.trans st2
          have hD1 : w1.heap[w.heap.size]? = some (.deferred (some [])) := by
            rw [hw1, (Grows.alloc (w.alloc (.deferred (some []))) (.loop lr)).old (by rw [World.size_alloc]; omega)]
            exact World.alloc_heap_new _ _
          have hE1 : (E ++ [(⟨0, 0, true, some (w.heap.size + 1, 0)⟩ : MI)])[σ.length]? = some ⟨0, 0, true, some (w.heap.size + 1, 0)⟩ := by
            rw [← s.rel.len, List.getElem?_append_right (Nat.le_refl _)]; simp
          have hargs : RepL w1 (E ++ [⟨0, 0, true, some (w.heap.size + 1, 0)⟩]) ([.func (.yield (w.heap.size + 1)) #[] #[]] ++ cv.toList) (.rsl σ.length 0 1 0 none :: caps) := by
            refine .cons (.rsl _ rfl hE1 (Nat.le_refl _) fun _ => ?_) (hcv.step st12)
            unfold RslAny
            rw [if_pos rfl]
            exact ⟨_, _, rfl, by simp⟩
          have hsound : CSound P none (E ++ [⟨0, 0, true, some (w.heap.size + 1, 0)⟩]) w1 (Yc (CallS P) (fun l σ1 K => ∃ xs fr1, l = .rsl σ.length 0 1 0 none :: xs ∧ roundFr fr ps.toList xs = some fr1 ∧ σ1[σ.length]? = some (lblk lr) ∧
          awp (CallS P) (IterS P) ca fr1 σ1 (fun fr2 σ2 => σ2[σ.length]? = some (lblk lr) ∧
            awp (CallS P) (IterS P) cb fr2 (σ2.set σ.length (lblk (lst lr .busy)))
              (fun _ σ3 => σ3[σ.length]? = some (lblk (lst lr .busy)) ∧ K (.bool true) (σ3.set σ.length (lblk lr))) (fun _ _ _ => False) (fun _ _ => False))
            (fun _ _ _ => False) (fun _ _ => False))) := by
            refine ⟨fun f l σ K hne h => by unfold Yc at h; rwa [if_neg hne] at h, fun l σ' K h => ?_⟩
            unfold Yc at h
            rw [if_pos rfl] at h
            obtain ⟨K0, hK0, xs, fr1, rfl, hfr1, hrec, hbd⟩ := h
            refine ⟨σ.length, xs, lr, rfl, hrec, fun E' W cs gl m c hst hR hcs hm' hp hh => ?_⟩
            have stW : Step E w E' W := st12.trans hst
            obtain ⟨t1, t2, t3⟩ := round_tmps (N := N) (tmps := a.tmps) hfr1 hcs (fun p hp => by simpa using hps p (by simpa using hp)) s.size (fun n x hx => (s.frame n x hx).step stW)
            have hfold : (ps.zip cs.toArray).foldl (fun tmps (p : Nat × Value) => tmps.setIfInBounds p.1 p.2) a.tmps = (ps.toList.zip cs).foldl (fun tmps (p : Nat × Value) => tmps.setIfInBounds p.1 p.2) a.tmps := by
              rw [← Array.foldl_toList]; simp
            have atg : ∀ {E'' : Env} {W'' : World} {σ'' : AH} {lx : Loop}, Step E' W E'' W'' → Rel σ'' E'' W'' → σ''[σ.length]? = some (lblk lx) → ∃ m2, E''[σ.length]? = some m2 ∧ m2.place = some (gl, c) ∧ W''.heap[gl]? = some (.loop lx) := by
              intro E'' W'' σ'' lx hst' hR' hrec'
              obtain ⟨m1, hm1, hok1⟩ := hR.blk _ _ hrec
              rw [hm'] at hm1; cases hm1
              obtain ⟨m2, hm2, hok2⟩ := hR'.blk _ _ hrec'
              obtain ⟨q1, _, _, _, _, _, g2, c2, q7, q8, q9⟩ := hok2.isExt rfl
              obtain ⟨m3, hm3, _, he3⟩ := hst'.metas _ _ hm'
              rw [hm2] at hm3; cases hm3
              have e1 : m.gen = 0 := (hok1.isExt rfl).1
              have e2 : m2.gen = 0 := q1
              have e3 := (he3 (by omega)).2
              rw [q7, hp] at e3
              cases e3
              exact ⟨m2, hm2, q7, q9⟩
            have hbsy : ({ lr with state := .busy } : Loop) = lst lr .busy := by rw [hlr]; rfl
            have hbck : ∀ z : LoopState, ({ lst lr .busy with state := .ready, pending := none } : Loop) = lr := fun _ => by rw [hlr]; rfl
            refine ⟨lr.fn, (ps.zip cs.toArray).foldl (fun tmps (p : Nat × Value) => tmps.setIfInBounds p.1 p.2) a.tmps, x, y, ?_, ?_⟩
            · have := run_yield (P := P) (args := cs.toArray) hh (by rw [hlr]; simpa using t1.symm)
              rw [this, hlr]
            · refine roundIn_of_wpIn (F := Fence.wide) trivial ?_
              have sR : St N E' W fr1 σ' E' { tmps := (ps.zip cs.toArray).foldl (fun tmps (p : Nat × Value) => tmps.setIfInBounds p.1 p.2) a.tmps, defers := [] } W := ⟨Marks.nil _ _ _, by rw [hfold]; exact t2, fun n x hx => by rw [hfold]; exact t3 n x hx, hR, Step.refl _ _⟩
              refine wpIn_mono (awp_gen (ro := some gl) hm CSound.calls CallS.mono' (.inl hrx) hx sR hbd) ?_
              rintro e a2 w2 hp2
              cases e with
              | normal =>
                obtain ⟨fr2, σ2, E2, s2, hrec2, hbd2⟩ := hp2
                obtain ⟨m2, hm2, hpl2, hh2⟩ := atg s2.step s2.rel hrec2
                obtain ⟨st3, rel3⟩ := write_ext (w' := w2.putObj gl (.loop (lst lr .busy))) (b' := lblk (lst lr .busy)) (x' := .loop (lst lr .busy)) s2.rel hrec2 hm2 rfl rfl hpl2 rfl rfl rfl rfl rfl rfl rfl (World.putObj_heap_same (Array.getElem?_eq_some_iff.1 hh2).1)
                refine ⟨w2.putObj gl (.loop (lst lr .busy)), by rw [run_beginRound hh2 (by rw [hlr]), hbsy], ?_⟩
                have s3 : St N E' W fr2 (σ2.set σ.length (lblk (lst lr .busy))) E2 a2 (w2.putObj gl (.loop (lst lr .busy))) := ⟨s2.defers.step st3, s2.size, fun n x hx => (s2.frame n x hx).step st3, rel3, s2.step.trans st3⟩
                refine wpIn_mono (awp_gen (ro := some gl) hm CSound.calls CallS.mono' (.inl hry) hy s3 hbd2) ?_
                rintro e a3 w3 hp3
                cases e with
                | normal =>
                  obtain ⟨fr3, σ3, E3, s4, hrec3, hK⟩ := hp3
                  obtain ⟨m3, hm3, hpl3, hh3⟩ := atg s4.step s4.rel hrec3
                  obtain ⟨st5, rel5⟩ := write_ext (w' := w3.putObj gl (.loop lr)) (b' := lblk lr) (x' := .loop lr) s4.rel hrec3 hm3 rfl rfl hpl3 rfl rfl rfl rfl rfl rfl rfl (World.putObj_heap_same (Array.getElem?_eq_some_iff.1 hh3).1)
                  refine ⟨.bool true, w3.putObj gl (.loop lr), ?_, .bool true, E3, .bool true, _, rfl, .pure (.bool true), rel5, s4.step.trans st5, hK0 _ _ hK⟩
                  rw [run_endRound none hh3]
                  simp only [Option.isNone_none, if_true]
                  rw [hbck .ready]
                | ret => obtain ⟨_, _, _, _, q⟩ := hp3; exact q.elim
                | exit i => obtain ⟨_, _, _, _, q⟩ := hp3; exact q.elim
                | goto l => exact hp3.elim
                | panic ch => exact hp3.elim
                | outgrown => exact hp3.elim
              | ret => obtain ⟨_, _, _, _, q⟩ := hp2; exact q.elim
              | exit i => obtain ⟨_, _, _, _, q⟩ := hp2; exact q.elim
              | goto l => exact hp2.elim
              | panic ch => exact hp2.elim
              | outgrown => exact hp2.elim
          refine ⟨w.heap.size + 1, [{ target := .collected w.heap.size, args := #[] }], w1, ⟨.fn (.func f) cv, #[Value.func (.yield (w.heap.size + 1)) #[] #[]]⟩, w1, f, ([Value.func (.yield (w.heap.size + 1)) #[] #[]] ++ cv.toList).toArray, w1, ?_, ?_, fun _ _ => trivial, ?_, (fun q => by cases q), ?_⟩
          · rw [hw1, hlr]; exact run_enterLoop_outer _ _ _ _ _
          · have he : a.eval (.const (.func (.yield (w.heap.size + 1)) #[] #[])) = .func (.yield (w.heap.size + 1)) #[] #[] := rfl
            simp [resolve, hv, Deferred.ofValue, Sem.run_pure, he]
          · have := callFunc_run hfn hb' hB (#[Value.func (.yield (w.heap.size + 1)) #[] #[]] ++ cv) w1
            simp only [invoke]
            rw [this]
            congr 2
            apply Array.ext'; simp
          · refine FW_calls (ro := none) ((body_calls hm hcF hfn hb (Yc.mono CallS.mono' _) hsound (.inl hrok) (by simpa using hlen) rel2 hargs hbody).mono ?_)
            rintro e w' ⟨v, E4, xv, σ4, rfl, hv4, rel4, st4, hrec4, hN⟩
            obtain ⟨m4, hm4, hok4⟩ := rel4.blk _ _ hrec4
            obtain ⟨q1, _, _, _, _, _, g2, c2, q7, q8, q9⟩ := hok4.isExt rfl
            obtain ⟨m3, hm3, _, he3⟩ := st4.metas _ _ hE1
            rw [hm4] at hm3; cases hm3
            have e2 : m4.gen = 0 := q1
            have e3 := (he3 (by rw [e2])).2
            rw [q7] at e3
            cases e3
            have hex : ({ lr with state := .exhausted } : Loop) = lst lr .exhausted := by rw [hlr]; rfl
            obtain ⟨st5, rel5⟩ := write_ext (w' := w'.putObj (w.heap.size + 1) (.loop (lst lr .exhausted))) (b' := lblk (lst lr .exhausted)) (x' := .loop (lst lr .exhausted)) rel4 hrec4 hm4 rfl rfl q7 rfl rfl rfl rfl rfl rfl rfl (World.putObj_heap_same q8)
            refine ⟨none, w'.putObj (w.heap.size + 1) (.loop (lst lr .exhausted)), ?_, ?_⟩
            · rw [run_endLoop (r := lr) q9 (by rw [hlr]; simp), hex]
              rw [hlr]
            · have st45 := st4.trans st5
              refine ⟨fr, _, E4, ⟨?_, s.size, fun n x hx => (s.frame n x hx).step (st12.trans st45), rel5, s.step.trans (st12.trans st45)⟩, hN⟩
              refine Marks.step ?_ st45
              obtain ⟨Ds, hDs, hnd, hall⟩ := Marks.step s.defers st12
              obtain ⟨Ds0, hDs0, hnd0, hall0⟩ := s.defers
              have hDD : Ds = Ds0 := by
                rw [hDs] at hDs0
                exact (List.map_inj_right (fun a b q => by cases q; rfl)).1 hDs0
              subst hDD
              refine ⟨w.heap.size :: Ds, by simp [hDs], List.nodup_cons.2 ⟨fun q => ?_, hnd⟩, fun D hD => ?_⟩
              · have := (Array.getElem?_eq_some_iff.1 (hall0 _ q).2.1).1
                omega
              · rcases List.mem_cons.1 hD with rfl | hD
                · refine ⟨s.step.size, hD1, fun q => ?_⟩
                  rcases ew_append q with ⟨id, m, c, h1, h2, h3⟩ | ⟨c, h3⟩
                  · have := s.rel.place_lt h1 h3
                    omega
                  · simp only [Option.some.injEq, Prod.mk.injEq] at h3
                    omega
                · exact hall D hD
        · exact h.elim
      · cases hc
    · cases hc
  · cases hc
end

/-- A contract out of a body. -/
theorem call_of_body {P : Program} (hm : P.follows .mixedOrders = true) {f : Nat} {hs : Hs} {F : FC} (hc : compF P f hs = some F) {args : List AV} (ha : args.length ≤ F.n) {σ : AH} {Q : AV → AH → Prop}
    (h : bodyA (CallS P) (IterS P) F.cmd F.res args σ Q) : CallS P f args σ Q := by
  have hc0 := hc
  unfold compF at hc
  split at hc
  · rename_i fn hfn
    split at hc
    · rename_i c hb
      split at hc
      · split at hc
        · rename_i hname
          refine ⟨⟨hname.2, fn, hfn, by rw [hb]; rfl, hname.1⟩, ?_⟩
          intro z w E cs hr hrep
          exact body_calls hm hc0 hfn hb CallS.mono' CSound.calls (.inr (rf_sound hm)) ha hr hrep h
        · cases hc
      · cases hc
    · cases hc
  · cases hc

/-- An iterator out of its own code. -/
def rokF (P : Program) (f : Nat) : Bool :=
  match P.funcs[f]? with
  | some fn => match fn.body with
    | some c => rok c
    | none => false
  | none => false
theorem IterS.of {P : Program} {f : Nat} {hs : Hs} {F : FC} (hc : compF P f hs = some F) (hr : rokF P f = true) {caps : List AV} (ha : caps.length + 1 ≤ F.n) {σ : AH} {id : Nat} {Y : List AV → AH → (AV → AH → Prop) → Prop} {Q : AH → Prop}
    (h : bodyA (Yc (CallS P) Y) noI F.cmd F.res (.rsl id 0 1 0 none :: caps) σ fun _ σ' => Q σ') : IterS P f caps σ id Y Q := by
  unfold rokF at hr
  split at hr
  · rename_i fn hfn
    split at hr
    · rename_i c hb
      exact ⟨⟨hs, F, fn, c, hfn, hb, hr, hc, ha, h⟩⟩
    · cases hr
  · cases hr

end Go.Proofs.Ytppccaacbpkgiaa.V
