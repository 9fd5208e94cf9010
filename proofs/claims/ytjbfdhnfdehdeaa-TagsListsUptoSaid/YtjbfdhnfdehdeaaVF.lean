/-
  VF: whole functions: a contract out of a body; results that are new; a contract used where the caller has memory of its own.
-/
import Derived.Test.YtjbfdhnfdehdeaaVE
namespace Go.Proofs.Ytjbfdhnfdehdeaa.V
open Go Go.RowKit
set_option linter.unusedSimpArgs false
set_option linter.unusedVariables false

/-! ### A function -/
structure FC where
  n : Nat
  cmd : Cmd
  res : List RV

def cRV (P : Program) : ResultVar → Option RV
  | .tmp t => some (.t t)
  | .cell a t => match szT P t, rowT P t with
    | some n, some g => if g || n == 1 then some (.cell a g n) else none
    | _, _ => none

def cRVs (P : Program) : List ResultVar → Option (List RV)
  | [] => some []
  | x :: r => match cRV P x, cRVs P r with
    | some y, some ys => some (y :: ys)
    | _, _ => none

def compF (P : Program) (f : Nat) (hs : Hs) : Option FC :=
  match P.funcs[f]? with
  | some fn => match fn.body with
    | some c => match comp P fn.ntmps c hs, cRVs P fn.results.toList with
      | some (cmd, _), some r => if (fn.name == "runtime.NumGoroutine") = false then some { n := fn.ntmps, cmd := cmd, res := r } else none
      | _, _ => none
    | none => none
  | none => none

theorem fr0_get : ∀ (l : List AV) (k n : Nat) (x : AV), (fr0 k l).get n = some x → ∃ i, n = k + i ∧ l[i]? = some x
  | [], k, n, x, h => by simp [fr0, Fr.get] at h
  | y :: l, k, n, x, h => by
    simp only [fr0, Fr.get] at h
    split at h
    · cases h; exact ⟨0, by omega, rfl⟩
    · obtain ⟨i, h1, h2⟩ := fr0_get l (k + 1) n x h
      exact ⟨i + 1, by omega, by simpa using h2⟩

section
variable [Zone] {P : Program}

def rv1 (σ : AH) (fr : Fr) (y : RV) (K : AV → Prop) : Prop :=
  match y with
  | .t n => evR fr (.t n) K
  | .cell n g sz => roI σ fr (.load g sz (.t n)) K

def runRV (tmps : Array Value) (r : ResultVar) : Sem Value :=
  match r with
  | .tmp t => pure (tmps.getD t undef)
  | .cell ad t => do loadVar t (← asAddr (tmps.getD ad undef))

theorem rv1_sound {N : Nat} {E0 : Env} {w0 : World} {fr : Fr} {σ : AH} {E : Env} {a : Act} {w : World} (s : St N E0 w0 fr σ E a w) {r : ResultVar} {y : RV} (hy : cRV P r = some y) {K : AV → Prop} (h : rv1 σ fr y K) :
    ∃ v x, Rep w E v x ∧ K x ∧ (runRV a.tmps r).run P w = .ok v w := by
  cases r with
  | tmp t =>
    simp only [cRV, Option.some.injEq] at hy; subst hy
    obtain ⟨z, hz, hk⟩ := evR_ok (x := .tmp t) s.frame rfl h
    exact ⟨_, z, hz, hk, rfl⟩
  | cell ad t =>
    simp only [cRV] at hy
    split at hy
    · rename_i n g hn hg
      split at hy
      · cases hy
        simp only [rv1, roI] at h
        obtain ⟨z, hz, h⟩ := evR_ok (x := .tmp ad) s.frame rfl h
        split at h
        · obtain ⟨b, m, hb, hm, hok, hg1, hg2, h⟩ := blkAt_elim s.rel h
          obtain ⟨hlt, h⟩ := nthR_elim h
          have hrow := List.getElem?_eq_getElem hlt
          obtain ⟨q, cs, e1, hcs⟩ := ptr_load s.rel hz hb hg1 hrow
          obtain ⟨v, y, hv, hk, hrun⟩ := load_yields hn hg hcs (h _ hrow)
          refine ⟨v, y, hv, hk, ?_⟩
          have e2 : a.tmps.getD ad undef = .pointer (some (q.add _)) := e1
          simp only [runRV, e2, asAddr, Sem.run_bind, Sem.run_pure, Result.andThen_ok, hrun w (Old.refl w)]
        · obtain ⟨q, cs, e1, hcs, _⟩ := hz.vptr_inv
          obtain ⟨v, y, hv, hk, hrun⟩ := load_yields hn hg hcs h
          refine ⟨v, y, hv, hk, ?_⟩
          have e2 : a.tmps.getD ad undef = .pointer (some (q.add _)) := e1
          simp only [runRV, e2, asAddr, Sem.run_bind, Sem.run_pure, Result.andThen_ok, hrun w (Old.refl w)]
        · exact h.elim
      · cases hy
    · cases hy

theorem resR_sound {N : Nat} {E0 : Env} {w0 : World} {fr : Fr} {σ : AH} {E : Env} {a : Act} {w : World} (s : St N E0 w0 fr σ E a w) : ∀ {rs : List ResultVar} {ys : List RV}, cRVs P rs = some ys → ∀ {K : List AV → Prop}, resR σ fr ys K →
    ∃ vs l, RepL w E vs l ∧ K l ∧ (rs.mapM (runRV a.tmps)).run P w = .ok vs w
  | [], ys, hc, K, h => by
    simp [cRVs] at hc; subst hc
    exact ⟨[], [], .nil, h, by simp⟩
  | r :: rs, ys, hc, K, h => by
    simp only [cRVs] at hc
    split at hc
    · rename_i y ys' hy hys
      cases hc
      have h' : rv1 σ fr y (fun x => resR σ fr ys' fun l => K (x :: l)) := by
        cases y <;> exact h
      obtain ⟨v, x, hv, hk, hrun⟩ := rv1_sound s hy h'
      obtain ⟨vs, l, h1, h2, h3⟩ := resR_sound s hys hk
      refine ⟨v :: vs, x :: l, .cons hv h1, h2, ?_⟩
      rw [List.mapM_cons]
      simp only [Sem.run_bind, hrun, Result.andThen_ok, h3, Sem.run_pure]
    · cases hc

omit [Zone] in
theorem results_run {fn : Func} {tmps : Array Value} {w : World} {vs : List Value} (h : (fn.results.toList.mapM (runRV tmps)).run P w = .ok vs w) : (results fn tmps).run P w = .ok (if h : vs.toArray.size = 1 then vs.toArray[0] else .tuple vs.toArray) w := by
  have e : (fun r : ResultVar => (match r with
    | .tmp t => pure (tmps.getD t undef)
    | .cell a t => do loadVar t (← asAddr (tmps.getD a undef)) : Sem Value)) = runRV tmps := by
    funext r; cases r <;> rfl
  unfold results
  rw [Array.mapM_eq_mapM_toList]
  have h2 : (List.toArray <$> fn.results.toList.mapM (runRV tmps)).run P w = .ok vs.toArray w := by
    rw [Sem.run_map, h]; rfl
  rw [← e] at h2
  simp only [Sem.run_bind]
  refine (congrArg (fun q => Result.andThen q _) h2).trans ?_
  rfl

theorem pack_ok {w : World} {E : Env} {vs : List Value} {l : List AV} (h : RepL w E vs l) : Rep w E (if h : vs.toArray.size = 1 then vs.toArray[0] else .tuple vs.toArray) (packA l) := by
  match h with
  | .nil => exact .tup _ _ (by simpa using RepL.nil)
  | .cons a .nil => exact a
  | .cons a (.cons b t) =>
    rw [dif_neg (by simp)]
    exact .tup _ _ (by simpa using RepL.cons a (.cons b t))

end

/-- A contract out of a body. -/
theorem call_of_body {P : Program} (hm : P.follows .mixedOrders = true) {f : Nat} {hs : Hs} {F : FC} (hc : compF P f hs = some F) {args : List AV} (ha : args.length ≤ F.n) {σ : AH} {Q : AV → AH → Prop}
    (h : bodyA (CallS P) F.cmd F.res args σ Q) : CallS P f args σ Q := by
  unfold compF at hc
  split at hc
  · rename_i fn hfn
    split at hc
    · rename_i c hb
      split at hc
      · rename_i cmd hs' r hcomp hres
        split at hc
        · rename_i hname
          cases hc
          refine ⟨⟨fn, hfn, by rw [hb]; rfl, hname⟩, ?_⟩
          intro z w E cs hr hrep
          have hlen := hrep.length
          refine calls_of_wp hfn hb ?_
          have s0 : St fn.ntmps E w (fr0 0 args) σ E { tmps := cs.toArray ++ Array.replicate (fn.ntmps - cs.toArray.size) undef, defers := [] } w := by
            refine ⟨rfl, ?_, ?_, hr, Step.refl _ _⟩
            · simp only [Array.size_append, Array.size_replicate, List.size_toArray]
              simp only [] at ha
              omega
            · intro n x hx
              obtain ⟨i, rfl, hi⟩ := fr0_get args 0 n x hx
              obtain ⟨v, hv, hrv⟩ := hrep.get i x hi
              have : (cs.toArray ++ Array.replicate (fn.ntmps - cs.toArray.size) undef).getD (0 + i) undef = v := by
                have hlt : i < cs.length := (List.getElem?_eq_some_iff.1 hv).1
                rw [Nat.zero_add, Array.getD_eq_getD_getElem?, Array.getElem?_append_left (by simpa using hlt)]
                simp [hv]
              rw [this]; exact hrv
          refine wp_mono (awp_sound hm hcomp s0 h) ?_
          rintro e a1 w1 hp
          have fin : ∀ {fr1 : Fr} {σ1 : AH} {E1 : Env}, St fn.ntmps E w fr1 σ1 E1 a1 w1 → (resR σ1 fr1 r fun l => Q (packA l) σ1) → a1.defers = [] ∧ ∃ v, (results fn a1.tmps).run P w1 = .ok v w1 ∧
              (∃ v' E' x σ', Ending.returned v = .returned v' ∧ Rep w1 E' v' x ∧ Rel σ' E' w1 ∧ Step E w E' w1 ∧ Q x σ') := by
            intro fr1 σ1 E1 s1 hq
            obtain ⟨vs, l, h1, h2, h3⟩ := resR_sound s1 hres hq
            refine ⟨s1.defers, _, ?_, _, E1, packA l, σ1, rfl, pack_ok h1, s1.rel, s1.step, h2⟩
            exact results_run h3
          cases e with
          | normal => obtain ⟨fr1, σ1, E1, s1, h1⟩ := hp; exact fin s1 h1
          | ret => obtain ⟨fr1, σ1, E1, s1, h1⟩ := hp; exact fin s1 h1
          | exit i => obtain ⟨fr1, σ1, E1, s1, h1⟩ := hp; exact h1.elim
          | goto l => exact hp.elim
          | panic ch => exact hp.elim
          | outgrown => exact hp.elim
        · cases hc
      · cases hc
    · cases hc
  · cases hc

end Go.Proofs.Ytjbfdhnfdehdeaa.V
