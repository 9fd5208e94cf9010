/-
  VE: a function's code as commands, and that the commands' precondition gives the code's: regions, tests, blocks, loops, whole functions.
-/
import Derived.Test.YtppccaacbpkgiaaVD6
import Derived.Test.YtppccaacbpkgiaaVK2
import Derived.LoopN
import Derived.Scope
import Derived.RangeFuncLeaves
import Derived.RangeFuncSeq
import Derived.RangeFuncRecord
import Derived.OrdersIn
import Derived.LoopNIn
import Derived.TacticsIn
namespace Go.Proofs.Ytppccaacbpkgiaa.V
open Go Go.RowKit
variable [Zone]
set_option linter.unusedSimpArgs false
set_option linter.unusedVariables false

/-! ### From code to commands -/
def cGuard (ops : Array Oper) : Option (Nat × Bool) → Option (Option (Nat × Bool))
  | none => some none
  | some (j, b) => match (ops[j]?).bind (·.dst) with
    | some t => some (some (t, b))
    | none => none

def cInstr (P : Program) (o : Op) : Option (RI ⊕ EI) :=
  match cRI P o with
  | some i => some (.inl i)
  | none => (cEI P o).map .inr

def okDst (N : Nat) : Option Nat → Bool
  | none => true
  | some d => d < N

def cReg (P : Program) (N : Nat) (ops : Array Oper) : List Oper → Option (List GI)
  | [] => some []
  | o :: r => match cInstr P o.op, cGuard ops o.guard, cReg P N ops r with
    | some i, some g, some gs => if okDst N o.dst then some ({ dst := o.dst, guard := g, i := i } :: gs) else none
    | _, _, _ => none

/-! ### An order for a region whose order is drawn -/
def mask (acc : List Nat) (es : List Edge) : Nat := es.foldl (fun s e => if Region.binds .any e then s ||| 2 ^ e.on ||| acc.getD e.on 0 else s) 0
def closG : List Oper → List Nat → List Nat
  | [], acc => acc
  | o :: r, acc => closG r (acc ++ [mask acc o.after.toList])

def oisG (cl : List Nat) (gs : List GI) : List Nat → List Nat → Option (List OI)
  | [], _ => some []
  | i :: r, done => match gs[i]?, oisG cl gs r (done ++ [i]) with
    | some g, some l => some ({ ix := i, g := g, chk := (match g.i with | .inl _ => [] | .inr _ => done.filter fun j => !(cl.getD i 0).testBit j), keep := false } :: l)
    | _, _ => none
def freeB (d : Option Nat) (l : List Opd) : Bool :=
  match d with
  | none => true
  | some n => l.all fun | .t m => m != n | .c _ => true
def apartB (a b : OI) : Bool :=
  a.g.q && (match a.g.dst, b.g.dst with | some n, some m => n != m | _, _ => true) && freeB a.g.dst b.g.opds && freeB b.g.dst a.g.opds && (b.g.q || b.chk.contains a.ix)
def pairsB (cl : List Nat) : List OI → Bool
  | [] => true
  | a :: r => (r.all fun b => (cl.getD b.ix 0).testBit a.ix || apartB a b) && pairsB cl r
def topoB (ops : Array Oper) : List OI → List Nat → Bool
  | [], _ => true
  | o :: r, done => (match ops[o.ix]? with | some p => p.after.toList.all fun e => !Region.binds .any e || done.contains e.on | none => false) && !done.contains o.ix && topoB ops r (o.ix :: done)
def sureB (o : OI) : Bool := match o.g.i with | .inl i => i.sure | .inr _ => true
def ordOkB (ops : Array Oper) (cl : List Nat) (F : List OI) : Bool :=
  ((List.range ops.size).all fun i => F.any fun o => o.ix == i) && topoB ops F [] && pairsB cl F && F.all sureB && F.all fun o => o.keep || F.all fun o' => !o'.chk.contains o.ix

def cOrd (ops : Array Oper) (gs : List GI) (ord : List Nat) : Option (List OI) :=
  match oisG (closG ops.toList []) gs ord [] with
  | some l => if ordOkB ops (closG ops.toList []) (l.map fun o => { o with keep := l.any fun o' => o'.chk.contains o.ix }) then some (l.map fun o => { o with keep := l.any fun o' => o'.chk.contains o.ix }) else none
  | none => none

/-- Each waits for earlier ones alone. -/
def depsOf (o : Oper) : List Nat := (o.after.toList.filter fun e => Region.binds .any e).map (·.on)
def lowB (ops : Array Oper) : Bool := (List.range ops.size).all fun i => match ops[i]? with | some o => (depsOf o).all fun j => Nat.blt j i | none => true
def parG (ops : Array Oper) : List GI → Nat → List OI
  | [], _ => []
  | g :: r, i => ⟨i, g, (match ops[i]? with | some o => depsOf o | none => []), false⟩ :: parG ops r (i + 1)

abbrev Hs := List (List Nat)

/-- Code that may stand in a round. -/
def rok : Code → Bool
  | .seq x y => rok x && rok y
  | .cond _ x y => rok x && rok y
  | .block _ x => rok x
  | .loop x => rok x
  | .rangeFunc _ _ _ _ => false
  | .scope _ => false
  | _ => true
def comp (P : Program) (N : Nat) : Code → Hs → Option (Cmd × Hs)
  | .skip, h => some (.skip, h)
  | .region _ ops false, h => match cReg P N ops ops.toList with
    | some gs => match h with
      | k :: h => some (.seq (.reg gs) (.keep k), h)
      | [] => none
    | none => some (.stuck, h)
  | .region _ ops true, h => match cReg P N ops ops.toList with
    | some gs => match h with
      | k :: ord :: h => match cOrd ops gs ord with
        | some l => some (.seq (.ord l) (.keep k), h)
        | none => if lowB ops then some (.seq (.par (parG ops gs 0)) (.keep k), h) else none
      | _ => none
    | none => some (.stuck, h)
  | .rangeFunc g ps x y, h => match cOpd g, comp P N x h with
    | some c, some (a, h) => match comp P N y h with
      | some (b, h) => if rok x && rok y && ps.all (fun p => decide (p < N)) then some (.rfun c ps.toList a b, h) else none
      | none => none
    | _, _ => none
  | .seq x y, h => match comp P N x h with
    | some (a, h) => match comp P N y h with
      | some (b, h) => some (.seq a b, h)
      | none => none
    | none => none
  | .cond c x y, h => match cOpd c, comp P N x h with
    | some c, some (a, h) => match comp P N y h with
      | some (b, h) => some (.cond c a b, h)
      | none => none
    | _, _ => none
  | .block id x, h => match comp P N x h with
    | some (a, h) => some (.block id a, h)
    | none => none
  | .loop x, h => match h with
    | k :: h => match comp P N x h with
      | some (a, h) => some (.loop k a, h)
      | none => none
    | [] => none
  | .exit id, h => some (.exit id, h)
  | .ret, h => some (.ret, h)
  | .scope x, h => comp P N x h
  | .label _, h => some (.skip, h)
  | _, _ => none

omit [Zone] in
theorem cReg_len {P : Program} {N : Nat} {ops : Array Oper} : ∀ {l : List Oper} {gs : List GI}, cReg P N ops l = some gs → gs.length = l.length
  | [], gs, h => by simp [cReg] at h; subst h; rfl
  | o :: l, gs, h => by
    simp only [cReg] at h
    split at h
    · split at h
      · rename_i hgs _; cases h; simp [cReg_len hgs]
      · cases h
    · cases h

/-! ### Frames -/
omit [Zone] in
theorem Fr.get_put (fr : Fr) (n : Nat) (x : AV) (m : Nat) : (fr.put n x).get m = if m = n then some x else fr.get m := by
  induction fr with
  | nil => simp [Fr.put, Fr.get]
  | cons p r ih =>
    obtain ⟨k, y⟩ := p
    simp only [Fr.put]
    split
    · simp only [Fr.get]
    · split
      · rename_i h1 h2
        subst h2
        simp only [Fr.get]
        split <;> simp_all
      · rename_i h1 h2
        simp only [Fr.get]
        split
        · rename_i h3
          subst h3
          rw [if_neg (fun q => h2 q.symm)]
        · rw [ih]

omit [Zone] in
theorem Fr.get_keep (l : List Nat) (fr : Fr) (n : Nat) {x : AV} (h : (fr.keep l).get n = some x) : fr.get n = some x := by
  have key : (fr.keep l).get n = if l.contains n then fr.get n else none := by
    induction fr with
    | nil => simp [Fr.keep, Fr.get]
    | cons p r ih =>
      obtain ⟨m, y⟩ := p
      simp only [Fr.keep]
      split
      · rename_i hc
        simp only [Fr.get]
        split
        · rename_i e; subst e; rw [if_pos hc]
        · exact ih (by
            have := h; simp only [Fr.keep, hc, if_true, Fr.get] at this; rename_i e; rwa [if_neg e] at this)
      · rename_i hc
        rw [ih (by have := h; simp only [Fr.keep, hc] at this; exact this)]
        simp only [Fr.get]
        split
        · rename_i hn
          split
          · rename_i e; subst e; exact absurd hn hc
          · rfl
        · rfl
  rw [key] at h
  split at h
  · exact h
  · cases h

section
variable {P : Program} {N : Nat}

/-- What waits: the blocks of the ranges over functions, of no deferred call. -/
def Marks (w0 : World) (ds : List Deferred) (E : Env) (w : World) : Prop :=
  ∃ Ds : List Nat, ds = Ds.map (fun D => { target := .collected D, args := #[] }) ∧ Ds.Nodup ∧ ∀ D, D ∈ Ds → w0.heap.size ≤ D ∧ w.heap[D]? = some (.deferred (some [])) ∧ ¬ EW E D
omit [Zone] in
theorem Marks.nil (w0 : World) (E : Env) (w : World) : Marks w0 [] E w := ⟨[], rfl, List.nodup_nil, by simp⟩
omit [Zone] in
theorem Marks.step {w0 : World} {ds : List Deferred} {E : Env} {w : World} {E' : Env} {w' : World} (h : Marks w0 ds E w) (hs : Step E w E' w') : Marks w0 ds E' w' := by
  obtain ⟨Ds, h1, h2, h3⟩ := h
  refine ⟨Ds, h1, h2, fun D hD => ?_⟩
  obtain ⟨k1, k2, k3⟩ := h3 D hD
  have hlt := (Array.getElem?_eq_some_iff.1 k2).1
  refine ⟨k1, (hs.block D hlt k3).trans k2, fun q => ?_⟩
  rcases hs.own D q with q | q
  · exact k3 q
  · omega
/-- A state of a walk, begun at (E0, w0). -/
structure St (N : Nat) (E0 : Env) (w0 : World) (fr : Fr) (σ : AH) (E : Env) (a : Act) (w : World) : Prop where
  defers : Marks w0 a.defers E w
  size : a.tmps.size = N
  frame : FrOk w E fr a
  rel : Rel σ E w
  step : Step E0 w0 E w

omit [Zone] in
theorem getD_set (a : Array Value) (d n : Nat) (v : Value) (h : d < a.size) : (a.setIfInBounds d v).getD n undef = if n = d then v else a.getD n undef := by
  simp only [Array.getD_eq_getD_getElem?, Array.getElem?_setIfInBounds]
  split
  · rename_i e; subst e; simp [h]
  · rename_i e; rw [if_neg (fun q => e q.symm)]

theorem St.put {E0 : Env} {w0 : World} {fr : Fr} {σ : AH} {E : Env} {a : Act} {w : World} (s : St N E0 w0 fr σ E a w) {σ' : AH} {E' : Env} {w' : World} (hs : Step E w E' w') (hr : Rel σ' E' w') {d : Option Nat} (hd : okDst N d = true) {v : Value} {x : AV} (hv : Rep w' E' v x) :
    St N E0 w0 (fr.putO d x) σ' E' (a.put d v) w' := by
  cases d with
  | none => exact ⟨s.defers.step hs, s.size, fun n y h => (s.frame n y h).step hs, hr, s.step.trans hs⟩
  | some d =>
    simp only [okDst, decide_eq_true_eq] at hd
    refine ⟨s.defers.step hs, ?_, ?_, hr, s.step.trans hs⟩
    · simp [Act.put, s.size]
    · intro n y h
      simp only [Fr.putO] at h
      rw [Fr.get_put] at h
      simp only [Act.put]
      rw [getD_set _ _ _ _ (by rw [s.size]; exact hd)]
      split at h
      · rename_i e; rw [if_pos e]; cases h; exact hv
      · rename_i e; rw [if_neg e]; exact (s.frame n y h).step hs

theorem St.keep {E0 : Env} {w0 : World} {fr : Fr} {σ : AH} {E : Env} {a : Act} {w : World} (s : St N E0 w0 fr σ E a w) (l : List Nat) : St N E0 w0 (fr.keep l) σ E a w :=
  ⟨s.defers, s.size, fun n y h => s.frame n y (Fr.get_keep l fr n h), s.rel, s.step⟩

theorem rep_undef (w : World) (E : Env) : Rep w E undef (.tup []) := .tup #[] [] .nil

theorem guard_ok {E0 : Env} {w0 : World} {fr : Fr} {σ : AH} {E : Env} {a : Act} {w : World} (s : St N E0 w0 fr σ E a w) {ops : Array Oper} {o : Oper} {g : Option (Nat × Bool)} (hg : cGuard ops o.guard = some g) {run : (AV → AH → Prop) → Prop} {K : AV → AH → Prop} (h : guardM fr g σ run K) :
    (Region.wanted o (yielded ops a.tmps) = true ∧ run K) ∨ (Region.wanted o (yielded ops a.tmps) = false ∧ K (.tup []) σ) := by
  unfold Region.wanted
  cases ho : o.guard with
  | none =>
    rw [ho] at hg
    simp only [cGuard, Option.some.injEq] at hg
    subst hg
    exact .inl ⟨rfl, h⟩
  | some p =>
    obtain ⟨j, b⟩ := p
    rw [ho] at hg
    simp only [cGuard] at hg
    split at hg
    · rename_i t ht
      cases hg
      unfold guardM at h
      simp only [] at h
      split at h
      · rename_i c hc
        have hv := (s.frame t _ hc).bool_inv
        have hy : yielded ops a.tmps j = some c := by
          unfold yielded
          rw [ht]
          simp only [Option.bind_some]
          have : a.tmps[t]? = some (.bool c) := by
            rw [Array.getD_eq_getD_getElem?] at hv
            cases hq : a.tmps[t]? with
            | none => rw [hq] at hv; cases hv
            | some u => rw [hq] at hv; simp only [Option.getD_some] at hv; rw [hv]
          rw [this]
        simp only [hy]
        cases e : c == b
        · rw [e] at h; exact .inr ⟨by simpa using e, h⟩
        · rw [e] at h; exact .inl ⟨by simpa using e, h⟩
      · rename_i hc
        obtain ⟨vs, hv, hl⟩ := (s.frame t _ hc).tup_inv
        have hy : yielded ops a.tmps j = none := by
          unfold yielded
          rw [ht]
          simp only [Option.bind_some]
          have e : a.tmps[t]? = none ∨ a.tmps[t]? = some (.tuple vs) := by
            rw [Array.getD_eq_getD_getElem?] at hv
            cases hq : a.tmps[t]? with
            | none => exact .inl rfl
            | some u => rw [hq] at hv; simp only [Option.getD_some] at hv; rw [hv]; exact .inr rfl
          rcases e with e | e <;> rw [e]
        simp only [hy]
        exact .inr ⟨rfl, h⟩
      · exact h.elim
    · cases hg

/-- The calls by contract. -/
def CallS (P : Program) : CallP := fun f l σ K => Bodied P f ∧ ACall P f l σ K

/-- The fence of all functions, in a round or not. -/
def FW : Option Nat → Fence
  | none => Fence.wide
  | some l => Fence.wide.inRound l
omit [Zone] in
theorem FW_fn (ro : Option Nat) (f : FuncId) : (FW ro).fn f := by cases ro <;> exact trivial
omit [Zone] in
theorem FW_depth (ro : Option Nat) : (FW ro).depth = none := by cases ro <;> rfl
omit [Zone] in
theorem FW_fenced (ro : Option Nat) : Machine.fenced P (FW ro) = Machine.fenced P Fence.wide := by cases ro <;> rfl
omit [Zone] in
theorem FW_calls {ro : Option Nat} {n : Nat} {f : FuncId} {args : Array Value} {w : World} {R : Ending → World → Prop} (h : Calls P f args w R) : CallsIn (FW ro) n P f args w R := by
  cases ro with
  | none => exact callsIn_wide.2 h
  | some l => exact (callsIn_wide.2 h : CallsIn Fence.wide n P f args w R)
omit [Zone] in
theorem FW_rows {ro : Option Nat} {n : Nat} {row : String} {args : Array Value} {w : World} {R : Value → World → Prop} (h : Rows P row args w R) : RowsIn (FW ro) n P row args w R := fun c cs _ => by
  obtain ⟨v, w', h1, h2⟩ := h c cs
  refine ⟨v, w', h1, ?_⟩
  rw [FW_fenced]
  exact stepsIn_wide.2 h2
omit [Zone] in
theorem wp_in {ro : Option Nat} {o : Oper} {a : Act} {w : World} {next : Act → World → Prop} {Q : Exit → Act → World → Prop} (hd : ∀ c, o.op ≠ .defer c) (h : o.wp P a w next Q) : o.wpIn (FW ro) 0 P a w next Q := by
  refine ⟨fun f _ => FW_fn ro f, ?_⟩
  have e : o.semAt (FW ro).round a.eval = execOp a.eval o := Oper.semAt_eq (FW ro).round a.eval o hd
  rw [e]
  unfold Oper.wp at h
  have hdep : ∀ (p : Prop), (FW ro).depth.isSome = true → p := fun p q => by rw [FW_depth] at q; cases q
  generalize (execOp a.eval o).run P w = r at *
  cases r with
  | ok x w' => cases x <;> simp only [Oper.upon, Oper.uponIn] at h ⊢ <;> first | exact h | exact ⟨hdep _, FW_calls h⟩ | exact ⟨hdep _, FW_rows h⟩ | exact h.elim
  | halt x w' => cases x <;> simp only [Oper.upon, Oper.uponIn] at h ⊢ <;> exact h
omit [Zone] in
theorem cInstr_nodefer {o : Oper} {g : RI ⊕ EI} (h : cInstr P o.op = some g) : ∀ c, o.op ≠ .defer c := by
  intro c hc
  rw [hc] at h
  simp [cInstr, cRI, cEI] at h

/-- What calls ask, at worlds that lie behind (E0, w0). -/
structure CSound (P : Program) (ro : Option Nat) (E0 : Env) (w0 : World) (C : CallP) : Prop where
  fn : ∀ f l σ K, f ≠ yno → C f l σ K → CallS P f l σ K
  yl : ∀ l σ K, C yno l σ K → ∃ id xs lr, l = .rsl id 0 1 0 none :: xs ∧ σ[id]? = some (lblk lr) ∧ ∀ (E : Env) (w : World) (cs : List Value) (g : Nat) (m : MI) (c : Nat), Step E0 w0 E w → Rel σ E w → RepL w E cs xs → E[id]? = some m → m.place = some (g, c) → w.heap[g]? = some (.loop lr) →
    YieldAt (FW ro) 0 P g cs.toArray w fun e w' => ∃ v E' x σ', e = .returned v ∧ Rep w' E' v x ∧ Rel σ' E' w' ∧ Step E w E' w' ∧ K x σ'
theorem CSound.calls {ro : Option Nat} {E0 : Env} {w0 : World} : CSound P ro E0 w0 (CallS P) := ⟨fun f l σ K _ h => h, fun l σ K h => absurd rfl h.1.1⟩
omit [Zone] in
theorem cEI_yno {o : Op} {args : List Opd} (h : cEI P o = some (.call yno args)) : False := by
  unfold cEI at h
  split at h
  case h_17 f' args' ts =>
    split at h
    · split at h
      · rename_i hb
        cases h
        exact hb.2.2 rfl
      · cases h
    · cases h
  all_goals (revert h; first | (repeat' split) <;> simp | simp)
theorem ef_in {ro : Option Nat} {C : CallP} {E0 : Env} {w0 : World} (hC : CSound P ro E0 w0 C) {w : World} {E : Env} {σ : AH} {fr : Fr} {a : Act} {K : AV → AH → Prop} {o : Oper} {i : EI} (hi : cInstr P o.op = some (.inr i)) (hc : cEI P o.op = some i) (hf : FrOk w E fr a) (hr : Rel σ E w) (hs0 : Step E0 w0 E w) (h : efI C σ fr i K) {next : Act → World → Prop} {Q : Exit → Act → World → Prop}
    (hn : ∀ v x w' E' σ', Rep w' E' v x → Rel σ' E' w' → Step E w E' w' → K x σ' → next (a.put o.dst v) w') : o.wpIn (FW ro) 0 P a w next Q := by
  have plain : efI (fun f l σ K => Bodied P f ∧ ACall P f l σ K) σ fr i K → o.wpIn (FW ro) 0 P a w next Q := fun h => wp_in (cInstr_nodefer hi) (ef_sound hc hf hr h hn)
  cases i
  case call f args =>
    refine plain ?_
    simp only [efI] at h ⊢
    split at h
    · refine hC.fn _ _ _ _ (fun e => ?_) h
      subst e
      exact cEI_yno hc
    · exact h.elim
  case callv f args =>
    have hcv := hc
    unfold cEI at hc
    split at hc
    case h_18 t args' ts ho =>
      obtain ⟨l, hl, he⟩ := Option.map_eq_some_iff.1 hc
      cases he
      simp only [efI] at h
      have h1 := evR_ok (x := .tmp t) hf rfl h
      obtain ⟨z, hz, h2⟩ := h1
      unfold evR at h
      split at h
      · rename_i v hv
        split at h
        · rename_i g caps
          refine plain ?_
          simp only [efI]
          unfold evR
          rw [hv]
          split at h
          · rename_i zs hzs
            simp only [hzs]
            refine hC.fn _ _ _ _ (fun e => ?_) h
            have hz2 := evR_ok (K := fun y => y = .fn g caps) (x := .tmp t) hf rfl (by unfold evR; rw [hv])
            obtain ⟨_, hr2, rfl⟩ := hz2
            exact hr2.fn_ne e
          · exact h.elim
        · rename_i id gen
          split at h
          · rename_i zs hzs
            have hrep := evs_ok hf hl hzs
            obtain ⟨id', xs, lr, e1, e2, hy⟩ := hC.yl _ _ _ h
            cases e1
            obtain ⟨m, hm, hok⟩ := hr.blk _ _ e2
            obtain ⟨k1, k2, k3, k4, k5, k6, g, c, k7, k8, k9⟩ := hok.isExt rfl
            have hz2 := evR_ok (K := fun y => y = .rsl id 0 1 0 none) (x := .tmp t) hf rfl (by unfold evR; rw [hv])
            obtain ⟨_, hr2, rfl⟩ := hz2
            have hval : a.eval (.tmp t) = .func (.yield g) #[] #[] := hr2.yield_inv hm k1 k2 k7
            obtain ⟨fn, tmps, assign, body, hyr, hR⟩ := hy E w _ g m c hs0 hr hrep hm k7 k9
            refine ⟨fun f _ => FW_fn ro f, ?_⟩
            rw [Oper.semAt_eq (FW ro).round a.eval o (cInstr_nodefer hi)]
            have e3 : args'.map a.eval = (args'.toList.map a.eval).toArray := by apply Array.ext'; simp
            have hrun : (execOp a.eval o).run P w = .ok (.round g fn tmps assign body) w := by
              unfold execOp
              simp only [ho, resolve, hval, Deferred.ofValue, invoke, Sem.run_bind, Sem.run_pure, Result.andThen_ok, Array.empty_append]
              rw [e3]
              exact hyr
            rw [hrun, Oper.uponIn_round]
            refine ⟨(fun q => by rw [FW_depth] at q; cases q), hR.mono ?_⟩
            rintro e w' ⟨v, E', x, σ', rfl, h3, h4, h5, h6⟩
            exact hn v x w' E' σ' h3 h4 h5 h6
          · exact h.elim
        · rename_i g pre caps
          refine plain ?_
          simp only [efI]
          unfold evR
          rw [hv]
          split at h
          · rename_i zs hzs
            simp only [hzs]
            refine hC.fn _ _ _ _ (fun e => ?_) h
            have hz2 := evR_ok (K := fun y => y = .fnb g pre caps) (x := .tmp t) hf rfl (by unfold evR; rw [hv])
            obtain ⟨_, hr2, rfl⟩ := hz2
            exact hr2.fnb_inv.1 e
          · exact h.elim
        · exact h.elim
      · exact h.elim
    all_goals (exfalso; revert hc; first | (repeat' split) <;> simp | simp)
  all_goals exact plain h

theorem call_run {w : World} {E : Env} {fr : Fr} {a : Act} {o : Oper} {f : Nat} {args : List Opd} (hc : cEI P o.op = some (.call f args)) (hf : FrOk w E fr a) {zs : List AV} (hz : evs fr args = some zs) :
    ∃ cs : List Value, RepL w E cs zs ∧ ∀ w', (execOp a.eval o).run P w' = .ok (.enter f cs.toArray) w' := by
  unfold cEI at hc
  split at hc
  case h_17 f' args' ts ho =>
    split at hc
    · rename_i fn l hfn hl
      split at hc
      · rename_i hb
        cases hc
        refine ⟨_, evs_ok hf hl hz, fun w' => ?_⟩
        have e1 : args'.map a.eval = (args'.toList.map a.eval).toArray := by apply Array.ext'; simp
        unfold execOp
        simp only [ho, resolve, Act.eval, Deferred.ofValue, invoke, Sem.run_bind, Sem.run_pure, Result.andThen_ok, Array.append_empty, Array.empty_append]
        have := callFunc_run hfn hb.1 hb.2.1 (args'.map a.eval) w'
        rw [← e1]
        simpa [Array.empty_append] using this
      · cases hc
    · cases hc
  all_goals (exfalso; revert hc; first | (repeat' split) <;> simp | simp)

theorem regI_sound {ro : Option Nat} {C : CallP} {E0 : Env} {w0 : World} (hC : CSound P ro E0 w0 C) {ops : Array Oper} {Q : Exit → Act → World → Prop} {K : Fr → AH → Prop} (hQ : ∀ fr σ E a w, St N E0 w0 fr σ E a w → K fr σ → Q .normal a w) :
    ∀ {l : List Oper} {gs : List GI}, cReg P N ops l = some gs → ∀ {fr : Fr} {σ : AH} {E : Env} {a : Act} {w : World}, St N E0 w0 fr σ E a w → regI C gs fr σ K → wpListIn (FW ro) 0 P ops Q l a w
  | [], gs, hc, fr, σ, E, a, w, s, h => by
    simp [cReg] at hc; subst hc
    exact hQ fr σ E a w s h
  | o :: l, gs, hc, fr, σ, E, a, w, s, h => by
    simp only [cReg] at hc
    split at hc
    · rename_i i g gs' hi hg hgs
      split at hc
      · rename_i hd
        cases hc
        simp only [regI, Fr.putOK_eq] at h
        unfold wpListIn
        rcases guard_ok s hg h with ⟨hw, h⟩ | ⟨hw, h⟩
        · rw [if_pos hw]
          have hi0 := hi
          unfold cInstr at hi
          split at hi
          · rename_i ri hri
            cases hi
            obtain ⟨v, x, hv, hk, hrun⟩ := ri_sound hri s.frame s.rel h
            refine wp_in (cInstr_nodefer hi0) ?_
            unfold Oper.wp
            rw [hrun w (Old.refl w), Oper.upon_value]
            exact regI_sound hC hQ hgs (s.put (Step.refl _ _) s.rel hd hv) hk
          · obtain ⟨ei, hei, rfl⟩ := Option.map_eq_some_iff.1 hi
            simp only [runI] at h
            refine ef_in hC hi0 hei s.frame s.rel s.step h ?_
            intro v x w' E' σ' hv hr hs hk
            exact regI_sound hC hQ hgs (s.put hs hr hd hv) hk
        · rw [if_neg (by rw [hw]; simp)]
          refine ⟨fun f _ => FW_fn ro f, ?_⟩
          exact regI_sound hC hQ hgs (s.put (Step.refl _ _) s.rel hd (rep_undef _ _)) h
      · cases hc
    · cases hc

/-! ### Regions whose order is drawn -/
omit [Zone] in
theorem ew_nil (g : Nat) : ¬ EW [] g := by
  rintro ⟨id, m, c, h, _⟩; simp at h

theorem rel_nil (w : World) (h0 : Zone.base ≤ w.heap.size) : Rel [] [] w := ⟨rfl, h0, fun id m g c h => by simp at h, fun id b h => by simp at h, fun id id' m m' g c c' _ h => by simp at h⟩

theorem RepV.weaken {w : World} {W W' : Nat → Prop} (h : ∀ g, W' g → W g) {v : Value} {x : AV} (hv : RepV w W v x) : RepV w W' v x :=
  hv.keep ⟨fun _ _ _ _ => rfl, fun g hg => .inl (h g hg)⟩

omit [Zone] in
theorem derefC_ok {z' z : Zone} {σ : AH} {E : Env} {w : World} (hr : Rel σ E w) {x y : AV} (h : derefC σ x = some y) {v : Value} (hv : Rep w E v x) : @RepV z' w (EW []) v y := by
  unfold derefC at h
  split at h
  · rename_i id gen off len cap
    split at h
    · rename_i b hb
      split at h
      · rename_i hc
        cases h
        obtain ⟨E', s, r, hv'⟩ := frzC_ok hr (x := .rsl id gen off len cap) (y := .sl b.sz ((b.els.drop off).take len) true) (σ' := σ.set id { b with wr := false }) (by
          simp only [frzC, hb]; rw [if_pos hc]) hv
        exact hv'.untag (fun g hg => absurd hg (ew_nil g))
      · cases h
    · cases h
  · split at h
    · rename_i hz
      cases h
      exact (flat_rep hv hz).untag (fun g hg => absurd hg (ew_nil g))
    · cases h

omit [Zone] in
theorem derefCs_ok {z' z : Zone} {σ : AH} {E : Env} {w : World} (hr : Rel σ E w) : ∀ {xs ys : List AV} {cs : List Value}, derefCs σ xs = some ys → RepL w E cs xs → @RepVL z' w (EW []) cs ys
  | [], ys, cs, h, hv => by simp [derefCs] at h; subst h; cases hv; exact @RepVL.nil z' w (EW [])
  | x :: xs, ys, cs, h, hv => by
    simp only [derefCs] at h
    split at h
    · rename_i y ys' h1 h2
      cases h
      cases hv with
      | cons a b => exact @RepVL.cons z' w (EW []) _ _ _ _ (derefC_ok hr h1 a) (derefCs_ok hr h2 b)
    · cases h

omit [Zone] in
theorem derefV_ok {z' z : Zone} {σ : AH} {E : Env} {w : World} (hr : Rel σ E w) {x y : AV} (h : derefV σ x = some y) {v : Value} (hv : Rep w E v x) : @Rep z' w [] v y := by
  unfold derefV at h
  split at h
  · rename_i l
    obtain ⟨ys, hys, rfl⟩ := Option.map_eq_some_iff.1 h
    obtain ⟨cs, rfl, h1, hrep⟩ := hv.agg_inv
    exact @Rep.pure z' w [] _ _ (@RepV.agg z' w (EW []) cs ys h1 (derefCs_ok hr hys hrep))
  · exact @Rep.pure z' w [] _ _ (derefC_ok hr h hv)

omit [Zone] in
theorem derefs_ok {z' z : Zone} {σ : AH} {E : Env} {w : World} (hr : Rel σ E w) : ∀ {xs ys : List AV} {cs : List Value}, derefs σ xs = some ys → RepL w E cs xs → @RepL z' w [] cs ys
  | [], ys, cs, h, hv => by simp [derefs] at h; subst h; cases hv; exact @RepL.nil z' w []
  | x :: xs, ys, cs, h, hv => by
    simp only [derefs] at h
    split at h
    · rename_i y ys' h1 h2
      cases h
      cases hv with
      | cons a b => exact @RepL.cons z' w [] _ _ _ _ (derefV_ok hr h1 a) (derefs_ok hr h2 b)
    · cases h

/-- What a scalar's value is. -/
def valOf : AV → Value
  | .int k n => .int k n
  | .bool b => .bool b
  | .str s => .string ⟨s.toArray⟩
  | _ => undef
theorem valOf_rep {w : World} {E : Env} {x : AV} (h : NoAny x) {v : Value} (hv : Rep w E v x) : v = valOf x := by
  cases h with
  | int k n => exact hv.int_inv
  | bool b => exact hv.bool_inv
  | str s =>
    obtain ⟨b, rfl, h⟩ := hv.str_inv
    show Value.string b = Value.string ⟨s.toArray⟩
    subst h
    cases b; rfl
theorem rep_valOf {w : World} {E : Env} {x : AV} (h : NoAny x) : Rep w E (valOf x) x := by
  cases h with
  | int k n => exact .pure (.int k n)
  | bool b => exact .pure (.bool b)
  | str s => exact .pure (.str _ s (by simp))

/-! ### Any order -/
omit [Zone] in
theorem CallS.mono' {P : Program} : (CallS P).Mono := fun f l σ K K' hK h =>
  ⟨h.1, fun z w E cs hr hrep => (h.2 z w E cs hr hrep).mono fun e w' ⟨v, E', x, σ', h1, h2, h3, h4, h5⟩ => ⟨v, E', x, σ', h1, h2, h3, h4, hK x σ' h5⟩⟩

theorem op_sound {ro : Option Nat} {C : CallP} {E0 : Env} {w0 : World} (hC : CSound P ro E0 w0 C) {ops : Array Oper} {Q : Exit → Act → World → Prop} {next : Act → World → Prop} {ix : Nat} {o : Oper} (ho : ops[ix]? = some o) {g : GI} (hi : cInstr P o.op = some g.i) (hg : cGuard ops o.guard = some g.guard) (hd : okDst N o.dst = true) (he : g.dst = o.dst)
    {fr : Fr} {σ : AH} {E : Env} {a : Act} {w : World} (s : St N E0 w0 fr σ E a w) {K : AV → AH → Prop} (h : opM C g σ fr K)
    (hn : ∀ x σ' E' a' w', St N E0 w0 (fr.putO g.dst x) σ' E' a' w' → K x σ' → next a' w') : wpOpIn (FW ro) 0 P ops Q ix next a w := by
  unfold wpOpIn
  simp only [ho]
  unfold opM at h
  rcases guard_ok s hg h with ⟨hw, h⟩ | ⟨hw, h⟩
  · rw [if_pos hw]
    have hi0 := hi
    unfold cInstr at hi
    split at hi
    · rename_i ri hri
      rw [← Option.some.inj hi] at h
      obtain ⟨v, x, hv, hk, hrun⟩ := ri_sound hri s.frame s.rel h
      refine wp_in (cInstr_nodefer hi0) ?_
      unfold Oper.wp
      rw [hrun w (Old.refl w), Oper.upon_value]
      exact hn x σ E _ _ (by rw [he]; exact s.put (Step.refl _ _) s.rel hd hv) hk
    · obtain ⟨ei, hei, hi⟩ := Option.map_eq_some_iff.1 hi
      rw [← hi] at h
      rw [← hi] at hi0
      simp only [runI] at h
      refine ef_in hC hi0 hei s.frame s.rel s.step h ?_
      intro v x w' E' σ' hv hr hs hk
      exact hn x σ' E' _ _ (by rw [he]; exact s.put hs hr hd hv) hk
  · rw [if_neg (by rw [hw]; simp)]
    refine ⟨fun f _ => FW_fn ro f, ?_⟩
    exact hn _ σ E _ _ (by rw [he]; exact s.put (Step.refl _ _) s.rel hd (rep_undef _ _)) h

omit [Zone] in
theorem mask_bit {acc : List Nat} {k : Nat} : ∀ {es : List Edge} {s : Nat}, (es.foldl (fun s e => if Region.binds .any e then s ||| 2 ^ e.on ||| acc.getD e.on 0 else s) s).testBit k = true → s.testBit k = true ∨ ∃ e, e ∈ es ∧ Region.binds .any e = true ∧ (k = e.on ∨ (acc.getD e.on 0).testBit k = true)
  | [], s, h => .inl h
  | e :: es, s, h => by
    rw [List.foldl_cons] at h
    rcases mask_bit h with h | ⟨e', h1, h2⟩
    · split at h
      · rename_i hb
        rw [Nat.testBit_or, Nat.testBit_or, Bool.or_eq_true, Bool.or_eq_true] at h
        rcases h with (h | h) | h
        · exact .inl h
        · refine .inr ⟨e, by simp, hb, .inl ?_⟩
          rw [Nat.testBit_two_pow] at h
          exact (of_decide_eq_true h).symm
        · exact .inr ⟨e, by simp, hb, .inr h⟩
      · exact .inl h
    · exact .inr ⟨e', by simp [h1], h2⟩

/-- What is listed holds what it waits for. -/
def Down (ops : Array Oper) (listed : Array Bool) : Prop := ∀ (j : Nat) (o : Oper), ops[j]? = some o → listed.getD j false = true → ∀ e, e ∈ o.after.toList → Region.binds .any e = true → listed.getD e.on false = true

omit [Zone] in
theorem closG_spec {ops : Array Oper} {listed : Array Bool} (hd : Down ops listed) : ∀ {l : List Oper} {acc : List Nat}, ops.toList.drop acc.length = l →
    (∀ (j m k : Nat) (o : Oper), acc[j]? = some m → ops[j]? = some o → m.testBit k = true → (∀ e, e ∈ o.after.toList → Region.binds .any e = true → listed.getD e.on false = true) → listed.getD k false = true) →
    ∀ (j m k : Nat) (o : Oper), (closG l acc)[j]? = some m → ops[j]? = some o → m.testBit k = true → (∀ e, e ∈ o.after.toList → Region.binds .any e = true → listed.getD e.on false = true) → listed.getD k false = true
  | [], acc, _, h => h
  | p :: l, acc, hl, h => by
    have hp : ops[acc.length]? = some p := by
      have := congrArg List.head? hl
      rw [List.head?_drop] at this
      simpa using this
    refine closG_spec hd (l := l) ?_ ?_
    · rw [List.length_append, List.length_singleton, ← List.drop_drop, hl]; rfl
    · intro j m k o hj ho hk hall
      rw [List.getElem?_append] at hj
      split at hj
      · exact h j m k o hj ho hk hall
      · rename_i hge
        rw [List.getElem?_singleton] at hj
        split at hj
        · cases hj
          have e : j = acc.length := by omega
          subst e
          rw [hp] at ho; cases ho
          unfold mask at hk
          rcases mask_bit hk with hk | ⟨e, h1, h2, h3⟩
          · simp at hk
          · rcases h3 with rfl | h3
            · exact hall e h1 h2
            · cases ha : acc[e.on]? with
              | none => rw [List.getD_eq_getElem?_getD, ha] at h3; simp at h3
              | some m' =>
                rw [List.getD_eq_getElem?_getD, ha] at h3
                have hlt : e.on < ops.size := by
                  have h4 := (List.getElem?_eq_some_iff.1 ha).1
                  have h5 := (Array.getElem?_eq_some_iff.1 hp).1
                  omega
                exact h e.on m' k ops[e.on] ha (Array.getElem?_eq_getElem hlt) h3 (fun e' h6 h7 => hd e.on _ (Array.getElem?_eq_getElem hlt) (hall e h1 h2) e' h6 h7)
        · cases hj

omit [Zone] in
theorem freeB_spec {d : Option Nat} {l : List Opd} (h : freeB d l = true) : Free d l := by
  intro n hn hm
  subst hn
  have := List.all_eq_true.1 h _ hm
  simp at this
omit [Zone] in
theorem apartB_spec {a b : OI} (h : apartB a b = true) : Apart a b := by
  simp only [apartB, Bool.and_eq_true, Bool.or_eq_true] at h
  obtain ⟨⟨⟨⟨h1, h2⟩, h3⟩, h4⟩, h5⟩ := h
  refine ⟨h1, ?_, freeB_spec h3, freeB_spec h4, h5.imp id (fun h => by simpa using h)⟩
  intro n ha hb
  rw [ha, hb] at h2
  simp at h2
omit [Zone] in
theorem pairsB_spec {cl : List Nat} : ∀ {l : List OI}, pairsB cl l = true → l.Pairwise fun a b => (cl.getD b.ix 0).testBit a.ix = true ∨ Apart a b
  | [], _ => .nil
  | a :: r, h => by
    simp only [pairsB, Bool.and_eq_true] at h
    refine .cons (fun b hb => ?_) (pairsB_spec h.2)
    have := List.all_eq_true.1 h.1 b hb
    simp only [Bool.or_eq_true] at this
    exact this.imp id apartB_spec
omit [Zone] in
theorem topoB_spec {ops : Array Oper} : ∀ {l : List OI} {done : List Nat}, topoB ops l done = true → (∀ (pre : List OI) (o : OI) (post : List OI), l = pre ++ o :: post → (∃ p, ops[o.ix]? = some p ∧ ∀ e, e ∈ p.after.toList → Region.binds .any e = true → e.on ∈ done ∨ ∃ x, x ∈ pre ∧ x.ix = e.on) ∧ o.ix ∉ done ∧ ∀ x, x ∈ pre → x.ix ≠ o.ix)
  | [], done, h, pre, o, post, he => by simp at he
  | a :: l, done, h, pre, o, post, he => by
    simp only [topoB, Bool.and_eq_true] at h
    obtain ⟨⟨h1, h2⟩, h3⟩ := h
    cases pre with
    | nil =>
      simp at he
      obtain ⟨rfl, rfl⟩ := he
      split at h1
      · rename_i p hp
        refine ⟨⟨p, hp, fun e h4 h5 => .inl ?_⟩, by simpa using h2, by simp⟩
        have := List.all_eq_true.1 h1 e h4
        simpa [h5] using this
      · cases h1
    | cons b pre =>
      simp at he
      obtain ⟨rfl, rfl⟩ := he
      obtain ⟨⟨p, hp, h4⟩, h5, h6⟩ := topoB_spec h3 pre o post rfl
      refine ⟨⟨p, hp, fun e h7 h8 => ?_⟩, fun q => h5 (by simp [q]), ?_⟩
      · rcases h4 e h7 h8 with h9 | ⟨x, h9, h10⟩
        · rcases List.mem_cons.1 h9 with h9 | h9
          · exact .inr ⟨a, by simp, h9.symm⟩
          · exact .inl h9
        · exact .inr ⟨x, by simp [h9], h10⟩
      · intro x hx
        rcases List.mem_cons.1 hx with rfl | hx
        · exact fun q => h5 (by simp [q])
        · exact h6 x hx

/-- An operation as it stands in the order. -/
def GiOk (P : Program) (N : Nat) (ops : Array Oper) (o : OI) : Prop := ∃ p, ops[o.ix]? = some p ∧ cInstr P p.op = some o.g.i ∧ cGuard ops p.guard = some o.g.guard ∧ okDst N p.dst = true ∧ o.g.dst = p.dst

theorem any_sound {ro : Option Nat} {C : CallP} {E0 : Env} {w0 : World} (hC : CSound P ro E0 w0 C) (hCm : C.Mono) {ops : Array Oper} {Q : Exit → Act → World → Prop} {K : Fr → AH → Prop} (hK : Closed K) (hQ : ∀ fr σ E a w, St N E0 w0 fr σ E a w → K fr σ → Q .normal a w) {F : List OI} (hF : ordOkB ops (closG ops.toList []) F = true) (hG : ∀ o, o ∈ F → GiOk P N ops o) :
    ∀ (fuel : Nat) (listed : Array Bool) {fr : Fr} {σ : AH} {E : Env} {a : Act} {w : World} {R : List (Nat × List Ref)}, listed.size = ops.size → Down ops listed → (F.filter fun o => !listed.getD o.ix true).length = fuel → St N E0 w0 fr σ E a w →
      ordP C (F.filter fun o => !listed.getD o.ix true) fr σ R K → wpAnyIn (FW ro) 0 P .any ops Q fuel listed a w := by
  simp only [ordOkB, Bool.and_eq_true] at hF
  obtain ⟨⟨⟨⟨hall, htopo⟩, hpairs⟩, hsure⟩, hrec⟩ := hF
  have hpw := pairsB_spec hpairs
  have hsureL : SureL F := fun o ho i hi => by
    have := List.all_eq_true.1 hsure o ho
    simp only [sureB, hi] at this
    exact this
  have hin : ∀ i, i < ops.size → ∃ o, o ∈ F ∧ o.ix = i := fun i hi => by
    have := List.all_eq_true.1 hall i (List.mem_range.2 hi)
    obtain ⟨o, h1, h2⟩ := List.any_eq_true.1 this
    exact ⟨o, h1, by simpa using h2⟩
  have huniq : ∀ o, o ∈ F → ∀ o', o' ∈ F → o.ix = o'.ix → o = o' := by
    have hnd : F.Pairwise fun a b => a.ix ≠ b.ix := by
      have key : ∀ {l : List OI} {done : List Nat}, topoB ops l done = true → l.Pairwise fun a b => a.ix ≠ b.ix := by
        intro l
        induction l with
        | nil => intro _ _; exact .nil
        | cons x l ih =>
          intro done h
          have h' := h
          simp only [topoB, Bool.and_eq_true] at h
          refine .cons (fun b hb => ?_) (ih h.2)
          obtain ⟨pre, post, rfl⟩ := List.append_of_mem hb
          have := (topoB_spec h.2 pre b post rfl).2.1
          exact fun q => this (by simp [q])
      exact key htopo
    intro o ho o' ho' he
    clear hall htopo hpairs hsure hrec hpw hsureL hin hG
    induction F with
    | nil => simp at ho
    | cons x l ih =>
      cases hnd with
      | cons h1 h2 =>
        rcases List.mem_cons.1 ho with q | q <;> rcases List.mem_cons.1 ho' with q' | q'
        · rw [q, q']
        · rw [q] at he; exact absurd he (h1 _ q')
        · rw [q'] at he; exact absurd he.symm (h1 _ q)
        · exact ih h2 q q'
  intro fuel
  induction fuel with
  | zero =>
    intro listed fr σ E a w R hsz hdn hfu s h
    have hnil := List.length_eq_zero_iff.1 hfu
    rw [hnil] at h
    refine ⟨?_, hQ _ _ _ _ _ s h⟩
    cases hr : Region.ready .any ops listed with
    | nil => rfl
    | cons i r =>
      exfalso
      have hi : i ∈ Region.ready .any ops listed := by rw [hr]; simp
      obtain ⟨h1, o, h2, _⟩ := mem_ready.1 hi
      obtain ⟨p, h3, h4⟩ := hin i (Array.getElem?_eq_some_iff.1 h2).1
      have : p ∈ F.filter fun o => !listed.getD o.ix true := List.mem_filter.2 ⟨h3, by rw [h4, h1]; rfl⟩
      rw [hnil] at this; simp at this
  | succ fuel ih =>
    intro listed fr σ E a w R hsz hdn hfu s h
    refine ⟨fun hr => ?_, fun i hi => ?_⟩
    · exfalso
      cases hL : (F.filter fun o => !listed.getD o.ix true) with
      | nil => rw [hL] at hfu; simp at hfu
      | cons o r =>
        obtain ⟨l1, l2, e1, e2, e3⟩ := List.filter_eq_cons_iff.1 hL
        obtain ⟨⟨p, hp, h4⟩, _, _⟩ := topoB_spec htopo l1 o l2 e1
        have : o.ix ∈ Region.ready .any ops listed := by
          refine mem_ready.2 ⟨by simpa using e3.1, p, hp, fun e h5 h6 => ?_⟩
          rcases h4 e (by simpa using h5) h6 with h7 | ⟨x, h7, h8⟩
          · simp at h7
          · have h9 := e2 x h7
            have hlt : x.ix < listed.size := by
              obtain ⟨q, hq, _⟩ := hG x (by rw [e1]; simp [h7])
              rw [hsz]; exact (Array.getElem?_eq_some_iff.1 hq).1
            rw [← h8]
            simp only [Array.getD_eq_getD_getElem?, Array.getElem?_eq_getElem hlt, Option.getD_some] at h9 ⊢
            simpa using h9
        rw [hr] at this; simp at this
    · obtain ⟨h1, p, h2, h3⟩ := mem_ready.1 hi
      have hilt := (Array.getElem?_eq_some_iff.1 h2).1
      obtain ⟨o, ho, rfl⟩ := hin i hilt
      have hoL : o ∈ F.filter fun o => !listed.getD o.ix true := List.mem_filter.2 ⟨ho, by rw [h1]; rfl⟩
      obtain ⟨l1, l2, hL⟩ := List.append_of_mem hoL
      have hsub : ∀ x, x ∈ l1 ++ o :: l2 → x ∈ F := fun x hx => by rw [← hL] at hx; exact (List.mem_filter.1 hx).1
      have hpwL : (l1 ++ o :: l2).Pairwise fun a b => ((closG ops.toList []).getD b.ix 0).testBit a.ix = true ∨ Apart a b := by
        rw [← hL]; exact hpw.filter _
      have hap : ∀ x, x ∈ l1 → Apart x o := fun x hx => by
        have h4 := (List.pairwise_append.1 hpwL).2.2 x hx o (by simp)
        rcases h4 with h4 | h4
        · exfalso
          have hx1 : x ∈ F.filter fun o => !listed.getD o.ix true := by rw [hL]; simp [hx]
          have hx2 := (List.mem_filter.1 hx1).2
          obtain ⟨q, hq, _⟩ := hG x (List.mem_filter.1 hx1).1
          have hlt : x.ix < listed.size := by rw [hsz]; exact (Array.getElem?_eq_some_iff.1 hq).1
          cases hm : (closG ops.toList [])[o.ix]? with
          | none => rw [List.getD_eq_getElem?_getD, hm] at h4; simp at h4
          | some m =>
            rw [List.getD_eq_getElem?_getD, hm] at h4
            have := closG_spec hdn (l := ops.toList) (acc := []) rfl (by simp) o.ix m x.ix p hm h2 h4 (fun e h5 h6 => h3 e (by simpa using h5) h6)
            simp only [Array.getD_eq_getD_getElem?, Array.getElem?_eq_getElem hlt, Option.getD_some] at hx2 this
            rw [this] at hx2; simp at hx2
        · exact h4
      rw [hL] at h
      have h5 := ordP_pull hCm hK (fun x hx => hsureL x (hsub x hx)) hap h
      unfold ordP at h5
      obtain ⟨p', hp', g1, g2, g3, g4⟩ := hG o ho
      have hnew : (F.filter fun q => !(listed.setIfInBounds o.ix true).getD q.ix true) = l1 ++ l2 := by
        have e1 : (F.filter fun q => !(listed.setIfInBounds o.ix true).getD q.ix true) = (F.filter fun q => !listed.getD q.ix true).filter fun q => q.ix != o.ix := by
          rw [List.filter_filter]
          refine List.filter_congr fun q hq => ?_
          obtain ⟨q', hq', _⟩ := hG q hq
          have hlt : q.ix < listed.size := by rw [hsz]; exact (Array.getElem?_eq_some_iff.1 hq').1
          by_cases e : o.ix = q.ix
          · rw [e]; simp [hlt]
          · have e' : (q.ix != o.ix) = true := by simpa using fun h : q.ix = o.ix => e h.symm
            rw [e', Bool.true_and]
            simp only [Array.getD_eq_getD_getElem?, Array.getElem?_setIfInBounds_ne e]
        rw [e1, hL, List.filter_append, List.filter_cons]
        have hno : ∀ x, x ∈ l1 ∨ x ∈ l2 → x.ix ≠ o.ix := by
          intro x hx he
          have hxo := huniq x (hsub x (by rcases hx with h | h <;> simp [h])) o ho he
          subst hxo
          have hnd : (l1 ++ x :: l2).Nodup := by
            rw [← hL]
            refine List.Nodup.sublist List.filter_sublist ?_
            have key : ∀ {l : List OI} {done : List Nat}, topoB ops l done = true → l.Nodup := by
              intro l
              induction l with
              | nil => intro _ _; exact .nil
              | cons y l ih =>
                intro done h
                simp only [topoB, Bool.and_eq_true] at h
                refine .cons (fun b hb => ?_) (ih h.2)
                obtain ⟨pre, post, rfl⟩ := List.append_of_mem hb
                have := (topoB_spec h.2 pre b post rfl).2.1
                exact fun q => this (by simp [q])
            exact key htopo
          rw [List.nodup_append] at hnd
          rcases hx with h | h
          · exact hnd.2.2 x h x (by simp) rfl
          · exact (List.nodup_cons.1 hnd.2.1).1 h
        simp only [bne_self_eq_false, Bool.false_eq_true, if_false]
        rw [List.filter_eq_self.2 (fun x hx => by simpa using hno x (.inl hx)), List.filter_eq_self.2 (fun x hx => by simpa using hno x (.inr hx))]
      refine op_sound hC hp' g1 g2 g3 g4 s h5 ?_
      intro x σ' E' a' w' s' hx
      refine ih _ (R := _) (by simpa using hsz) ?_ ?_ s' (by rw [hnew]; exact hx.2)
      · intro j q hq hl e he hb
        have hmono : ∀ k, listed.getD k false = true → (listed.setIfInBounds o.ix true).getD k false = true := fun k hk => by
          by_cases e2 : o.ix = k
          · subst e2; simp [Array.getD_eq_getD_getElem?, hsz, hilt]
          · simp only [Array.getD_eq_getD_getElem?, Array.getElem?_setIfInBounds_ne e2] at hk ⊢; exact hk
        by_cases e2 : o.ix = j
        · subst e2
          rw [h2] at hq; cases hq
          exact hmono _ (h3 e (by simpa using he) hb)
        · refine hmono _ (hdn j q hq ?_ e he hb)
          simpa only [Array.getD_eq_getD_getElem?, Array.getElem?_setIfInBounds_ne e2] using hl
      · rw [hnew]
        rw [hL] at hfu
        simp only [List.length_append, List.length_cons] at hfu ⊢
        omega

omit [Zone] in
theorem oisG_ok {ops : Array Oper} {gs : List GI} {cl : List Nat} (hgs : ∀ (i : Nat) (g : GI), gs[i]? = some g → ∃ p, ops[i]? = some p ∧ cInstr P p.op = some g.i ∧ cGuard ops p.guard = some g.guard ∧ okDst N p.dst = true ∧ g.dst = p.dst) :
    ∀ {ord done : List Nat} {l : List OI}, oisG cl gs ord done = some l → ∀ o, o ∈ l → GiOk P N ops o
  | [], done, l, h, o, ho => by simp [oisG] at h; subst h; simp at ho
  | i :: r, done, l, h, o, ho => by
    simp only [oisG] at h
    split at h
    · rename_i g l' hg hl
      cases h
      rcases List.mem_cons.1 ho with rfl | ho
      · exact hgs i g hg
      · exact oisG_ok hgs hl o ho
    · cases h

omit [Zone] in
theorem cReg_get {ops : Array Oper} : ∀ {l : List Oper} {gs : List GI}, cReg P N ops l = some gs → ∀ (i : Nat) (g : GI), gs[i]? = some g → ∃ p, l[i]? = some p ∧ cInstr P p.op = some g.i ∧ cGuard ops p.guard = some g.guard ∧ okDst N p.dst = true ∧ g.dst = p.dst
  | [], gs, h, i, g, hg => by simp [cReg] at h; subst h; simp at hg
  | o :: l, gs, h, i, g, hg => by
    simp only [cReg] at h
    split at h
    · rename_i q gd gs' h1 h2 h3
      split at h
      · rename_i hd
        cases h
        cases i with
        | zero => simp at hg; subst hg; exact ⟨o, rfl, h1, h2, hd, rfl⟩
        | succ i => simpa using cReg_get h3 i g (by simpa using hg)
      · cases h
    · cases h

theorem ord_sound {ro : Option Nat} {C : CallP} (hm : P.follows .mixedOrders = true) {E0 : Env} {w0 : World} (hC : CSound P ro E0 w0 C) (hCm : C.Mono) {ops : Array Oper} {gs : List GI} {ord : List Nat} {l : List OI} {id : Nat} {Q : Exit → Act → World → Prop} {Kn : Fr → AH → Prop} {k : List Nat} (hgs : cReg P N ops ops.toList = some gs) (hl : cOrd ops gs ord = some l)
    (hQ : ∀ fr σ E a w, St N E0 w0 fr σ E a w → Kn (fr.keep k) σ → Q .normal a w) {fr : Fr} {σ : AH} {E : Env} {a : Act} {w : World} (s : St N E0 w0 fr σ E a { w with drawn := w.drawn + 1 }) (h : ordI C l fr σ [] fun fr σ => Kn (fr.keep k) σ) : (Code.region id ops true).wpIn (FW ro) 0 P Q a w := by
  unfold cOrd at hl
  split at hl
  · rename_i l0 hl0
    split at hl
    · rename_i hok
      cases hl
      have hG0 := oisG_ok (P := P) (N := N) (fun i g hg => by simpa using cReg_get hgs i g hg) hl0
      have hG : ∀ o, o ∈ (l0.map fun o => { o with keep := l0.any fun o' => o'.chk.contains o.ix }) → GiOk P N ops o := by
        intro o ho
        obtain ⟨o', ho', rfl⟩ := List.mem_map.1 ho
        exact hG0 o' ho'
      generalize (l0.map fun o => { o with keep := l0.any fun o' => o'.chk.contains o.ix }) = F at *
      have hok' := hok
      simp only [ordOkB, Bool.and_eq_true] at hok'
      obtain ⟨⟨⟨⟨hall, _⟩, _⟩, hsure⟩, hrec⟩ := hok'
      have hsureL : SureL F := fun o ho i hi => by
        have := List.all_eq_true.1 hsure o ho
        simp only [sureB, hi] at this
        exact this
      have hP := ordP_of_ordI (R' := []) hCm hsureL (fun o ho o' ho' hc => by
        have h1 := List.all_eq_true.1 hrec o ho
        simp only [Bool.or_eq_true] at h1
        rcases h1 with h1 | h1
        · exact h1
        · have := List.all_eq_true.1 h1 o' ho'
          simp at this; exact absurd hc this) (by simp) h
      refine wpIn_region_any hm ?_
      have hKc : Closed fun fr σ => ∃ fr1, Fr.eqv fr1 fr ∧ Kn (fr1.keep k) σ := fun a b σ he ⟨fr1, h1, h2⟩ => ⟨fr1, fun n => (h1 n).trans (he n), h2⟩
      have hP' : ordP C F fr σ [] fun fr σ => ∃ fr1, Fr.eqv fr1 fr ∧ Kn (fr1.keep k) σ := by
        have key : ∀ {l : List OI} {fr : Fr} {σ : AH} {R : List (Nat × List Ref)} {K K' : Fr → AH → Prop}, SureL l → (∀ fr σ, K fr σ → K' fr σ) → ordP C l fr σ R K → ordP C l fr σ R K' := by
          intro l
          induction l with
          | nil => intro fr σ R K K' _ hk h; exact hk _ _ h
          | cons o l ih =>
            intro fr σ R K K' hs hk h
            unfold ordP at h ⊢
            exact opM_mono hCm (hs o (by simp)) (fun x σ' hx => ⟨hx.1, ih (fun o ho => hs o (by simp [ho])) hk hx.2⟩) h
        exact key hsureL (fun fr σ h => ⟨fr, fun _ => rfl, h⟩) hP
      have hlen : (F.filter fun o => !(Array.replicate ops.size false).getD o.ix true) = F := by
        refine List.filter_eq_self.2 fun o ho => ?_
        obtain ⟨p, hp, _⟩ := hG o ho
        have := (Array.getElem?_eq_some_iff.1 hp).1
        simp [this]
      have hF : F.length = ops.size := by
        have h1 : ∀ i, i < ops.size → i ∈ F.map (·.ix) := fun i hi => by
          have := List.all_eq_true.1 hall i (List.mem_range.2 hi)
          obtain ⟨o, h1, h2⟩ := List.any_eq_true.1 this
          exact List.mem_map.2 ⟨o, h1, by simpa using h2⟩
        have h2 : (F.map (·.ix)).Nodup := by
          have key : ∀ {l : List OI} {done : List Nat}, topoB ops l done = true → (l.map (·.ix)).Nodup := by
            intro l
            induction l with
            | nil => intro _ _; exact .nil
            | cons y l ih =>
              intro done h
              simp only [topoB, Bool.and_eq_true] at h
              rw [List.map_cons]
              refine .cons (fun b hb => ?_) (ih h.2)
              obtain ⟨b', hb', rfl⟩ := List.mem_map.1 hb
              obtain ⟨pre, post, rfl⟩ := List.append_of_mem hb'
              have := (topoB_spec h.2 pre b' post rfl).2.1
              exact fun q => this (by simp [q])
          simp only [ordOkB, Bool.and_eq_true] at hok
          exact key hok.1.1.1.2
        have h3 : ∀ i, i ∈ F.map (·.ix) → i < ops.size := fun i hi => by
          obtain ⟨o, ho, rfl⟩ := List.mem_map.1 hi
          obtain ⟨p, hp, _⟩ := hG o ho
          exact (Array.getElem?_eq_some_iff.1 hp).1
        have h4 : (F.map (·.ix)).length = (List.range ops.size).length := by
          refine List.Perm.length_eq ?_
          refine (List.perm_ext_iff_of_nodup h2 List.nodup_range).2 fun i => ⟨fun h => List.mem_range.2 (h3 i h), fun h => h1 i (List.mem_range.1 h)⟩
        simpa using h4
      refine any_sound hC hCm (Q := Q) hKc ?_ hok hG ops.size (Array.replicate ops.size false) (by simp) ?_ (by rw [hlen, hF]) s (by rw [hlen]; exact hP')
      · rintro fr σ E a w s ⟨fr1, h1, h2⟩
        exact hQ fr1 σ E a w ⟨s.defers, s.size, fun n y hy => s.frame n y (by rw [← h1 n]; exact hy), s.rel, s.step⟩ h2
      · intro j o hj hl
        simp at hl
        exfalso
        cases hq : (Array.replicate ops.size false)[j]? with
        | none => rw [hq] at hl; simp at hl
        | some b =>
          rw [hq] at hl
          have := Array.mem_of_getElem? hq
          simp at this
          simp at hl
          rw [hl] at this
          exact absurd this.2 (by simp)
    · cases hl
  · cases hl

omit [Zone] in
theorem filt_le {p p' : Nat → Bool} (hle : ∀ x, p' x = true → p x = true) : ∀ (l : List Nat), (l.filter p').length ≤ (l.filter p).length
  | [] => Nat.le_refl _
  | x :: r => by
    have ih := filt_le hle r
    rw [List.filter_cons, List.filter_cons]
    by_cases h' : p' x = true
    · rw [if_pos h', if_pos (hle x h')]; simp only [List.length_cons]; omega
    · rw [if_neg h']
      split
      · simp only [List.length_cons]; omega
      · exact ih
omit [Zone] in
theorem filt_lt {p p' : Nat → Bool} (hle : ∀ x, p' x = true → p x = true) {i : Nat} (hp : p i = true) (hp' : p' i = false) : ∀ {l : List Nat}, i ∈ l → (l.filter p').length < (l.filter p).length
  | x :: r, hi => by
    have h0 := filt_le hle r
    rw [List.filter_cons, List.filter_cons]
    rcases List.mem_cons.1 hi with rfl | hi
    · rw [if_neg (by rw [hp']; simp), if_pos hp]; simp only [List.length_cons]; omega
    · have ih := filt_lt hle hp hp' hi
      by_cases h' : p' x = true
      · rw [if_pos h', if_pos (hle x h')]; simp only [List.length_cons]; omega
      · rw [if_neg h']
        split
        · simp only [List.length_cons]; omega
        · exact ih
omit [Zone] in
theorem parG_mem {ops : Array Oper} {gs : List GI} {i j : Nat} {g : GI} {p : Oper} (hg : gs[j]? = some g) (hp : ops[i + j]? = some p) : (⟨i + j, g, depsOf p, false⟩ : OI) ∈ parG ops gs i := by
  induction gs generalizing i j with
  | nil => simp at hg
  | cons x r ih =>
    unfold parG
    cases j with
    | zero =>
      simp at hg
      subst hg
      rw [Nat.add_zero] at hp
      rw [Nat.add_zero, hp]
      exact List.mem_cons_self
    | succ j =>
      have := ih (i := i + 1) (j := j) (by simpa using hg) (by rw [show i + 1 + j = i + (j + 1) by omega]; exact hp)
      rw [show i + 1 + j = i + (j + 1) by omega] at this
      exact List.mem_cons_of_mem _ this
omit [Zone] in
theorem parG_ix {ops : Array Oper} {gs : List GI} {i : Nat} {o : OI} (ho : o ∈ parG ops gs i) : i ≤ o.ix ∧ o.ix < i + gs.length := by
  induction gs generalizing i with
  | nil => cases ho
  | cons x r ih =>
    unfold parG at ho
    rcases List.mem_cons.1 ho with rfl | ho
    · simp only [List.length_cons]; omega
    · have := ih ho
      simp only [List.length_cons]; omega
theorem par_any {ro : Option Nat} {C : CallP} {E0 : Env} {w0 : World} (hC : CSound P ro E0 w0 C) {ops : Array Oper} {gs : List GI} {Q : Exit → Act → World → Prop} (hgs : ∀ (i : Nat) (p : Oper), ops[i]? = some p → ∃ g, gs[i]? = some g ∧ cInstr P p.op = some g.i ∧ cGuard ops p.guard = some g.guard ∧ okDst N p.dst = true ∧ g.dst = p.dst)
    (hlow : ∀ (i : Nat) (p : Oper), ops[i]? = some p → ∀ e, e ∈ p.after.toList → Region.binds .any e = true → e.on < i) {I : (Nat → Bool) → Fr → AH → Prop}
    (hQ : ∀ d fr σ E a w, I d fr σ → (∀ i, i < ops.size → d i = true) → St N E0 w0 fr σ E a w → Q .normal a w)
    (hstep : ∀ d fr σ, I d fr σ → ∀ (i : Nat) (g : GI) (p : Oper), gs[i]? = some g → ops[i]? = some p → d i = false → (∀ e, e ∈ p.after.toList → Region.binds .any e = true → d e.on = true) → opM C g σ fr fun x σ' => I (fun j => if j = i then true else d j) (fr.putO g.dst x) σ') :
    ∀ (fuel : Nat) (listed : Array Bool) {fr : Fr} {σ : AH} {E : Env} {a : Act} {w : World}, listed.size = ops.size → ((List.range ops.size).filter fun i => !listed.getD i true).length ≤ fuel → St N E0 w0 fr σ E a w → I (fun j => listed.getD j false) fr σ → wpAnyIn (FW ro) 0 P .any ops Q fuel listed a w := by
  have same : ∀ (listed : Array Bool) (j : Nat), j < listed.size → listed.getD j true = listed.getD j false := fun listed j hj => by
    simp [Array.getD_eq_getD_getElem?, Array.getElem?_eq_getElem hj]
  have all : ∀ (listed : Array Bool), listed.size = ops.size → Region.ready .any ops listed = [] → ∀ i, i < ops.size → listed.getD i false = true := by
    intro listed hsz hr i
    induction i using Nat.strongRecOn with
    | ind i ih =>
      intro hi
      cases hl : listed.getD i false with
      | true => rfl
      | false =>
        exfalso
        have : i ∈ Region.ready .any ops listed := by
          refine mem_ready.2 ⟨by rw [same _ _ (by omega)]; exact hl, ops[i], Array.getElem?_eq_getElem hi, fun e he hb => ?_⟩
          have h1 := hlow i _ (Array.getElem?_eq_getElem hi) e (by simpa using he) hb
          exact ih e.on h1 (by omega)
        rw [hr] at this; simp at this
  intro fuel
  induction fuel with
  | zero =>
    intro listed fr σ E a w hsz hcnt s h
    have hnil := List.length_eq_zero_iff.1 (Nat.le_zero.1 hcnt)
    have hdone : ∀ i, i < ops.size → listed.getD i false = true := fun i hi => by
      cases hl : listed.getD i false with
      | true => rfl
      | false =>
        exfalso
        have : i ∈ (List.range ops.size).filter fun i => !listed.getD i true := List.mem_filter.2 ⟨List.mem_range.2 hi, by rw [same _ _ (by omega), hl]; rfl⟩
        rw [hnil] at this; simp at this
    refine ⟨?_, hQ _ _ _ _ _ _ h hdone s⟩
    cases hr : Region.ready .any ops listed with
    | nil => rfl
    | cons i r =>
      exfalso
      have hi : i ∈ Region.ready .any ops listed := by rw [hr]; simp
      obtain ⟨h1, o, h2, _⟩ := mem_ready.1 hi
      have hlt := (Array.getElem?_eq_some_iff.1 h2).1
      have := hdone i hlt
      rw [← same _ _ (by omega), h1] at this; cases this
  | succ fuel ih =>
    intro listed fr σ E a w hsz hcnt s h
    refine ⟨fun hr => hQ _ _ _ _ _ _ h (all listed hsz hr) s, fun i hi => ?_⟩
    obtain ⟨h1, p, h2, h3⟩ := mem_ready.1 hi
    have hilt := (Array.getElem?_eq_some_iff.1 h2).1
    obtain ⟨g, hg, g1, g2, g3, g4⟩ := hgs i p h2
    have hd : listed.getD i false = false := by rw [← same _ _ (by omega)]; exact h1
    refine op_sound hC h2 g1 g2 g3 g4 s (hstep _ _ _ h i g p hg h2 hd fun e he hb => h3 e (by simpa using he) hb) ?_
    intro x σ' E' a' w' s' hx
    have hset : (fun j => (listed.setIfInBounds i true).getD j false) = fun j => if j = i then true else listed.getD j false := by
      funext j
      by_cases e : j = i
      · subst e; simp [Array.getD_eq_getD_getElem?, hsz, hilt]
      · rw [if_neg e]
        simp only [Array.getD_eq_getD_getElem?, Array.getElem?_setIfInBounds_ne (Ne.symm e)]
    refine ih _ (by simpa using hsz) ?_ s' (by rw [hset]; exact hx)
    refine Nat.le_of_lt_succ (Nat.lt_of_lt_of_le (filt_lt ?_ (i := i) ?_ ?_ (List.mem_range.2 hilt)) hcnt)
    · intro j hj
      by_cases e : j = i
      · subst e; simp [Array.getD_eq_getD_getElem?, hsz, hilt] at hj
      · simp only [Array.getD_eq_getD_getElem?, Array.getElem?_setIfInBounds_ne (Ne.symm e)] at hj ⊢; exact hj
    · simp only [h1]; rfl
    · simp [Array.getD_eq_getD_getElem?, hsz, hilt]
theorem par_sound {ro : Option Nat} {C : CallP} (hm : P.follows .mixedOrders = true) {E0 : Env} {w0 : World} (hC : CSound P ro E0 w0 C) {ops : Array Oper} {gs : List GI} {id : Nat} {Q : Exit → Act → World → Prop} {Kn : Fr → AH → Prop} {k : List Nat} (hgs : cReg P N ops ops.toList = some gs) (hlow : lowB ops = true)
    (hQ : ∀ fr σ E a w, St N E0 w0 fr σ E a w → Kn (fr.keep k) σ → Q .normal a w) {fr : Fr} {σ : AH} {E : Env} {a : Act} {w : World} (s : St N E0 w0 fr σ E a { w with drawn := w.drawn + 1 }) (h : ParW C (parG ops gs 0) fr σ fun fr σ => Kn (fr.keep k) σ) : (Code.region id ops true).wpIn (FW ro) 0 P Q a w := by
  obtain ⟨I, h0, hs, hN⟩ := h.ok
  have hlen := cReg_len hgs
  have hget := cReg_get hgs
  have hgs' : ∀ (i : Nat) (p : Oper), ops[i]? = some p → ∃ g, gs[i]? = some g ∧ cInstr P p.op = some g.i ∧ cGuard ops p.guard = some g.guard ∧ okDst N p.dst = true ∧ g.dst = p.dst := by
    intro i p hp
    have hi := (Array.getElem?_eq_some_iff.1 hp).1
    have hi' : i < gs.length := by rw [hlen]; simpa using hi
    obtain ⟨p', hp', g1, g2, g3, g4⟩ := hget i _ (List.getElem?_eq_getElem hi')
    rw [Array.getElem?_toList] at hp'
    rw [hp] at hp'; cases hp'
    exact ⟨_, List.getElem?_eq_getElem hi', g1, g2, g3, g4⟩
  refine wpIn_region_any hm (par_any hC hgs' ?_ (I := I) ?_ ?_ ops.size (Array.replicate ops.size false) (by simp) ?_ s ?_)
  · intro i p hp e he hb
    have h1 := List.all_eq_true.1 hlow i (List.mem_range.2 (Array.getElem?_eq_some_iff.1 hp).1)
    rw [hp] at h1
    have h2 := List.all_eq_true.1 h1 e.on (List.mem_map.2 ⟨e, List.mem_filter.2 ⟨he, hb⟩, rfl⟩)
    simpa [Nat.blt_eq] using h2
  · intro d fr σ E a w hI hd s
    refine hQ fr σ E a w s (hN d fr σ hI fun o ho => hd _ ?_)
    have := parG_ix ho
    rw [hlen] at this
    simpa using this.2
  · intro d fr σ hI i g p hg hp hd hdeps
    have hmem := parG_mem (ops := ops) (gs := gs) (i := 0) (j := i) hg (by rw [Nat.zero_add]; exact hp)
    rw [Nat.zero_add] at hmem
    have := hs d fr σ hI _ hmem hd (fun e he => by
      obtain ⟨e', he', rfl⟩ := List.mem_map.1 he
      obtain ⟨q1, q2⟩ := List.mem_filter.1 he'
      exact hdeps e' q1 q2)
    simpa only [opM, Fr.putOK_eq] using this
  · refine Nat.le_trans (List.length_filter_le _ _) ?_
    simp
  · have e : (fun j => (Array.replicate ops.size false).getD j false) = fun _ => false := by
      funext j
      rw [Array.getD_eq_getD_getElem?, Array.getElem?_replicate]
      split <;> rfl
    rw [e]; exact h0

/-! ### Code -/
/-- What the commands' posts say of the machine's. -/
def Post (N : Nat) (E0 : Env) (w0 : World) (Kn : KN) (Kx : KX) (Kr : KN) : Exit → Act → World → Prop
  | .normal, a, w => ∃ fr σ E, St N E0 w0 fr σ E a w ∧ Kn fr σ
  | .exit id, a, w => ∃ fr σ E, St N E0 w0 fr σ E a w ∧ Kx id fr σ
  | .ret, a, w => ∃ fr σ E, St N E0 w0 fr σ E a w ∧ Kr fr σ
  | _, _, _ => False

theorem St.draw {E0 : Env} {w0 : World} {fr : Fr} {σ : AH} {E : Env} {a : Act} {w : World} (s : St N E0 w0 fr σ E a w) : St N E0 w0 fr σ E a { w with drawn := w.drawn + 1 } := by
  have hc : Calm w { w with drawn := w.drawn + 1 } := ⟨fun _ _ => rfl, Nat.le_refl _, rfl, rfl, rfl⟩
  obtain ⟨hs, hr⟩ := s.rel.calm hc
  exact ⟨s.defers.step hs, s.size, fun n y h => (s.frame n y h).step hs, hr, s.step.trans hs⟩

/-- That ranges over functions are told. -/
def RF (P : Program) (N : Nat) (ro : Option Nat) (C : CallP) (I : IterP) (E0 : Env) (w0 : World) : Prop :=
  ∀ {g : Operand} {ps : Array Tmp} {x y : Code} {hs hs' : Hs} {cmd : Cmd}, comp P N (.rangeFunc g ps x y) hs = some (cmd, hs') → ∀ {Kn : KN} {Kx : KX} {Kr : KN} {fr : Fr} {σ : AH} {E : Env} {a : Act} {w : World},
    St N E0 w0 fr σ E a w → awp C I cmd fr σ Kn Kx Kr → (Code.rangeFunc g ps x y).wpIn (FW ro) 0 P (Post N E0 w0 Kn Kx Kr) a w
theorem awp_gen {ro : Option Nat} {C : CallP} {I : IterP} (hm : P.follows .mixedOrders = true) {E0 : Env} {w0 : World} (hC : CSound P ro E0 w0 C) (hCm : C.Mono) : ∀ {c : Code} (_ : rok c = true ∨ (ro = none ∧ RF P N ro C I E0 w0)) {hs hs' : Hs} {cmd : Cmd}, comp P N c hs = some (cmd, hs') → ∀ {Kn : KN} {Kx : KX} {Kr : KN} {fr : Fr} {σ : AH} {E : Env} {a : Act} {w : World},
    St N E0 w0 fr σ E a w → awp C I cmd fr σ Kn Kx Kr → c.wpIn (FW ro) 0 P (Post N E0 w0 Kn Kx Kr) a w := by
  intro c
  induction c with
  | skip =>
    intro hk hs hs' cmd hc Kn Kx Kr fr σ E a w s h
    simp only [comp, Option.some.injEq, Prod.mk.injEq] at hc
    obtain ⟨rfl, _⟩ := hc
    exact wpIn_skip ⟨fr, σ, E, s, h⟩
  | region id ops d =>
    intro hk hs hs' cmd hc Kn Kx Kr fr σ E a w s h
    have hK : ∀ (k : List Nat) fr σ E a w, St N E0 w0 fr σ E a w → Kn (fr.keep k) σ → Post N E0 w0 Kn Kx Kr .normal a w := fun k fr σ E a w s h => ⟨_, σ, E, s.keep k, h⟩
    cases d with
    | false =>
      simp only [comp] at hc
      split at hc
      · rename_i gs hgs
        split at hc
        · rename_i k hs2
          cases hc
          simp only [awp, Fr.keepK_eq] at h
          exact wpIn_region_list (regI_sound hC (K := fun fr σ => Kn (fr.keep k) σ) (hK k) hgs s h)
        · cases hc
      · cases hc; exact h.elim
    | true =>
      simp only [comp] at hc
      split at hc
      · rename_i gs hgs
        split at hc
        · rename_i k ord hs2
          split at hc
          · rename_i l hl
            cases hc
            simp only [awp, Fr.keepK_eq] at h
            exact ord_sound hm hC hCm hgs hl (hK k) s.draw h
          · split at hc
            · rename_i hlow
              cases hc
              simp only [awp, Fr.keepK_eq] at h
              exact par_sound hm hC hgs hlow (hK k) s.draw h
            · cases hc
        · cases hc
      · cases hc; exact h.elim
  | seq x y ihx ihy =>
    intro hk hs hs' cmd hc Kn Kx Kr fr σ E a w s h
    simp only [comp] at hc
    split at hc
    · rename_i ca hs1 hx
      split at hc
      · rename_i cb hs2 hy
        cases hc
        simp only [awp] at h
        refine wpIn_seq (wpIn_mono (ihx (hk.imp (fun q => by simp only [rok, Bool.and_eq_true] at q; exact q.1) id) hx s h) ?_)
        rintro e a1 w1 hp
        cases e with
        | normal => obtain ⟨fr1, σ1, E1, s1, h1⟩ := hp; exact ihy (hk.imp (fun q => by simp only [rok, Bool.and_eq_true] at q; exact q.2) id) hy s1 h1
        | exit i => exact hp
        | ret => exact hp
        | goto l => exact hp
        | panic ch => exact hp
        | outgrown => exact hp
      · cases hc
    · cases hc
  | cond c x y ihx ihy =>
    intro hk hs hs' cmd hc Kn Kx Kr fr σ E a w s h
    simp only [comp] at hc
    split at hc
    · rename_i c' ca hs1 hcc hx
      split at hc
      · rename_i cb hs2 hy
        cases hc
        simp only [awp] at h
        obtain ⟨z, hz, h⟩ := evR_ok s.frame hcc h
        split at h
        · exact wpIn_cond_split hz.bool_inv (fun q => ihx (hk.imp (fun q => by simp only [rok, Bool.and_eq_true] at q; exact q.1) id) hx s (by rw [q] at h; exact h)) (fun q => ihy (hk.imp (fun q => by simp only [rok, Bool.and_eq_true] at q; exact q.2) id) hy s (by rw [q] at h; exact h))
        · exact h.elim
      · cases hc
    · cases hc
  | block id b ih =>
    intro hk hs hs' cmd hc Kn Kx Kr fr σ E a w s h
    simp only [comp] at hc
    split at hc
    · rename_i ca hs1 hb
      cases hc
      simp only [awp] at h
      refine wpIn_block (wpIn_mono (ih (hk.imp (fun q => by simpa only [rok] using q) (fun q => q)) hb s h) ?_)
      rintro e a1 w1 hp
      cases e with
      | normal => exact hp
      | exit i =>
        obtain ⟨fr1, σ1, E1, s1, h1⟩ := hp
        simp only [Exit.inBlock]
        by_cases e : i = id
        · simp only [e, if_true] at h1 ⊢; exact ⟨fr1, σ1, E1, s1, h1⟩
        · simp only [e, if_false] at h1 ⊢; exact ⟨fr1, σ1, E1, s1, h1⟩
      | ret => exact hp
      | goto l => exact hp
      | panic ch => exact hp
      | outgrown => exact hp
    · cases hc
  | loop b ih =>
    intro hk hs hs' cmd hc Kn Kx Kr fr σ E a w s h
    simp only [comp] at hc
    split at hc
    · rename_i k hs1
      split at hc
      · rename_i ca hs2 hb
        cases hc
        simp only [awp] at h
        obtain ⟨I, ⟨n, h0⟩, hI⟩ := h
        refine wpIn_loop_rounds (n + 1) ?_
        have hn : n < n + 1 := Nat.lt_succ_self n
        revert hn h0 s
        generalize n + 1 = R
        intro s h0 hn
        induction R generalizing n fr σ E a w with
        | zero => omega
        | succ R ihn =>
          rw [roundsIn_succ]
          refine wpIn_mono (ih (hk.imp (fun q => by simpa only [rok] using q) (fun q => q)) hb (s.keep k) (by have := hI _ _ _ h0; rw [Fr.keepK_eq] at this; exact this)) ?_
          rintro e a1 w1 hp
          cases e with
          | normal => obtain ⟨fr1, σ1, E1, s1, m, h1, h2⟩ := hp; exact ihn m s1 h2 (by omega)
          | exit i => exact hp
          | ret => exact hp
          | goto l => exact hp
          | panic ch => exact hp
          | outgrown => exact hp
      · cases hc
    · cases hc
  | rangeFunc f ps x y ihx ihy =>
    intro hk hs hs' cmd hc Kn Kx Kr fr σ E a w s h
    rcases hk with hk | hk
    · simp [rok] at hk
    · exact hk.2 hc s h
  | exit id =>
    intro hk hs hs' cmd hc Kn Kx Kr fr σ E a w s h
    simp only [comp, Option.some.injEq, Prod.mk.injEq] at hc
    obtain ⟨rfl, _⟩ := hc
    exact wpIn_exit ⟨fr, σ, E, s, h⟩
  | scope b ih =>
    intro hk hs hs' cmd hc Kn Kx Kr fr σ E a w s h
    simp only [comp] at hc
    rcases hk with hk | ⟨hro, hrf⟩
    · simp [rok] at hk
    subst hro
    refine (wpIn_wide (n := 0)).2 (wp_scope_straight (wp_mono ((wpIn_wide (n := 0)).1 (ih (.inr ⟨rfl, hrf⟩) hc s h)) ?_))
    rintro e a1 w1 hp
    cases e with
    | normal => exact hp
    | exit i => exact hp
    | ret => exact hp
    | goto l => exact hp
    | panic ch => exact hp
    | outgrown => exact hp
  | label l =>
    intro hk hs hs' cmd hc Kn Kx Kr fr σ E a w s h
    simp only [comp, Option.some.injEq, Prod.mk.injEq] at hc
    obtain ⟨rfl, _⟩ := hc
    exact wpIn_label ⟨fr, σ, E, s, h⟩
  | goto l => intro hk hs hs' cmd hc; simp [comp] at hc
  | ret =>
    intro hk hs hs' cmd hc Kn Kx Kr fr σ E a w s h
    simp only [comp, Option.some.injEq, Prod.mk.injEq] at hc
    obtain ⟨rfl, _⟩ := hc
    exact wpIn_ret ⟨fr, σ, E, s, h⟩
  | refuse why => intro hk hs hs' cmd hc; simp [comp] at hc

end
end Go.Proofs.Ytppccaacbpkgiaa.V
