/-
  VK2: the same: operations in a drawn order: two that do not hang on each other may be exchanged; any that waits for none ahead of it may be taken first.
-/
import Derived.Test.YtppccaacbpkgiaaVK
namespace Go.Proofs.Ytppccaacbpkgiaa.V
open Go Go.RowKit
set_option linter.unusedVariables false
set_option linter.unusedSimpArgs false

/-! ### More asked, more told -/
def CallP.Mono (C : CallP) : Prop := ∀ (f : Nat) (l : List AV) (σ : AH) (K K' : AV → AH → Prop), (∀ x σ', K x σ' → K' x σ') → C f l σ K → C f l σ K'

theorem frzCR_mono {σ : AH} {x : AV} {K K' : AV → AH → Prop} (hK : ∀ y τ, K y τ → K' y τ) (h : frzCR σ x K) : frzCR σ x K' := by
  cases x
  case rsl => exact blkAt_mono (fun b h => ⟨h.1, h.2.1, hK _ _ h.2.2⟩) h
  all_goals first | exact h.elim | exact hK _ _ h
theorem frzLR_mono : ∀ {l : List AV} {σ : AH} {K K' : List AV → AH → Prop}, (∀ y τ, K y τ → K' y τ) → frzLR σ l K → frzLR σ l K'
  | [], σ, K, K', hK, h => hK _ _ h
  | x :: r, σ, K, K', hK, h => frzCR_mono (fun y τ h => frzLR_mono (fun ys τ' h => hK _ _ h) h) h
theorem frzLLR_mono : ∀ {l : List (List AV)} {σ : AH} {K K' : List (List AV) → AH → Prop}, (∀ y τ, K y τ → K' y τ) → frzLLR σ l K → frzLLR σ l K'
  | [], σ, K, K', hK, h => hK _ _ h
  | x :: r, σ, K, K', hK, h => frzLR_mono (fun y τ h => frzLLR_mono (fun ys τ' h => hK _ _ h) h) h
theorem frzR_mono {σ : AH} {sz : Nat} {x : AV} {K K' : List (List AV) → AH → Prop} (hK : ∀ y τ, K y τ → K' y τ) (h : frzR σ sz x K) : frzR σ sz x K' := by
  refine ⟨rowsR_mono (fun p l h => ?_) h.ok⟩
  cases p
  · exact frzLLR_mono hK h
  · exact hK _ _ h
theorem appendR_mono {σ : AH} {sz bytes : Nat} {x : AV} {ys : List (List AV)} {K K' : AV → AH → Prop} (hK : ∀ y τ, K y τ → K' y τ) (h : appendR σ sz bytes x ys K) : appendR σ sz bytes x ys K' := by
  cases x
  case nils => exact ⟨h.1, hK _ _ h.2⟩
  case slx => exact ⟨h.1, h.2.1, h.2.2.1, hK _ _ h.2.2.2⟩
  case rsl id gen off len c =>
    cases c
    · exact blkAt_mono (fun b h => ⟨h.1, h.2.1, h.2.2.1, h.2.2.2.1, h.2.2.2.2.1, h.2.2.2.2.2.1, hK _ _ h.2.2.2.2.2.2⟩) h
    · exact blkAt_mono (fun b h => ⟨h.1, h.2.1, h.2.2.1, h.2.2.2.1, h.2.2.2.2.1, h.2.2.2.2.2.1, hK _ _ h.2.2.2.2.2.2⟩) h
  all_goals exact h.elim
theorem appendIR_mono {σ : AH} {sz bytes : Nat} {x : AV} {ys : List (List AV)} {K K' : AV → AH → Prop} (hK : ∀ y τ, K y τ → K' y τ) (h : appendIR σ sz bytes x ys K) : appendIR σ sz bytes x ys K' := by
  cases x
  case nils => exact ⟨h.1, h.2.1, hK _ _ h.2.2⟩
  case rsl id gen off len c =>
    cases c
    · exact blkAt_mono (fun b h => ⟨h.1, h.2.1, h.2.2.1, h.2.2.2.1, h.2.2.2.2.1, hK _ _ h.2.2.2.2.2⟩) h
    · exact h.elim
  all_goals exact h.elim
theorem appendC_mono {σ : AH} {sz bytes : Nat} {x y : AV} {K K' : AV → AH → Prop} (hK : ∀ y τ, K y τ → K' y τ) (h : AppC σ sz bytes x y K) : AppC σ sz bytes x y K' := by
  rcases h.ok with h | h
  · exact ⟨.inl (frzR_mono (fun ys τ h => ⟨appendR_mono hK h.ok⟩) h)⟩
  · exact ⟨.inr ⟨rowsR_mono (fun p l h => ⟨appendIR_mono hK h.ok⟩) h.ok⟩⟩
theorem nthR_mono : ∀ {l : List (List AV)} {n : Nat} {K K' : List AV → Prop}, (∀ r, K r → K' r) → nthR l n K → nthR l n K'
  | [], n, K, K', hK, h => h.elim
  | x :: r, 0, K, K', hK, h => hK _ h
  | x :: r, n + 1, K, K', hK, h => nthR_mono (l := r) hK h
theorem storeR_mono {σ : AH} {a : AV} {cells : List AV} {K K' : AH → Prop} (hK : ∀ τ, K τ → K' τ) (h : storeR σ a cells K) : storeR σ a cells K' := by
  cases a
  case ptr => exact blkAt_mono (fun b h => ⟨h.1, nthR_mono (fun r h => ⟨h.1, by have h2 := h.2; simp only [layK_eq] at h2 ⊢; exact hK _ h2⟩) h.2⟩) h
  all_goals exact h.elim
theorem copyR_mono {σ : AH} {sz : Nat} {x : AV} {ys : List (List AV)} {K K' : AV → AH → Prop} (hK : ∀ y τ, K y τ → K' y τ) (h : copyR σ sz x ys K) : copyR σ sz x ys K' := by
  cases x
  case nils => exact hK _ _ h
  case sl => exact ⟨h.1, h.2.1, hK _ _ h.2.2⟩
  case rsl => exact blkAt_mono (fun b h => ⟨h.1, h.2.1, h.2.2.1, hK _ _ h.2.2.2⟩) h
  all_goals exact h.elim
theorem bsliceR_mono {fr : Fr} {sz : Nat} : ∀ {parts : List (Nat × Opd)} {rows : List (List AV)} {K K' : List (List AV) → Prop}, (∀ r, K r → K' r) → bsliceR fr sz rows parts K → bsliceR fr sz rows parts K'
  | [], rows, K, K', hK, h => hK _ h
  | (i, x) :: r, rows, K, K', hK, h => by
    unfold bsliceR at h ⊢
    split at h
    · rename_i v hv
      exact ⟨h.1, h.2.1, h.2.2.1, bsliceR_mono hK h.2.2.2⟩
    · exact h.elim
theorem evR_mono {fr : Fr} {x : Opd} {K K' : AV → Prop} (hK : ∀ v, K v → K' v) (h : evR fr x K) : evR fr x K' := by
  unfold evR at h ⊢
  split at h
  · exact hK _ h
  · exact h.elim
theorem intR_mono {fr : Fr} {x : Opd} {K K' : Int → Prop} (hK : ∀ v, K v → K' v) (h : intR fr x K) : intR fr x K' := by
  unfold intR at h ⊢
  split at h
  · exact hK _ h
  · exact h.elim
theorem keyR_mono {x : AV} {K K' : Int → Prop} (hK : ∀ m, K m → K' m) (h : keyR x K) : keyR x K' := by
  unfold keyR at h ⊢
  split at h
  · exact hK _ h
  · exact h.elim
theorem litK_mono {x : AV} {K K' : ML → Prop} (hK : ∀ m, K m → K' m) (h : litK x K) : litK x K' := by
  unfold litK at h ⊢
  split at h
  · exact hK _ h
  · exact hK _ h
  · exact h.elim
theorem mapW_mono {σ : AH} {x : AV} {K K' : Nat → Blk → List ME → Nat → Prop} (hK : ∀ id b es c, K id b es c → K' id b es c) (h : MapW σ x K) : MapW σ x K' := by
  refine ⟨?_⟩
  have h := h.ok
  unfold mapD at h ⊢
  split at h
  · split at h
    · split at h
      · exact ⟨h.1, h.2.1, hK _ _ _ _ h.2.2⟩
      · exact h.elim
    · exact h.elim
  · exact h.elim
theorem lookR_mono {c : Bool} {z : ML} {σ : AH} {K K' : AV → AH → Prop} (hK : ∀ y τ, K y τ → K' y τ) {o : Option ML} (h : lookR c z σ K o) : lookR c z σ K' o := by
  cases c <;> cases o <;> exact hK _ _ h
theorem nextW_mono {σ : AH} {x : AV} {K K' : AV → AH → Prop} (hK : ∀ y τ, K y τ → K' y τ) (h : NextW σ x K) : NextW σ x K' := by
  refine ⟨?_⟩
  have h := h.ok
  unfold nextD at h ⊢
  split at h
  · split at h
    · split at h
      · split at h
        · split at h
          · exact ⟨h.1, h.2.1, h.2.2.1, h.2.2.2.1, fun q => hK _ _ (h.2.2.2.2.1 q), fun e he hn => hK _ _ (h.2.2.2.2.2 e he hn)⟩
          · exact h.elim
        · exact h.elim
      · exact h.elim
    · exact h.elim
  · exact h.elim
theorem entryW_mono {σ : AH} {x : AV} {K K' : AV → AH → Prop} (hK : ∀ y τ, K y τ → K' y τ) (h : EntryW σ x K) : EntryW σ x K' := by
  refine ⟨?_⟩
  have h := h.ok
  unfold entryD at h ⊢
  split at h
  · split at h
    · split at h
      · split at h
        · split at h
          · obtain ⟨h1, h2, h3, s, e, h4, h5, h6⟩ := h
            exact ⟨h1, h2, h3, s, e, h4, h5, hK _ _ h6⟩
          · exact h.elim
        · exact h.elim
      · exact h.elim
    · exact h.elim
  · exact h.elim
theorem efI_mono {C : CallP} (hC : C.Mono) {σ : AH} {fr : Fr} {K K' : AV → AH → Prop} (hK : ∀ y τ, K y τ → K' y τ) : ∀ {i : EI}, efI C σ fr i K → efI C σ fr i K' := by
  intro i h
  cases i
  case alloc => exact hK _ _ h
  case box => exact evR_mono (fun v h => ⟨h.1, h.2.1, hK _ _ h.2.2⟩) h
  case bslice => exact ⟨h.1, bsliceR_mono (fun r h => hK _ _ h) h.2⟩
  case store => exact evR_mono (fun p h => evR_mono (fun v h => ⟨h.1, h.2.1, storeR_mono (fun τ h => hK _ _ h) h.2.2⟩) h) h
  case mksl => exact intR_mono (fun l h => intR_mono (fun c h => ⟨h.1, h.2.1, h.2.2.1, hK _ _ h.2.2.2⟩) h) h
  case append => exact evR_mono (fun a h => evR_mono (fun b h => appendC_mono hK h) h) h
  case appendz => exact evR_mono (fun a h => intR_mono (fun m h => ⟨h.1, h.2.1, ⟨appendR_mono hK h.2.2.ok⟩⟩) h) h
  case copy => exact evR_mono (fun a h => evR_mono (fun b h => ⟨rowsR_mono (fun p l h => ⟨h.1, ⟨copyR_mono hK h.2.ok⟩⟩) h.ok⟩) h) h
  case s2b =>
    refine evR_mono (fun a h => ?_) h
    cases a <;> first | exact h.elim | exact ⟨h.1, hK _ _ h.2⟩
  case mark =>
    refine evR_mono (fun a h => ?_) h
    cases a <;> first | exact h.elim | exact blkAt_mono (fun b h => ⟨h.1, h.2.1, hK _ _ h.2.2⟩) h
  case mkmap => exact hK _ _ h
  case look => exact evR_mono (fun a h => evR_mono (fun j h => keyR_mono (fun n h => mapW_mono (fun _ _ _ _ h => ⟨lookR_mono hK h.ok⟩) h) h) h) h
  case upd => exact evR_mono (fun a h => evR_mono (fun j h => keyR_mono (fun n h => evR_mono (fun y h => litK_mono (fun m h => mapW_mono (fun _ _ _ _ h => hK _ _ h) h) h) h) h) h) h
  case del => exact evR_mono (fun a h => evR_mono (fun j h => keyR_mono (fun n h => mapW_mono (fun _ _ _ _ h => hK _ _ h) h) h) h) h
  case clr => exact evR_mono (fun a h => mapW_mono (fun _ _ _ _ h => hK _ _ h) h) h
  case rng => exact evR_mono (fun a h => mapW_mono (fun _ _ _ _ h => hK _ _ h) h) h
  case next => exact evR_mono (fun a h => nextW_mono hK h) h
  case entry => exact evR_mono (fun a h => entryW_mono hK h) h
  case call f args =>
    simp only [efI] at h ⊢
    split at h
    · exact hC _ _ _ _ _ hK h
    · exact h.elim
  case callv f args =>
    refine evR_mono (fun a h => ?_) h
    split at h
    · split at h
      · exact hC _ _ _ _ _ hK h
      · exact h.elim
    · split at h
      · exact hC _ _ _ _ _ hK h
      · exact h.elim
    · split at h
      · exact hC _ _ _ _ _ hK h
      · exact h.elim
    · exact h.elim

/-! ### One operation -/
def opM (C : CallP) (g : GI) (σ : AH) (fr : Fr) (K : AV → AH → Prop) : Prop := guardM fr g.guard σ (runI C σ fr g.i) K

def GI.q (g : GI) : Bool :=
  match g.i with
  | .inl i => i.sure
  | .inr _ => false
def GI.opds (g : GI) : List Opd :=
  (match g.guard with | none => [] | some (t, _) => [.t t]) ++ (match g.i with | .inl i => i.opds | .inr e => e.opds)
def GI.refs (fr : Fr) (g : GI) : List Ref := refsI fr g.i

theorem guardM_congr {fr fr' : Fr} {g : Option (Nat × Bool)} {σ : AH} {run run' : (AV → AH → Prop) → Prop} {K : AV → AH → Prop} (h : ∀ t b, g = some (t, b) → fr.get t = fr'.get t) (h1 : run K = run' K) : guardM fr g σ run K = guardM fr' g σ run' K := by
  cases g with
  | none => exact h1
  | some p => obtain ⟨t, b⟩ := p; simp only [guardM, h t b rfl, h1]
theorem guardM_mono {fr : Fr} {g : Option (Nat × Bool)} {σ : AH} {run run' : (AV → AH → Prop) → Prop} {K K' : AV → AH → Prop} (h1 : run K → run' K') (h2 : K (.tup []) σ → K' (.tup []) σ) (h : guardM fr g σ run K) : guardM fr g σ run' K' := by
  cases g with
  | none => exact h1 h
  | some p =>
    obtain ⟨t, b⟩ := p
    simp only [guardM] at h ⊢
    split at h
    · split at h
      · exact h1 h
      · exact h2 h
    · exact h2 h
    · exact h.elim

theorem opM_congr {C : CallP} {g : GI} {σ : AH} {fr fr' : Fr} {K : AV → AH → Prop} (h : Agree fr fr' g.opds) : opM C g σ fr K = opM C g σ fr' K := by
  unfold opM
  refine guardM_congr (fun t b e => ?_) ?_
  · have := h (.t t) (by simp [GI.opds, e]); exact this
  · unfold runI
    cases hi : g.i with
    | inl i => exact roI_congr fun o ho => h o (by simp [GI.opds, hi, ho])
    | inr e => exact efI_congr fun o ho => h o (by simp [GI.opds, hi, ho])
theorem opM_mono_q {C : CallP} {g : GI} {i : RI} (hi : g.i = .inl i) (hs : i.sure = true) {σ : AH} {fr : Fr} {K : AV → AH → Prop} (h : opM C g σ fr K) : ∃ x, K x σ ∧ ∀ K', K' x σ → opM C g σ fr K' := by
  unfold opM at h
  simp only [hi, runI] at h
  cases hg : g.guard with
  | none =>
    rw [hg] at h
    obtain ⟨x, h1, h2⟩ := roI_det hs _ h
    exact ⟨x, h1, fun K' h' => by unfold opM; simp only [hi, hg, runI]; exact h2 (fun x => K' x σ) h'⟩
  | some p =>
    obtain ⟨t, b⟩ := p
    rw [hg] at h
    simp only [guardM] at h
    split at h
    · rename_i c hc
      cases e : c == b
      · rw [e] at h
        exact ⟨_, h, fun K' h' => by unfold opM; simp only [hi, hg, guardM, hc, e]; exact h'⟩
      · rw [e] at h
        obtain ⟨x, h1, h2⟩ := roI_det hs _ h
        exact ⟨x, h1, fun K' h' => by unfold opM; simp only [hi, hg, guardM, hc, e, runI]; exact h2 (fun x => K' x σ) h'⟩
    · rename_i hc
      exact ⟨_, h, fun K' h' => by unfold opM; simp only [hi, hg, guardM, hc]; exact h'⟩
    · exact h.elim
theorem GI.q_spec {g : GI} (h : g.q = true) : ∃ i, g.i = .inl i ∧ i.sure = true := by
  unfold GI.q at h
  split at h
  · exact ⟨_, ‹_›, h⟩
  · cases h
theorem opM_mono {C : CallP} (hC : C.Mono) {g : GI} {σ : AH} {fr : Fr} {K K' : AV → AH → Prop} (hsure : ∀ i, g.i = .inl i → i.sure = true) (hK : ∀ x τ, K x τ → K' x τ) (h : opM C g σ fr K) : opM C g σ fr K' := by
  cases hi : g.i with
  | inl i =>
    obtain ⟨x, h1, h2⟩ := opM_mono_q hi (hsure i hi) h
    exact h2 _ (hK _ _ h1)
  | inr e =>
    unfold opM at h ⊢
    simp only [hi, runI] at h ⊢
    exact guardM_mono (efI_mono hC hK) (hK _ _) h
theorem opM_stable {C : CallP} {g : GI} {σ σ' : AH} {fr : Fr} {x : AV} (hq : g.q = true) (h : ∀ K : AV → AH → Prop, K x σ → opM C g σ fr K) (hr : ∀ r, r ∈ g.refs fr → r.ok σ σ') : ∀ K : AV → AH → Prop, K x σ' → opM C g σ' fr K := by
  intro K hk
  obtain ⟨i, hi, hs⟩ := GI.q_spec hq
  have h0 := h (fun y τ => K y σ') hk
  unfold opM at h0 ⊢
  simp only [hi, GI.refs, runI, refsI] at h0 hr ⊢
  cases hg : g.guard with
  | none =>
    rw [hg] at h0
    exact roI_stable h0 hr
  | some p =>
    obtain ⟨t, b⟩ := p
    rw [hg] at h0
    simp only [guardM] at h0 ⊢
    split at h0
    · rename_i c hc
      cases e : c == b
      · simp only [e] at h0 ⊢; exact h0
      · simp only [e] at h0 ⊢
        exact roI_stable h0 hr
    · rename_i hc
      exact h0
    · exact h0.elim
theorem grefs_congr {fr fr' : Fr} {g : GI} (h : Agree fr fr' g.opds) : g.refs fr = g.refs fr' := by
  unfold GI.refs refsI
  cases hi : g.i with
  | inr e => rfl
  | inl i => exact refs_congr fun o ho => h o (by simp [GI.opds, hi, ho])

/-! ### An order -/
def okP (σ σ' : AH) (chk : List Nat) (R : List (Nat × List Ref)) : Prop := ∀ p, p ∈ R → p.1 ∈ chk → ∀ q, q ∈ p.2 → q.ok σ σ'

def ordP (C : CallP) : List OI → Fr → AH → List (Nat × List Ref) → (Fr → AH → Prop) → Prop
  | [], fr, σ, R, K => K fr σ
  | o :: r, fr, σ, R, K => opM C o.g σ fr fun x σ' => okP σ σ' o.chk R ∧ ordP C r (fr.putO o.g.dst x) σ' ((o.ix, o.g.refs fr) :: R) K

theorem allOk_spec {σ σ' : AH} : ∀ {rs : List Ref} {p : Prop}, allOk σ σ' rs p → (∀ q, q ∈ rs → q.ok σ σ') ∧ p
  | [], p, h => ⟨by simp, h⟩
  | r :: rs, p, h => by
    obtain ⟨h1, h2⟩ := allOk_spec h.2
    exact ⟨fun q hq => by rcases List.mem_cons.1 hq with rfl | hq; exact h.1; exact h1 q hq, h2⟩
theorem okG_spec {σ σ' : AH} {chk : List Nat} : ∀ {R : List (Nat × List Ref)} {p : Prop}, okG σ σ' chk R p → okP σ σ' chk R ∧ p
  | [], p, h => ⟨fun p hp => by simp at hp, h⟩
  | (j, rs) :: r, p, h => by
    unfold okG at h
    rw [memN_eq] at h
    split at h
    · obtain ⟨h1, h⟩ := allOk_spec h
      obtain ⟨h2, h3⟩ := okG_spec h
      refine ⟨fun p hp hc q hq => ?_, h3⟩
      rcases List.mem_cons.1 hp with rfl | hp
      · exact h1 q hq
      · exact h2 p hp hc q hq
    · rename_i hm
      obtain ⟨h2, h3⟩ := okG_spec h
      refine ⟨fun p hp hc q hq => ?_, h3⟩
      rcases List.mem_cons.1 hp with rfl | hp
      · simp at hm; exact absurd hc hm
      · exact h2 p hp hc q hq
theorem okL_spec {σ σ' : AH} {chk : List Nat} {R : List (Nat × List Ref)} {p : Prop} (h : okL σ σ' chk R p) : okP σ σ' chk R ∧ p := by
  cases chk with
  | nil => exact ⟨fun p _ hc => by simp at hc, h⟩
  | cons c l => exact okG_spec h

def SureL (l : List OI) : Prop := ∀ o, o ∈ l → ∀ i, o.g.i = .inl i → i.sure = true

/-- What is stepped through is an order's walk. -/
theorem ordP_of_ordI {C : CallP} (hC : C.Mono) {K : Fr → AH → Prop} : ∀ {l : List OI} {fr : Fr} {σ : AH} {R R' : List (Nat × List Ref)}, SureL l → (∀ o, o ∈ l → ∀ o', o' ∈ l → o.ix ∈ o'.chk → o.keep = true) →
    (∀ p, p ∈ R' → p ∈ R ∨ ∀ o', o' ∈ l → p.1 ∉ o'.chk) → ordI C l fr σ R K → ordP C l fr σ R' K
  | [], fr, σ, R, R', _, _, _, h => h
  | o :: l, fr, σ, R, R', hs, hrec, hR, h => by
    have hs' : SureL l := fun o ho => hs o (by simp [ho])
    have hrec' : ∀ o, o ∈ l → ∀ o', o' ∈ l → o.ix ∈ o'.chk → o.keep = true := fun a ha b hb => hrec a (by simp [ha]) b (by simp [hb])
    have h' : opM C o.g σ fr fun x σ' => okL σ σ' o.chk R (fr.putOK o.g.dst x fun fr' => ordI C l fr' σ' (recK o.keep (o.ix, refsI fr o.g.i) R) K) := h
    unfold ordP
    refine opM_mono hC (hs o (by simp)) (fun x σ' hx => ?_) h'
    obtain ⟨h1, h2⟩ := okL_spec hx
    rw [Fr.putOK_eq] at h2
    refine ⟨fun p hp hc q hq => ?_, ordP_of_ordI hC hs' hrec' ?_ h2⟩
    · rcases hR p hp with e | e
      · exact h1 p e hc q hq
      · exact absurd hc (e o (by simp))
    · intro p hp
      rcases List.mem_cons.1 hp with rfl | hp
      · cases hr : o.keep
        · right
          intro o' ho' hc
          have := hrec o (by simp) o' (by simp [ho']) hc
          rw [hr] at this; cases this
        · left; simp [recK, GI.refs]
      · rcases hR p hp with q | q
        · left; cases o.keep <;> simp [recK, q]
        · exact .inr fun o' ho' => q o' (by simp [ho'])

/-! ### Frames that tell the same -/
def Fr.eqv (a b : Fr) : Prop := ∀ n, a.get n = b.get n
theorem Fr.get_putO (fr : Fr) (d : Option Nat) (x : AV) (m : Nat) : (fr.putO d x).get m = if d = some m then some x else fr.get m := by
  cases d with
  | none => simp [Fr.putO]
  | some n =>
    simp only [Fr.putO, Option.some.injEq]
    have key : ∀ fr : Fr, (fr.put n x).get m = if n = m then some x else fr.get m := by
      intro fr
      induction fr with
      | nil => simp [Fr.put, Fr.get, eq_comm]
      | cons p r ih =>
        obtain ⟨k, y⟩ := p
        simp only [Fr.put]
        split
        · simp only [Fr.get, eq_comm]
        · split
          · rename_i h1 h2
            subst h2
            simp only [Fr.get]
            by_cases e : m = n
            · simp [e]
            · have e' : ¬ n = m := fun q => e q.symm
              rw [if_neg e, if_neg e, if_neg e']
          · rename_i h1 h2
            simp only [Fr.get]
            split
            · rename_i h3
              subst h3
              rw [if_neg h2]
            · rw [ih]
    exact key fr
theorem Fr.eqv.put {a b : Fr} (h : a.eqv b) (d : Option Nat) (x : AV) : (a.putO d x).eqv (b.putO d x) := by
  intro n
  rw [Fr.get_putO, Fr.get_putO, h n]
theorem Fr.eqv.agree {a b : Fr} (h : a.eqv b) (l : List Opd) : Agree a b l := by
  intro o _
  cases o with
  | c x => rfl
  | t n => exact h n
theorem Fr.put_comm (fr : Fr) {d d' : Option Nat} (hne : ∀ n, d = some n → d' ≠ some n) (x y : AV) : ((fr.putO d x).putO d' y).eqv ((fr.putO d' y).putO d x) := by
  intro n
  simp only [Fr.get_putO]
  by_cases h1 : d = some n
  · have := hne n h1
    simp [h1, this]
  · simp [h1]
/-- An operation's reading is not turned by another's result. -/
def Free (d : Option Nat) (l : List Opd) : Prop := ∀ n, d = some n → Opd.t n ∉ l
theorem Free.agree {fr : Fr} {d : Option Nat} {x : AV} {l : List Opd} (h : Free d l) : Agree (fr.putO d x) fr l := by
  intro o ho
  cases o with
  | c x => rfl
  | t n =>
    show (fr.putO d x).get n = fr.get n
    rw [Fr.get_putO]
    split
    · rename_i e; exact absurd ho (h n e)
    · rfl

def Closed (K : Fr → AH → Prop) : Prop := ∀ a b σ, Fr.eqv a b → K a σ → K b σ

theorem ordP_mono {C : CallP} (hC : C.Mono) {K : Fr → AH → Prop} (hK : Closed K) : ∀ {l : List OI} {fr fr' : Fr} {σ : AH} {R R' : List (Nat × List Ref)}, SureL l → Fr.eqv fr fr' → (∀ p, p ∈ R' → p ∈ R) → ordP C l fr σ R K → ordP C l fr' σ R' K
  | [], fr, fr', σ, R, R', _, he, _, h => hK _ _ _ he h
  | o :: l, fr, fr', σ, R, R', hs, he, hR, h => by
    unfold ordP at h ⊢
    rw [← opM_congr (he.agree _)]
    refine opM_mono hC (hs o (by simp)) (fun x σ' hx => ⟨fun p hp => hx.1 p (hR p hp), ordP_mono hC hK (fun o ho => hs o (by simp [ho])) (he.put _ _) ?_ hx.2⟩) h
    intro p hp
    rw [← grefs_congr (he.agree _)] at hp
    rcases List.mem_cons.1 hp with rfl | hp
    · simp
    · simp [hR p hp]

/-- Two operations that may be exchanged. -/
structure Apart (a b : OI) : Prop where
  q : a.g.q = true
  dst : ∀ n, a.g.dst = some n → b.g.dst ≠ some n
  fa : Free a.g.dst b.g.opds
  fb : Free b.g.dst a.g.opds
  chk : b.g.q = true ∨ a.ix ∈ b.chk

theorem opM_q_same {C : CallP} {g : GI} (hq : g.q = true) {σ : AH} {fr : Fr} {K : AV → AH → Prop} (h : opM C g σ fr K) : opM C g σ fr fun x τ => τ = σ ∧ K x τ := by
  obtain ⟨i, hi, hs⟩ := GI.q_spec hq
  obtain ⟨x, h1, h2⟩ := opM_mono_q hi hs h
  exact h2 _ ⟨rfl, h1⟩

theorem ordP_swap {C : CallP} (hC : C.Mono) {K : Fr → AH → Prop} (hK : Closed K) {a b : OI} {l : List OI} {fr : Fr} {σ : AH} {R : List (Nat × List Ref)} (hs : SureL (a :: b :: l)) (hab : Apart a b) (h : ordP C (a :: b :: l) fr σ R K) : ordP C (b :: a :: l) fr σ R K := by
  unfold ordP at h
  obtain ⟨i, hi, hsi⟩ := GI.q_spec hab.q
  obtain ⟨x, ⟨_, h1⟩, h2⟩ := opM_mono_q hi hsi h
  unfold ordP at h1
  rw [opM_congr (hab.fa.agree)] at h1
  have hsb := hs b (by simp)
  have h1' : opM C b.g σ fr fun y σ' => (b.g.q = true → σ' = σ) ∧ okP σ σ' b.chk ((a.ix, a.g.refs fr) :: R) ∧ ordP C l ((fr.putO a.g.dst x).putO b.g.dst y) σ' ((b.ix, b.g.refs (fr.putO a.g.dst x)) :: (a.ix, a.g.refs fr) :: R) K := by
    cases hb : b.g.q
    · exact opM_mono hC hsb (fun y σ' h => ⟨by simp, h⟩) h1
    · exact opM_mono hC hsb (fun y σ' h => ⟨fun _ => h.1, h.2⟩) (opM_q_same hb h1)
  unfold ordP
  refine opM_mono hC hsb (fun y σ' hy => ?_) h1'
  obtain ⟨y0, y1, y2⟩ := hy
  refine ⟨fun p hp => y1 p (by simp [hp]), ?_⟩
  have hst : ∀ r, r ∈ a.g.refs fr → r.ok σ σ' := by
    rcases hab.chk with hb | hb
    · intro r _; rw [y0 hb]; exact Ref.ok_refl _ _
    · exact fun r hr => y1 (a.ix, a.g.refs fr) (by simp) hb r hr
  unfold ordP
  rw [opM_congr (fr' := fr) (hab.fb.agree)]
  refine opM_stable hab.q h2 hst _ ⟨fun p _ _ q _ => Ref.ok_refl _ _, ?_⟩
  refine ordP_mono hC hK (fun o ho => hs o (by simp [ho])) (Fr.put_comm fr hab.dst x y) ?_ y2
  intro p hp
  rw [grefs_congr (hab.fb.agree)] at hp
  rw [grefs_congr (hab.fa.agree)]
  simp only [List.mem_cons] at hp ⊢
  rcases hp with h | h | h
  · exact .inr (.inl h)
  · exact .inl h
  · exact .inr (.inr h)

theorem ordP_pull {C : CallP} (hC : C.Mono) {K : Fr → AH → Prop} (hK : Closed K) {b : OI} {l2 : List OI} : ∀ {l1 : List OI} {fr : Fr} {σ : AH} {R : List (Nat × List Ref)}, SureL (l1 ++ b :: l2) → (∀ a, a ∈ l1 → Apart a b) → ordP C (l1 ++ b :: l2) fr σ R K → ordP C (b :: (l1 ++ l2)) fr σ R K
  | [], fr, σ, R, hs, ha, h => h
  | a :: l1, fr, σ, R, hs, ha, h => by
    have hs' : SureL (a :: b :: (l1 ++ l2)) := fun o ho => hs o (by
      simp only [List.mem_cons, List.mem_append, List.cons_append] at ho ⊢
      rcases ho with h | h | h | h
      · exact .inl h
      · exact .inr (.inr (.inl h))
      · exact .inr (.inl h)
      · exact .inr (.inr (.inr h)))
    refine ordP_swap hC hK hs' (ha a (by simp)) ?_
    rw [List.cons_append] at h
    unfold ordP at h ⊢
    exact opM_mono hC (hs a (by simp)) (fun x σ' hx => ⟨hx.1, ordP_pull hC hK (fun o ho => hs o (by simp at ho ⊢; exact .inr ho)) (fun c hc => ha c (by simp [hc])) hx.2⟩) h
end Go.Proofs.Ytppccaacbpkgiaa.V
