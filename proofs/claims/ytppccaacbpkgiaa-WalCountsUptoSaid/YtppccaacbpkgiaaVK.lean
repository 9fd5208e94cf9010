/-
  VK: regions whose order is drawn, told by values: one walk in an order of our own serves every order. What an operation asks hangs on what it reads alone; one that only reads answers one thing.
-/
import Derived.Test.YtppccaacbpkgiaaVB
namespace Go.Proofs.Ytppccaacbpkgiaa.V
open Go Go.RowKit
set_option linter.unusedVariables false
set_option linter.unusedSimpArgs false

/-! ### What an operation reads -/
def RI.opds : RI → List Opd
  | .mv x => [x]
  | .pick c a b => [c, a, b]
  | .bin _ x y => [x, y]
  | .binb _ x y => [x, y]
  | .bins _ x y => [x, y]
  | .eqnil _ x => [x]
  | .eqnilp _ x => [x]
  | .eqagg _ _ x y => [x, y]
  | .un _ x => [x]
  | .conv _ x => [x]
  | .b2s x => [x]
  | .fld _ _ _ x => [x]
  | .faddr _ x => [x]
  | .iaddr _ x i => [x, i]
  | .iaddrA _ _ x i => [x, i]
  | .idxA _ _ _ x i => [x, i]
  | .idxS x i => [x, i]
  | .slice _ x lo hi m => x :: (lo.toList ++ hi.toList ++ m.toList)
  | .sliceS x lo hi => x :: (lo.toList ++ hi.toList)
  | .load _ _ a => [a]
  | .ext _ x => [x]
  | .len x => [x]
  | .lenS x => [x]
  | .cap x => [x]
  | .mn x y => [x, y]
  | .mx x y => [x, y]
  | .nilchk x => [x]
  | .build _ parts => parts.map (·.2.2)
  | .mkfn _ caps => caps
  | .mkfnb _ pre caps => pre ++ caps
def EI.opds : EI → List Opd
  | .alloc _ => []
  | .box _ x => [x]
  | .bslice _ _ _ parts => parts.map (·.2)
  | .store _ a x => [a, x]
  | .mksl _ _ _ l c => [l, c]
  | .append _ _ x y => [x, y]
  | .appendz _ _ _ x n => [x, n]
  | .copy _ x y => [x, y]
  | .s2b x => [x]
  | .mark x => [x]
  | .mkmap => []
  | .look _ _ x k => [x, k]
  | .upd x k v => [x, k, v]
  | .del x k => [x, k]
  | .clr x => [x]
  | .rng x => [x]
  | .next x => [x]
  | .entry x => [x]
  | .call _ args => args
  | .callv f args => f :: args

def Agree (fr fr' : Fr) (l : List Opd) : Prop := ∀ o, o ∈ l → ev fr o = ev fr' o

theorem evs_congr {fr fr' : Fr} : ∀ {l : List Opd}, Agree fr fr' l → evs fr l = evs fr' l
  | [], _ => rfl
  | x :: r, h => by
    unfold evs
    rw [h x (by simp), evs_congr (l := r) (fun o ho => h o (by simp [ho]))]
theorem buildR_congr {fr fr' : Fr} : ∀ {parts : List (Nat × Nat × Opd)} {cells : List AV} {K : List AV → Prop}, Agree fr fr' (parts.map (·.2.2)) → buildR fr cells parts K = buildR fr' cells parts K
  | [], _, _, _ => rfl
  | (off, n, x) :: r, cells, K, h => by
    unfold buildR
    rw [h x (by simp)]
    split
    · rw [buildR_congr (parts := r) (fun o ho => h o (by simp at ho; simp [ho]))]
    · rfl
theorem bsliceR_congr {fr fr' : Fr} {sz : Nat} : ∀ {parts : List (Nat × Opd)} {rows : List (List AV)} {K : List (List AV) → Prop}, Agree fr fr' (parts.map (·.2)) → bsliceR fr sz rows parts K = bsliceR fr' sz rows parts K
  | [], _, _, _ => rfl
  | (i, x) :: r, rows, K, h => by
    unfold bsliceR
    rw [h x (by simp)]
    split
    · rw [bsliceR_congr (parts := r) (fun o ho => h o (by simp at ho; simp [ho]))]
    · rfl
theorem intOR_congr {fr fr' : Fr} {x : Option Opd} {d : Int} {K : Int → Prop} (h : Agree fr fr' x.toList) : intOR fr x d K = intOR fr' x d K := by
  cases x with
  | none => rfl
  | some x => simp only [intOR, intR]; rw [h x (by simp)]

theorem roI_congr {σ : AH} {fr fr' : Fr} {K : AV → Prop} : ∀ {i : RI}, Agree fr fr' i.opds → roI σ fr i K = roI σ fr' i K := by
  intro i h
  cases i
  case slice sz x lo hi mx =>
    have h0 : ev fr x = ev fr' x := h x (by simp [RI.opds])
    have h1 : Agree fr fr' lo.toList := fun o ho => h o (by simp [RI.opds, ho])
    have h2 : ∀ y, hi = some y → ev fr y = ev fr' y := fun y hy => h y (by simp [RI.opds, hy])
    have h3 : ∀ y, mx = some y → ev fr y = ev fr' y := fun y hy => h y (by simp [RI.opds, hy])
    simp only [roI, evR, h0]
    split
    · rw [intOR_congr h1]
      congr 1
      funext l
      cases hi <;> cases mx <;> simp only [intR] <;> first | rfl | (rw [h2 _ rfl]) 
      rw [h3 _ rfl]
    · rfl
  case sliceS x lo hi =>
    have h0 : ev fr x = ev fr' x := h x (by simp [RI.opds])
    have h1 : Agree fr fr' lo.toList := fun o ho => h o (by simp [RI.opds, ho])
    have h2 : Agree fr fr' hi.toList := fun o ho => h o (by simp [RI.opds, ho])
    simp only [roI, evR, h0]
    split
    · split
      · rw [intOR_congr h1]
        congr 1
        funext l
        rw [intOR_congr h2]
      · rfl
    · rfl
  case build zero parts => exact buildR_congr h
  case mkfn f caps => simp only [roI]; rw [evs_congr (l := caps) h]
  case mkfnb f pre caps =>
    simp only [roI]
    rw [evs_congr (l := pre) fun x hx => h x (by simp only [RI.opds, List.mem_append]; exact .inl hx), evs_congr (l := caps) fun x hx => h x (by simp only [RI.opds, List.mem_append]; exact .inr hx)]
  all_goals
    simp only [RI.opds, Agree, List.mem_cons, List.not_mem_nil, or_false, forall_eq_or_imp, forall_eq] at h
    simp only [roI, evR, intR, h]

theorem efI_congr {C : CallP} {σ : AH} {fr fr' : Fr} {K : AV → AH → Prop} : ∀ {i : EI}, Agree fr fr' i.opds → efI C σ fr i K = efI C σ fr' i K := by
  intro i h
  cases i
  case bslice sz zero n parts => simp only [efI]; rw [bsliceR_congr h]
  case call f args => simp only [efI]; rw [evs_congr (l := args) h]
  case callv f args =>
    have h0 : ev fr f = ev fr' f := h f (by simp [EI.opds])
    have h1 := evs_congr (l := args) (fun o ho => h o (by simp [EI.opds, ho]))
    simp only [efI, evR, h0, h1]
  all_goals
    simp only [EI.opds, Agree, List.mem_cons, List.not_mem_nil, or_false, forall_eq_or_imp, forall_eq] at h
    simp only [efI, evR, intR, h]

/-! ### One answer -/
def Det (M : (AV → Prop) → Prop) : Prop := ∀ K, M K → ∃ x, K x ∧ ∀ K', K' x → M K'

theorem Det.one (x : AV) : Det fun K => K x := fun K h => ⟨x, h, fun _ h => h⟩
theorem Det.no : Det fun _ => False := fun _ h => h.elim
theorem Det.and {p : Prop} {M : (AV → Prop) → Prop} (h : Det M) : Det fun K => p ∧ M K := fun K ⟨hp, hm⟩ =>
  let ⟨x, h1, h2⟩ := h K hm; ⟨x, h1, fun K' h' => ⟨hp, h2 K' h'⟩⟩
theorem Det.br {p : Prop} {M N : (AV → Prop) → Prop} (hM : Det M) (hN : Det N) : Det fun K => Br p (M K) (N K) := fun K h => by
  by_cases hp : p
  · obtain ⟨x, h1, h2⟩ := hM K (h.1 hp)
    exact ⟨x, h1, fun K' h' => ⟨fun _ => h2 K' h', fun q => absurd hp q⟩⟩
  · obtain ⟨x, h1, h2⟩ := hN K (h.2 hp)
    exact ⟨x, h1, fun K' h' => ⟨fun q => absurd q hp, fun _ => h2 K' h'⟩⟩
theorem Det.bool {p : Prop} : Det fun K => boolR p K := .br (.one _) (.one _)
theorem Det.arith {k : IntKind} {n : Int} : Det fun K => arithR k n K := by
  cases k <;> first | exact .one _ | exact .br (.one _) (.one _)
theorem Det.nthK : ∀ {l : List AV} {n : Nat}, Det fun K => V.nthK l n K
  | [], n => .no
  | x :: r, 0 => .one x
  | x :: r, n + 1 => Det.nthK (l := r)
theorem Det.take {M : List AV → (AV → Prop) → Prop} (hM : ∀ l, Det (M l)) {n : Nat} {l : List AV} : Det fun K => takeK n l fun l => M l K := by
  have : (fun K => takeK n l fun l => M l K) = fun K => M (l.take n) K := by funext K; exact takeK_eq n l _
  rw [this]; exact hM _
theorem Det.drop {M : List AV → (AV → Prop) → Prop} (hM : ∀ l, Det (M l)) {n : Nat} {l : List AV} : Det fun K => dropK n l fun l => M l K := by
  have : (fun K => dropK n l fun l => M l K) = fun K => M (l.drop n) K := by funext K; exact dropK_eq n l _
  rw [this]; exact hM _
theorem Det.loadRow {agg : Bool} {n off : Nat} {row : List AV} : Det fun K => V.loadRow agg n off row K := by
  cases agg
  · exact .nthK
  · exact .and (.drop fun _ => .take fun _ => .one _)
theorem Det.nthR {M : List AV → (AV → Prop) → Prop} (hM : ∀ row, Det (M row)) : ∀ {l : List (List AV)} {n : Nat}, Det fun K => V.nthR l n fun row => M row K
  | [], n => .no
  | x :: r, 0 => hM x
  | x :: r, n + 1 => Det.nthR hM (l := r)
theorem Det.wrap {A B : (AV → Prop) → Prop} (h : Det B) (h1 : ∀ K, A K → B K) (h2 : ∀ K, B K → A K) : Det A := fun K hk =>
  let ⟨x, hx, h3⟩ := h K (h1 K hk); ⟨x, hx, fun K' h' => h2 _ (h3 K' h')⟩
theorem Det.blk {σ : AH} {id gen : Nat} {M : Blk → (AV → Prop) → Prop} (hM : ∀ b, Det (M b)) : Det fun K => blkAt σ id gen fun b => M b K := by
  refine .wrap (B := fun K => blkD σ id gen fun b => M b K) ?_ (fun _ h => h.ok) (fun _ h => ⟨h⟩)
  unfold blkD
  cases σ[id]? with
  | none => exact .no
  | some b => exact .and (.and (hM b))
theorem Det.evR {fr : Fr} {x : Opd} {M : AV → (AV → Prop) → Prop} (hM : ∀ v, Det (M v)) : Det fun K => V.evR fr x fun v => M v K := by
  unfold V.evR
  cases ev fr x with
  | none => exact .no
  | some v => exact hM v
theorem Det.intR {fr : Fr} {x : Opd} {M : Int → (AV → Prop) → Prop} (hM : ∀ v, Det (M v)) : Det fun K => V.intR fr x fun v => M v K := by
  unfold V.intR
  cases ev fr x with
  | none => exact .no
  | some v => cases v <;> first | exact .no | exact hM _
theorem Det.intOR {fr : Fr} {x : Option Opd} {d : Int} {M : Int → (AV → Prop) → Prop} (hM : ∀ v, Det (M v)) : Det fun K => V.intOR fr x d fun v => M v K := by
  cases x with
  | none => exact hM d
  | some x => exact .intR hM
theorem Det.hi {h : Option Int} {d : Int} {M : Int → (AV → Prop) → Prop} (hM : ∀ v, Det (M v)) : Det fun K => hiR h d fun v => M v K := by
  cases h with
  | none => exact hM d
  | some x => exact hM x
theorem Det.mx {m : Option Int} {h : Int} {M N : (AV → Prop) → Prop} (hM : Det M) (hN : Det N) : Det fun K => mxR m h (M K) (N K) := by
  cases m with
  | none => exact hN
  | some x => exact .and hM
theorem Det.slice {σ : AH} {sz : Nat} {x : AV} {lo : Int} {hi mx : Option Int} : Det fun K => sliceR σ sz x lo hi mx K := by
  unfold sliceR
  cases x
  case nils => exact .hi fun _ => .and (.and (.mx (.one _) (.one _)))
  case sl => exact .hi fun _ => .and (.and (.and (.and (.mx (.one _) (.one _)))))
  case rsl => exact .blk fun _ => .hi fun _ => .and (.and (.and (.and (.mx (.one _) (.one _)))))
  all_goals exact .no
theorem Det.rows {σ : AH} {sz : Nat} {x : AV} {M : Bool → List (List AV) → (AV → Prop) → Prop} (hM : ∀ p l, Det (M p l)) : Det fun K => rowsR σ sz x fun p l => M p l K := by
  unfold rowsR
  cases x
  case nils => exact hM _ _
  case sl => exact .and (hM _ _)
  case slx => exact .and (hM _ _)
  case rsl => exact .blk fun _ => .and (.and (hM _ _))
  all_goals exact .no
theorem Det.bytes {l : List (List AV)} {M : List UInt8 → (AV → Prop) → Prop} (hM : ∀ s, Det (M s)) : Det fun K => bytesR l fun s => M s K := by
  unfold bytesR
  cases bytesOf l with
  | none => exact .no
  | some s => exact hM s
theorem Det.rowsW {σ : AH} {sz : Nat} {x : AV} {M : Bool → List (List AV) → (AV → Prop) → Prop} (hM : ∀ p l, Det (M p l)) : Det fun K => RowsW σ sz x fun p l => M p l K :=
  .wrap (.rows hM) (fun _ h => h.ok) (fun _ h => ⟨h⟩)
theorem Det.bytesW {l : List (List AV)} {M : List UInt8 → (AV → Prop) → Prop} (hM : ∀ s, Det (M s)) : Det fun K => BytesW l fun s => M s K :=
  .wrap (.bytes hM) (fun _ h => h.ok) (fun _ h => ⟨h⟩)
theorem Det.build {fr : Fr} {M : List AV → (AV → Prop) → Prop} (hM : ∀ l, Det (M l)) : ∀ {parts : List (Nat × Nat × Opd)} {cells : List AV}, Det fun K => buildR fr cells parts fun l => M l K
  | [], _ => hM _
  | (off, n, x) :: r, cells => by
    unfold buildR
    cases ev fr x with
    | none => exact .no
    | some v => exact .and (.and (.and (Det.build hM (parts := r))))
theorem Det.bin {op : BinOp} {k k' : IntKind} {a b : Int} : Det fun K => binI op k a k' b K := by
  cases op <;> first | exact .and .arith | exact .and (.and (.br .arith .arith)) | exact .and (.and (.br (.one _) (.one _))) | exact .and .bool | exact .and (.one _) | exact .no
theorem Det.binB {op : BinOp} {a b : Bool} : Det fun K => V.binB op a b K := by
  cases op <;> first | exact .bool | exact .no
theorem Det.binS {op : BinOp} {a b : List UInt8} : Det fun K => V.binS op a b K := by
  cases op <;> first | exact .bool | exact .no
theorem Det.un {op : UnOp} {x : AV} : Det fun K => unR op x K := by
  cases op <;> cases x <;> first | exact .no | exact .arith | exact .one _
theorem Det.len {σ : AH} {x : AV} : Det fun K => lenR σ x fun n => K (.int .i64 n) := by
  cases x <;> first | exact .no | exact .one _ | exact .blk fun _ => .one _
theorem Det.cap {σ : AH} {x : AV} : Det fun K => capR σ x fun n => K (.int .i64 n) := by
  unfold capR
  cases x
  case nils => exact .one _
  case rsl id gen off len c => cases c <;> first | exact .blk fun _ => .one _ | exact .blk fun _ => .and (.one _)
  all_goals exact .no
theorem Det.iaddr {σ : AH} {sz : Nat} {x : AV} {n : Int} : Det fun K => iaddrR σ sz x n K := by
  unfold iaddrR
  cases x
  case sl => exact .and (.and (.nthR fun _ => .one _))
  case rsl => exact .blk fun _ => .and (.and (.and (.one _)))
  all_goals exact .no

theorem Det.iaddrW {σ : AH} {sz : Nat} {x : AV} {n : Int} : Det fun K => IaW σ sz x n K := .wrap .iaddr (fun _ h => h.ok) (fun _ h => ⟨h⟩)
theorem Det.sliceW {σ : AH} {sz : Nat} {x : AV} {lo : Int} {hi mx : Option Int} : Det fun K => SliceW σ sz x lo hi mx K := .wrap .slice (fun _ h => h.ok) (fun _ h => ⟨h⟩)
def RI.sure : RI → Bool
  | .eqnil _ _ => false
  | _ => true

theorem roI_det {σ : AH} {fr : Fr} : ∀ {i : RI}, i.sure = true → Det (roI σ fr i) := by
  intro i hi
  cases i
  case mv x => exact .evR fun v => .one v
  case pick c a b => exact .evR fun v => by cases v <;> first | exact .no | (rename_i t; cases t <;> exact .evR fun v => .one v)
  case bin op x y => exact .evR fun v => by cases v <;> first | exact .no | exact .evR fun u => by cases u <;> first | exact .no | exact .bin
  case binb op x y => exact .evR fun v => by cases v <;> first | exact .no | exact .evR fun u => by cases u <;> first | exact .no | exact .binB
  case bins op x y => exact .evR fun v => by cases v <;> first | exact .no | exact .evR fun u => by cases u <;> first | exact .no | exact .binS
  case eqnil => cases hi
  case eqagg ne ks x y =>
    refine .evR fun v => ?_
    cases v
    case agg l =>
      refine Det.evR (M := fun u K => match u with | .agg m => (match scalKs ks l m with | some p => Br p (K (.bool (!ne))) (K (.bool ne)) | none => False) | _ => False) fun u => ?_
      cases u
      case agg m =>
        show Det fun K => match scalKs ks l m with | some p => Br p (K (.bool (!ne))) (K (.bool ne)) | none => False
        cases scalKs ks l m
        · exact .no
        · exact .br (.one _) (.one _)
      all_goals exact .no
    all_goals exact .no
  case un op x => exact .evR fun v => .un
  case conv k x => exact .evR fun v => by cases v <;> first | exact .no | exact .arith
  case b2s x => exact .evR fun v => .rowsW fun _ l => .bytesW fun s => .one _
  case fld agg off n x => exact .evR fun v => by cases v <;> first | exact .no | exact .loadRow
  case eqnilp ne x => exact .evR fun v => by cases v <;> first | exact .no | exact .one _ | exact .blk fun _ => .one _
  case faddr off x => exact .evR fun v => by cases v <;> first | exact .no | exact .one _ | exact .blk fun _ => .one _
  case iaddr sz x i => exact .evR fun v => .intR fun n => .iaddrW
  case iaddrA len sz x i => exact .evR fun v => .intR fun n => .and (.and (by cases v <;> first | exact .no | exact .one _ | exact .blk fun _ => .one _))
  case idxA agg len sz x i => exact .evR fun v => .intR fun n => by cases v <;> first | exact .no | exact .and (.and .loadRow)
  case idxS x i =>
    refine .evR fun v => .intR (M := fun n K => match v with | .str s => 0 ≤ n ∧ n < s.length ∧ ∀ b, s[n.toNat]? = some b → K (.int .u8 b.toNat) | _ => False) fun n => ?_
    cases v
    case str s =>
      intro K h
      obtain ⟨h0, h1, h2⟩ := h
      by_cases hn : n.toNat < s.length
      · have e := List.getElem?_eq_getElem hn
        exact ⟨_, h2 _ e, fun K' h' => ⟨h0, h1, fun b hb => by rw [e] at hb; cases hb; exact h'⟩⟩
      · exfalso; omega
    all_goals exact .no
  case slice sz x lo h m =>
    refine .evR fun v => .intOR fun l => ?_
    cases h <;> cases m <;> first | exact .no | exact .sliceW | exact .intR fun _ => .sliceW | exact .intR fun _ => .intR fun _ => .sliceW
  case sliceS x lo hi => exact .evR fun v => by cases v <;> first | exact .no | exact .intOR fun l => .intOR fun h => .and (.and (.and (.one _)))
  case load agg n a => exact .evR fun v => by cases v <;> first | exact .no | exact .loadRow | exact .blk fun b => .nthR fun row => .loadRow
  case ext i x => exact .evR fun v => by cases v <;> first | exact .no | (rename_i l; cases h : l[i]? <;> simp only [h] <;> first | exact .no | exact .one _)
  case len x => exact .evR fun v => .wrap .len (fun _ h => h.ok) (fun _ h => ⟨h⟩)
  case lenS x => exact .evR fun v => by cases v <;> first | exact .no | exact .one _
  case cap x => exact .evR fun v => .cap
  case mn x y => exact .evR fun v => by cases v <;> first | exact .no | exact .evR fun u => by cases u <;> first | exact .no | exact .br (.one _) (.one _)
  case mx x y => exact .evR fun v => by cases v <;> first | exact .no | exact .evR fun u => by cases u <;> first | exact .no | exact .br (.one _) (.one _)
  case nilchk x => exact .evR fun v => by cases v <;> first | exact .no | exact .one _ | exact .blk fun _ => .one _
  case build zero parts => exact .build fun l => .one _
  case mkfn f caps =>
    show Det fun K => match evs fr caps with | some l => K (.fn f l) | none => False
    cases evs fr caps <;> first | exact .no | exact .one _
  case mkfnb f pre caps =>
    show Det fun K => match evs fr pre, evs fr caps with | some l, some m => K (.fnb f l m) | _, _ => False
    cases evs fr pre <;> cases evs fr caps <;> first | exact .no | exact .one _

/-! ### What a reading hangs on -/
theorem Ref.ok_refl (σ : AH) (r : Ref) : r.ok σ σ := by
  cases r
  · exact fun b h => ⟨b, h, rfl, rfl, rfl, rfl, rfl⟩
  · exact fun b h => ⟨b, h, rfl, rfl, rfl, rfl, rfl⟩

theorem blk_sh {σ σ' : AH} {id gen : Nat} {K K' : Blk → Prop} (h : blkAt σ id gen K) (hr : (Ref.sh id).ok σ σ') (hk : ∀ b b', b'.sz = b.sz → b'.els.length = b.els.length → b'.full = b.full → K b → K' b') : blkAt σ' id gen K' := by
  refine ⟨?_⟩
  replace h := h.ok
  unfold blkD at h ⊢
  split at h
  · rename_i b hb
    obtain ⟨b', h1, h2, h3, h4, h5, h6⟩ := hr b hb
    rw [h1]
    exact ⟨h2.trans h.1, h6.trans h.2.1, hk b b' h3 h4 h5 h.2.2⟩
  · exact h.elim
theorem blk_co {σ σ' : AH} {id gen : Nat} {K K' : Blk → Prop} (h : blkAt σ id gen K) (hr : (Ref.co id).ok σ σ') (hk : ∀ b b', b'.sz = b.sz → b'.els = b.els → b'.pure = b.pure → K b → K' b') : blkAt σ' id gen K' := by
  refine ⟨?_⟩
  replace h := h.ok
  unfold blkD at h ⊢
  split at h
  · rename_i b hb
    obtain ⟨b', h1, h2, h3, h4, h5, h6⟩ := hr b hb
    rw [h1]
    exact ⟨h2.trans h.1, h6.trans h.2.1, hk b b' h3 h4 h5 h.2.2⟩
  · exact h.elim

theorem slice_stable {σ σ' : AH} {sz : Nat} {x : AV} {lo : Int} {hi mx : Option Int} {K : AV → Prop} (h : sliceR σ sz x lo hi mx K) (hr : ∀ r, r ∈ shOf x → r.ok σ σ') : sliceR σ' sz x lo hi mx K := by
  cases x
  case rsl id gen off len cap =>
    refine blk_sh h (hr _ (by simp [shOf])) ?_
    intro b b' h1 h2 h3 h
    cases hi <;> simp only [hiR] at h ⊢ <;> rw [h1, h2] <;> exact h
  all_goals exact h

theorem roI_stable {σ σ' : AH} {fr : Fr} {K : AV → Prop} : ∀ {i : RI}, roI σ fr i K → (∀ r, r ∈ i.refs fr → r.ok σ σ') → roI σ' fr i K := by
  intro i h hr
  cases i
  case eqnil ne x =>
    simp only [roI, evR, RI.refs, refOf] at h hr ⊢
    cases hx : ev fr x with
    | none => rw [hx] at h; exact h
    | some v =>
      simp only [hx] at h hr ⊢
      cases v
      case rsl id gen off len cap => exact ⟨blk_sh h.ok (hr _ (by simp [shOf])) (fun b b' _ _ _ h => h)⟩
      all_goals exact ⟨h.ok⟩
  case b2s x =>
    simp only [roI, evR, RI.refs, refOf] at h hr ⊢
    cases hx : ev fr x with
    | none => rw [hx] at h; exact h
    | some v =>
      simp only [hx] at h hr ⊢
      cases v
      case rsl id gen off len cap => exact ⟨blk_co h.ok (hr _ (by simp [coOf])) (fun b b' h1 h2 h3 h => by rw [h1, h2, h3]; exact h)⟩
      all_goals exact ⟨h.ok⟩
  case eqnilp ne x =>
    simp only [roI, evR, RI.refs, refOf] at h hr ⊢
    cases hx : ev fr x with
    | none => rw [hx] at h; exact h
    | some v =>
      simp only [hx] at h hr ⊢
      cases v
      case ptr id gen idx o => exact blk_sh h (hr _ (by simp [shOf])) (fun b b' _ _ _ h => h)
      all_goals exact h
  case faddr off x =>
    simp only [roI, evR, RI.refs, refOf] at h hr ⊢
    cases hx : ev fr x with
    | none => rw [hx] at h; exact h
    | some v =>
      simp only [hx] at h hr ⊢
      cases v
      case ptr id gen idx o => exact blk_sh h (hr _ (by simp [shOf])) (fun b b' _ _ _ h => h)
      all_goals exact h
  case iaddr sz x i =>
    simp only [roI, evR, RI.refs, refOf] at h hr ⊢
    cases hx : ev fr x with
    | none => rw [hx] at h; exact h
    | some v =>
      simp only [hx, intR] at h hr ⊢
      split at h
      · cases v
        case rsl id gen off len cap => exact ⟨blk_sh h.ok (hr _ (by simp [shOf])) (fun b b' h1 _ _ h => by rw [h1]; exact h)⟩
        all_goals exact ⟨h.ok⟩
      · exact h
  case iaddrA len sz x i =>
    simp only [roI, evR, RI.refs, refOf] at h hr ⊢
    cases hx : ev fr x with
    | none => rw [hx] at h; exact h
    | some v =>
      simp only [hx, intR] at h hr ⊢
      split at h
      · cases v
        case ptr id gen idx o => exact ⟨h.1, h.2.1, blk_sh h.2.2 (hr _ (by simp [shOf])) (fun b b' h1 _ _ h => h)⟩
        all_goals exact h
      · exact h
  case slice sz x lo hi mx =>
    simp only [roI, evR, RI.refs, refOf] at h hr ⊢
    cases hx : ev fr x with
    | none => rw [hx] at h; exact h
    | some v =>
      simp only [hx] at h hr ⊢
      cases lo <;> cases hi <;> cases mx <;> simp only [intOR, intR] at h ⊢ <;> (try split at h) <;> (try split at h) <;> (try split at h) <;> first | exact h.elim | exact ⟨slice_stable h.ok hr⟩
  case load agg n a =>
    simp only [roI, evR, RI.refs, refOf] at h hr ⊢
    cases hx : ev fr a with
    | none => rw [hx] at h; exact h
    | some v =>
      simp only [hx] at h hr ⊢
      cases v
      case ptr id gen idx o => exact blk_co h (hr _ (by simp [coOf])) (fun b b' h1 h2 h3 h => by rw [h2]; exact h)
      all_goals exact h
  case len x =>
    simp only [roI, evR, RI.refs, refOf] at h hr ⊢
    cases hx : ev fr x with
    | none => rw [hx] at h; exact h
    | some v =>
      simp only [hx] at h hr ⊢
      cases v
      case rsl id gen off len cap => exact ⟨blk_sh h.ok (hr _ (by simp [shOf])) (fun b b' _ _ _ h => h)⟩
      all_goals exact ⟨h.ok⟩
  case cap x =>
    simp only [roI, evR, RI.refs, refOf] at h hr ⊢
    cases hx : ev fr x with
    | none => rw [hx] at h; exact h
    | some v =>
      simp only [hx] at h hr ⊢
      cases v
      case rsl id gen off len cap =>
        cases cap
        · exact blk_sh h (hr _ (by simp [shOf])) (fun b b' _ h2 h3 h => by rw [h2, h3]; exact h)
        · exact blk_sh h (hr _ (by simp [shOf])) (fun b b' _ _ _ h => h)
      all_goals exact h
  case nilchk x =>
    simp only [roI, evR, RI.refs, refOf] at h hr ⊢
    cases hx : ev fr x with
    | none => rw [hx] at h; exact h
    | some v =>
      simp only [hx] at h hr ⊢
      cases v
      case ptr id gen idx o => exact blk_sh h (hr _ (by simp [shOf])) (fun b b' _ _ _ h => h)
      all_goals exact h
  all_goals exact h
theorem refs_congr {fr fr' : Fr} : ∀ {i : RI}, Agree fr fr' i.opds → i.refs fr = i.refs fr' := by
  intro i h
  cases i <;> first | rfl | (simp only [RI.refs, refOf]; rw [h _ (by simp [RI.opds])])
end Go.Proofs.Ytppccaacbpkgiaa.V
