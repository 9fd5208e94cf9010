/-
  VJ: arguments as they come in, read as abstract values; a law's contract made into its row's post.
-/
import Derived.Test.YtppccaacbpkgiaaVI
import Derived.ChangeArms
import Derived.OpenShut
import Derived.Carry
import Derived.JoinedCond
namespace Go.Proofs.Ytppccaacbpkgiaa.V
open Go Go.RowKit Go.ChangeShapes Go.WideShapes
set_option linter.unusedVariables false

abbrev BulkF := (H : Type) → DataW H → Nat

/-- How much a reading holds. -/
structure Bulky (B : BulkF) : Prop where
  one : ∀ (H : Type) (d : DataW H), 1 ≤ B H d
  str : ∀ (H : Type) (s : List UInt8), s.length + 1 ≤ B H (.lit (.string s))
  slice : ∀ (H : Type) (es sp : List (DataW H)), (es.map (B H)).sum + 1 ≤ B H (.slice es sp)
  agg : ∀ (H : Type) (es : List (DataW H)), (es.map (B H)).sum + 1 ≤ B H (.agg es)

/-- Cells of a type, read: which plain thing they are. -/
def Reads (P : Program) (B : BulkF) (t : TypeId) {X : Type} (enc : X → List AV) (μ : X → Nat) (ok : X → Prop) : Prop :=
  ∀ (z : Zone) (H : Type) (e : TypeId × Value → H) (w : World) (spare : Nat → Bool) (held : Bool) (fuel : Nat) (cs : List Value) (d : DataW H) (ps : List MemPlace),
    DataW.trod e P w 0 spare held fuel t cs = some (d, ps) → ∃ x, @RepVL z w (EW []) cs (enc x) ∧ (∀ v, v ∈ cs → v.oneCell' = true) ∧ ok x ∧ μ x ≤ B H d

section
variable {P : Program} {B : BulkF} {t : TypeId}

theorem Reads.iso {X Y : Type} {enc : X → List AV} {μ : X → Nat} {ok : X → Prop} (h : Reads P B t enc μ ok) (g : X → Y) {enc' : Y → List AV} {μ' : Y → Nat} {ok' : Y → Prop}
    (he : ∀ x, enc' (g x) = enc x) (hm : ∀ x, ok x → μ' (g x) ≤ μ x) (ho : ∀ x, ok x → ok' (g x)) : Reads P B t enc' μ' ok' := by
  intro z H e w spare held fuel cs d ps hd
  obtain ⟨x, h1, h2, h3, h4⟩ := h z H e w spare held fuel cs d ps hd
  exact ⟨g x, by rw [he]; exact h1, h2, ho x h3, Nat.le_trans (hm x h3) h4⟩

theorem Reads.int (hB : Bulky B) {k : IntKind} (ht : P.underlying t = some (.int k)) : Reads P B t (fun n : Int => [.int k n]) (fun _ => 1) (fun n => (Lit.int k n).wf = true) := by
  intro z H e w spare held fuel cs d ps hd
  obtain ⟨n, rfl, hx, hw⟩ := DataW.trod_int ht hd
  cases hx
  exact ⟨n, .cons (.int k n) .nil, by simp [Value.oneCell'], hw, hB.one _ _⟩

theorem Reads.i64 (hB : Bulky B) (ht : P.underlying t = some (.int .i64)) : Reads P B t (fun n : Int => [.int .i64 n]) (fun _ => 1) (fun n => -9223372036854775808 ≤ n ∧ n ≤ 9223372036854775807) :=
  (Reads.int hB ht).iso id (fun _ => rfl) (fun _ _ => Nat.le_refl _) (fun _ h => bounds_i64 h)

theorem Reads.u8 (hB : Bulky B) (ht : P.underlying t = some (.int .u8)) : Reads P B t (fun b : UInt8 => [.int .u8 b.toNat]) (fun _ => 1) (fun _ => True) := by
  intro z H e w spare held fuel cs d ps hd
  obtain ⟨n, rfl, hx, hw⟩ := DataW.trod_int ht hd
  cases hx
  have hb := bounds_u8 hw
  refine ⟨UInt8.ofNat n.toNat, ?_, by simp [Value.oneCell'], trivial, hB.one _ _⟩
  have e1 : ((UInt8.ofNat n.toNat).toNat : Int) = n := by
    rw [UInt8.toNat_ofNat']
    omega
  show RepVL w (EW []) [Value.int IntKind.u8 n] [AV.int .u8 ((UInt8.ofNat n.toNat).toNat : Int)]
  rw [e1]
  exact .cons (.int .u8 n) .nil

theorem Reads.bool (hB : Bulky B) (ht : P.underlying t = some .bool) : Reads P B t (fun b : Bool => [.bool b]) (fun _ => 1) (fun _ => True) := by
  intro z H e w spare held fuel cs d ps hd
  obtain ⟨b, rfl, hx⟩ := DataW.trod_bool ht hd
  cases hx
  exact ⟨b, .cons (.bool b) .nil, by simp [Value.oneCell'], trivial, hB.one _ _⟩

theorem Reads.str (hB : Bulky B) (ht : P.underlying t = some .string) : Reads P B t (fun s : List UInt8 => [.str s]) (fun s => s.length + 1) (fun _ => True) := by
  intro z H e w spare held fuel cs d ps hd
  obtain ⟨s, rfl, hx, hl⟩ := DataW.trod_string ht hd
  cases hx
  exact ⟨s.data.toList, .cons (.str s _ rfl) .nil, by simp [Value.oneCell'], trivial, hB.str _ _⟩

theorem addr_add (a : Addr) (m n : Nat) : (a.add m).add n = a.add (m + n) := by
  unfold Addr.add
  by_cases hm : m = 0 <;> by_cases hn : n = 0 <;> simp [hm, hn, Nat.add_assoc]

theorem cells?_get {w : World} {base : Nat} {a : Addr} {n : Nat} {cs : List Value} (h : w.cells? base a n = some cs) : cs.length = n ∧ ∀ j u, cs[j]? = some u → w.cell? (a.add j) = some u := by
  obtain ⟨_, hl, hcell⟩ := World.cells?_some h
  refine ⟨hl, fun j u hu => ?_⟩
  have hj : j < n := by rw [← hl]; exact (List.getElem?_eq_some_iff.1 hu).1
  rw [hcell j hj, hu]

theorem Reads.slice (hB : Bulky B) {e : TypeId} {sz : Nat} {X : Type} {enc : X → List AV} {μ : X → Nat} {ok : X → Prop} (ht : P.underlying t = some (.slice e)) (hc : P.cellsOf e = sz) (he : Reads P B e enc μ ok)
    (hlen : ∀ x, (enc x).length = sz) :
    Reads P B t (fun l : List X => [.sl sz (l.map enc) false]) (fun l => (l.map μ).sum + 1) (fun l => ∀ x, x ∈ l → ok x) := by
  intro z H en w spare held fuel cs d ps hd
  rcases DataW.trod_slice ht hd with ⟨rfl, hx⟩ | ⟨a, len, cap, elems, rest, n, rfl, rfl, hx, hb, hl, hm, hlen', hel, _, _⟩
  · cases hx
    exact ⟨[], .cons (.slnil sz false) .nil, by simp [Value.oneCell'], by simp, by simpa using hB.one _ _⟩
  · cases hx
    have key : ∀ k, k ≤ len → ∃ (xs : List X) (CS : List Value), xs.length = k ∧ CS.length = k * sz ∧ @RepVL z w (EW []) CS (xs.map enc).flatten ∧ (∀ j u, CS[j]? = some u → w.cell? (a.add j) = some u) ∧
        (∀ v, v ∈ CS → v.oneCell' = true) ∧ (∀ x, x ∈ xs → ok x) ∧ (xs.map μ).sum ≤ ((elems.take k).map fun y => B H y.1).sum := by
      intro k
      induction k with
      | zero => intro _; exact ⟨[], [], rfl, by simp, .nil, by simp, by simp, by simp, by simp⟩
      | succ k ih =>
        intro hk
        obtain ⟨xs, CS, h1, h2, h3, h4, h5, h6, h7⟩ := ih (by omega)
        have hg : elems[k]? = some (elems[k]'(by omega)) := List.getElem?_eq_getElem (by omega)
        have hk' := hel k (by omega)
        rw [hg, Option.bind_eq_some_iff] at hk'
        obtain ⟨cs', hcs, htr⟩ := hk'
        obtain ⟨x, r1, r2, r3, r4⟩ := he z H en w spare held n cs' _ _ htr
        obtain ⟨g1, g2⟩ := cells?_get hcs
        refine ⟨xs ++ [x], CS ++ cs', by simp [h1], ?_, ?_, ?_, ?_, ?_, ?_⟩
        · rw [List.length_append, h2, g1, hc, Nat.succ_mul]
        · rw [List.map_append, List.flatten_append]
          exact h3.append (by simpa using r1)
        · intro j u hj
          rw [List.getElem?_append] at hj
          split at hj
          · exact h4 j u hj
          · rename_i hge
            have := g2 _ _ hj
            rw [addr_add, hc] at this
            rw [← this]
            congr 2
            omega
        · intro v hv
          rcases List.mem_append.1 hv with hv | hv
          · exact h5 v hv
          · exact r2 v hv
        · intro y hy
          rcases List.mem_append.1 hy with hy | hy
          · exact h6 y hy
          · simp at hy; subst hy; exact r3
        · rw [List.take_add_one, hg]
          simp only [List.map_append, List.sum_append, Option.toList_some, List.map_cons, List.map_nil, List.sum_cons, List.sum_nil, Nat.add_zero]
          exact Nat.add_le_add h7 r4
    obtain ⟨xs, CS, h1, h2, h3, h4, h5, h6, h7⟩ := key len (Nat.le_refl _)
    refine ⟨xs, ?_, by simp [Value.oneCell'], h6, ?_⟩
    · refine .cons ?_ .nil
      have := @RepV.sl z w (EW []) a cap sz (xs.map enc) false CS (fun q => by cases q) (by simpa [h1] using hl) hm (by
        intro r hr
        obtain ⟨x, _, rfl⟩ := List.mem_map.1 hr
        exact hlen x) (fun _ => ew_nil _) h4 h5 h3
      simpa [h1] using this
    · refine Nat.le_trans (Nat.add_le_add_right h7 1) ?_
      rw [List.take_of_length_le (by omega)]
      have := hB.slice H (elems.map (·.1)) (rest.map (·.1))
      rw [List.map_map] at this
      exact this

theorem sum_ones {X : Type} (l : List X) : (l.map fun _ => 1).sum = l.length := by
  rw [List.map_const', List.sum_replicate_nat, Nat.mul_one]
theorem Reads.bytes (hB : Bulky B) {e : TypeId} (ht : P.underlying t = some (.slice e)) (he : P.underlying e = some (.int .u8)) (hc : P.cellsOf e = 1) : Reads P B t (fun s : List UInt8 => [.sl 1 (bs s) false]) (fun s => s.length + 1) (fun _ => True) :=
  (Reads.slice hB ht hc (.u8 hB he) (fun _ => rfl)).iso id (fun _ => rfl) (fun s _ => by simp only [id]; rw [sum_ones]; exact Nat.le_refl _) (fun _ _ => trivial)
def inI (n : Int) : Prop := -9223372036854775808 ≤ n ∧ n ≤ 9223372036854775807
theorem Reads.ints (hB : Bulky B) {e : TypeId} (ht : P.underlying t = some (.slice e)) (he : P.underlying e = some (.int .i64)) (hc : P.cellsOf e = 1) : Reads P B t (fun l : List Int => [.sl 1 (is l) false]) (fun l => l.length + 1) (fun l => ∀ n, n ∈ l → inI n) :=
  (Reads.slice hB ht hc (.i64 hB he) (fun _ => rfl)).iso id (fun _ => rfl) (fun s _ => by simp only [id]; rw [sum_ones]; exact Nat.le_refl _) (fun _ h => h)

/-! ### Structs -/
def ReadsF (P : Program) (B : BulkF) (k tot : Nat) (fs : List Field) {X : Type} (enc : X → List AV) (μ : X → Nat) (ok : X → Prop) : Prop :=
  ∀ (z : Zone) (H : Type) (e : TypeId × Value → H) (w : World) (spare : Nat → Bool) (held : Bool) (fuel : Nat) (cs : List Value) (ds : List (DataW H × List MemPlace)),
    cs.length = k + tot → ds.length = fs.length → (∀ (i : Nat) (f : Field), fs[i]? = some f → DataW.trod e P w 0 spare held fuel f.type ((cs.drop f.offset).take (P.cellsOf f.type)) = ds[i]?) →
    ∃ x, @RepVL z w (EW []) (cs.drop k) (enc x) ∧ (∀ v, v ∈ cs.drop k → v.oneCell' = true) ∧ ok x ∧ μ x ≤ (ds.map fun y => B H y.1).sum

theorem ReadsF.nil {k : Nat} : ReadsF P B k 0 [] (fun _ : Unit => []) (fun _ => 0) (fun _ => True) := by
  intro z H e w spare held fuel cs ds hl hd h
  have : cs.drop k = [] := List.drop_of_length_le (by omega)
  rw [this]
  exact ⟨(), .nil, by simp, trivial, Nat.zero_le _⟩

theorem ReadsF.cons {k n tot : Nat} {f : Field} {fs : List Field} {X Y : Type} {e1 : X → List AV} {m1 : X → Nat} {o1 : X → Prop} {e2 : Y → List AV} {m2 : Y → Nat} {o2 : Y → Prop}
    (hf : Reads P B f.type e1 m1 o1) (hk : f.offset = k) (hn : P.cellsOf f.type = n) (hr : ReadsF P B (k + n) tot fs e2 m2 o2) :
    ReadsF P B k (n + tot) (f :: fs) (fun p : X × Y => e1 p.1 ++ e2 p.2) (fun p => m1 p.1 + m2 p.2) (fun p => o1 p.1 ∧ o2 p.2) := by
  intro z H e w spare held fuel cs ds hl hd h
  cases ds with
  | nil => simp at hd
  | cons d ds =>
    have h0 := h 0 f (by simp)
    rw [hk, hn] at h0
    obtain ⟨x, r1, r2, r3, r4⟩ := hf z H e w spare held fuel _ d.1 d.2 (by simpa using h0)
    obtain ⟨y, s1, s2, s3, s4⟩ := hr z H e w spare held fuel cs ds (by omega) (by simpa using hd) (fun i g hg => by simpa using h (i + 1) g (by simpa using hg))
    have e3 : cs.drop k = (cs.drop k).take n ++ cs.drop (k + n) := by
      rw [← List.drop_drop, List.take_append_drop]
    refine ⟨(x, y), ?_, ?_, ⟨r3, s3⟩, ?_⟩
    · rw [e3]; exact r1.append s1
    · intro v hv
      rw [e3] at hv
      rcases List.mem_append.1 hv with hv | hv
      · exact r2 v hv
      · exact s2 v hv
    · simp only [List.map_cons, List.sum_cons]
      exact Nat.add_le_add r4 s4

theorem Reads.struct (hB : Bulky B) {fs : Array Field} {tot : Nat} {X : Type} {enc : X → List AV} {μ : X → Nat} {ok : X → Prop} (ht : P.underlying t = some (.struct fs)) (hc : P.cellsOf t = tot) (h : ReadsF P B 0 tot fs.toList enc μ ok) :
    Reads P B t enc (fun x => μ x + 1) ok := by
  intro z H e w spare held fuel cs d ps hd
  obtain ⟨xs, n, rfl, hx, hl, hxl, hf⟩ := DataW.trod_struct ht hd
  cases hx
  obtain ⟨x, r1, r2, r3, r4⟩ := h z H e w spare held n cs xs (by omega) (by simpa using hxl) (fun i f hi => hf i f (by simpa using hi))
  refine ⟨x, by simpa using r1, by simpa using r2, r3, ?_⟩
  have := hB.agg H (xs.map (·.1))
  rw [List.map_map] at this
  exact Nat.le_trans (Nat.add_le_add_right r4 1) this

theorem Reads.struct2 (hB : Bulky B) {f1 f2 : Field} {n1 n2 : Nat} {X1 X2 : Type} {e1 : X1 → List AV} {m1 : X1 → Nat} {o1 : X1 → Prop} {e2 : X2 → List AV} {m2 : X2 → Nat} {o2 : X2 → Prop}
    (ht : P.underlying t = some (.struct #[f1, f2])) (hc : P.cellsOf t = n1 + (n2 + 0)) (h1 : Reads P B f1.type e1 m1 o1) (h2 : Reads P B f2.type e2 m2 o2) (k1 : f1.offset = 0) (c1 : P.cellsOf f1.type = n1) (k2 : f2.offset = 0 + n1) (c2 : P.cellsOf f2.type = n2) :
    Reads P B t (fun p : X1 × X2 × Unit => e1 (p.1) ++ (e2 (p.2.1) ++ [])) (fun p => m1 (p.1) + (m2 (p.2.1) + (0)) + 1) (fun p => o1 (p.1) ∧ (o2 (p.2.1) ∧ (True))) :=
  .struct hB ht hc (.cons h1 k1 c1 (.cons h2 k2 c2 .nil))
theorem Reads.struct3 (hB : Bulky B) {f1 f2 f3 : Field} {n1 n2 n3 : Nat} {X1 X2 X3 : Type} {e1 : X1 → List AV} {m1 : X1 → Nat} {o1 : X1 → Prop} {e2 : X2 → List AV} {m2 : X2 → Nat} {o2 : X2 → Prop} {e3 : X3 → List AV} {m3 : X3 → Nat} {o3 : X3 → Prop}
    (ht : P.underlying t = some (.struct #[f1, f2, f3])) (hc : P.cellsOf t = n1 + (n2 + (n3 + 0))) (h1 : Reads P B f1.type e1 m1 o1) (h2 : Reads P B f2.type e2 m2 o2) (h3 : Reads P B f3.type e3 m3 o3) (k1 : f1.offset = 0) (c1 : P.cellsOf f1.type = n1) (k2 : f2.offset = 0 + n1) (c2 : P.cellsOf f2.type = n2) (k3 : f3.offset = 0 + n1 + n2) (c3 : P.cellsOf f3.type = n3) :
    Reads P B t (fun p : X1 × X2 × X3 × Unit => e1 (p.1) ++ (e2 (p.2.1) ++ (e3 (p.2.2.1) ++ []))) (fun p => m1 (p.1) + (m2 (p.2.1) + (m3 (p.2.2.1) + (0))) + 1) (fun p => o1 (p.1) ∧ (o2 (p.2.1) ∧ (o3 (p.2.2.1) ∧ (True)))) :=
  .struct hB ht hc (.cons h1 k1 c1 (.cons h2 k2 c2 (.cons h3 k3 c3 .nil)))
theorem Reads.struct4 (hB : Bulky B) {f1 f2 f3 f4 : Field} {n1 n2 n3 n4 : Nat} {X1 X2 X3 X4 : Type} {e1 : X1 → List AV} {m1 : X1 → Nat} {o1 : X1 → Prop} {e2 : X2 → List AV} {m2 : X2 → Nat} {o2 : X2 → Prop} {e3 : X3 → List AV} {m3 : X3 → Nat} {o3 : X3 → Prop} {e4 : X4 → List AV} {m4 : X4 → Nat} {o4 : X4 → Prop}
    (ht : P.underlying t = some (.struct #[f1, f2, f3, f4])) (hc : P.cellsOf t = n1 + (n2 + (n3 + (n4 + 0)))) (h1 : Reads P B f1.type e1 m1 o1) (h2 : Reads P B f2.type e2 m2 o2) (h3 : Reads P B f3.type e3 m3 o3) (h4 : Reads P B f4.type e4 m4 o4) (k1 : f1.offset = 0) (c1 : P.cellsOf f1.type = n1) (k2 : f2.offset = 0 + n1) (c2 : P.cellsOf f2.type = n2) (k3 : f3.offset = 0 + n1 + n2) (c3 : P.cellsOf f3.type = n3) (k4 : f4.offset = 0 + n1 + n2 + n3) (c4 : P.cellsOf f4.type = n4) :
    Reads P B t (fun p : X1 × X2 × X3 × X4 × Unit => e1 (p.1) ++ (e2 (p.2.1) ++ (e3 (p.2.2.1) ++ (e4 (p.2.2.2.1) ++ [])))) (fun p => m1 (p.1) + (m2 (p.2.1) + (m3 (p.2.2.1) + (m4 (p.2.2.2.1) + (0)))) + 1) (fun p => o1 (p.1) ∧ (o2 (p.2.1) ∧ (o3 (p.2.2.1) ∧ (o4 (p.2.2.2.1) ∧ (True))))) :=
  .struct hB ht hc (.cons h1 k1 c1 (.cons h2 k2 c2 (.cons h3 k3 c3 (.cons h4 k4 c4 .nil))))
theorem Reads.struct5 (hB : Bulky B) {f1 f2 f3 f4 f5 : Field} {n1 n2 n3 n4 n5 : Nat} {X1 X2 X3 X4 X5 : Type} {e1 : X1 → List AV} {m1 : X1 → Nat} {o1 : X1 → Prop} {e2 : X2 → List AV} {m2 : X2 → Nat} {o2 : X2 → Prop} {e3 : X3 → List AV} {m3 : X3 → Nat} {o3 : X3 → Prop} {e4 : X4 → List AV} {m4 : X4 → Nat} {o4 : X4 → Prop} {e5 : X5 → List AV} {m5 : X5 → Nat} {o5 : X5 → Prop}
    (ht : P.underlying t = some (.struct #[f1, f2, f3, f4, f5])) (hc : P.cellsOf t = n1 + (n2 + (n3 + (n4 + (n5 + 0))))) (h1 : Reads P B f1.type e1 m1 o1) (h2 : Reads P B f2.type e2 m2 o2) (h3 : Reads P B f3.type e3 m3 o3) (h4 : Reads P B f4.type e4 m4 o4) (h5 : Reads P B f5.type e5 m5 o5) (k1 : f1.offset = 0) (c1 : P.cellsOf f1.type = n1) (k2 : f2.offset = 0 + n1) (c2 : P.cellsOf f2.type = n2) (k3 : f3.offset = 0 + n1 + n2) (c3 : P.cellsOf f3.type = n3) (k4 : f4.offset = 0 + n1 + n2 + n3) (c4 : P.cellsOf f4.type = n4) (k5 : f5.offset = 0 + n1 + n2 + n3 + n4) (c5 : P.cellsOf f5.type = n5) :
    Reads P B t (fun p : X1 × X2 × X3 × X4 × X5 × Unit => e1 (p.1) ++ (e2 (p.2.1) ++ (e3 (p.2.2.1) ++ (e4 (p.2.2.2.1) ++ (e5 (p.2.2.2.2.1) ++ []))))) (fun p => m1 (p.1) + (m2 (p.2.1) + (m3 (p.2.2.1) + (m4 (p.2.2.2.1) + (m5 (p.2.2.2.2.1) + (0))))) + 1) (fun p => o1 (p.1) ∧ (o2 (p.2.1) ∧ (o3 (p.2.2.1) ∧ (o4 (p.2.2.2.1) ∧ (o5 (p.2.2.2.2.1) ∧ (True)))))) :=
  .struct hB ht hc (.cons h1 k1 c1 (.cons h2 k2 c2 (.cons h3 k3 c3 (.cons h4 k4 c4 (.cons h5 k5 c5 .nil)))))
theorem Reads.struct6 (hB : Bulky B) {f1 f2 f3 f4 f5 f6 : Field} {n1 n2 n3 n4 n5 n6 : Nat} {X1 X2 X3 X4 X5 X6 : Type} {e1 : X1 → List AV} {m1 : X1 → Nat} {o1 : X1 → Prop} {e2 : X2 → List AV} {m2 : X2 → Nat} {o2 : X2 → Prop} {e3 : X3 → List AV} {m3 : X3 → Nat} {o3 : X3 → Prop} {e4 : X4 → List AV} {m4 : X4 → Nat} {o4 : X4 → Prop} {e5 : X5 → List AV} {m5 : X5 → Nat} {o5 : X5 → Prop} {e6 : X6 → List AV} {m6 : X6 → Nat} {o6 : X6 → Prop}
    (ht : P.underlying t = some (.struct #[f1, f2, f3, f4, f5, f6])) (hc : P.cellsOf t = n1 + (n2 + (n3 + (n4 + (n5 + (n6 + 0)))))) (h1 : Reads P B f1.type e1 m1 o1) (h2 : Reads P B f2.type e2 m2 o2) (h3 : Reads P B f3.type e3 m3 o3) (h4 : Reads P B f4.type e4 m4 o4) (h5 : Reads P B f5.type e5 m5 o5) (h6 : Reads P B f6.type e6 m6 o6) (k1 : f1.offset = 0) (c1 : P.cellsOf f1.type = n1) (k2 : f2.offset = 0 + n1) (c2 : P.cellsOf f2.type = n2) (k3 : f3.offset = 0 + n1 + n2) (c3 : P.cellsOf f3.type = n3) (k4 : f4.offset = 0 + n1 + n2 + n3) (c4 : P.cellsOf f4.type = n4) (k5 : f5.offset = 0 + n1 + n2 + n3 + n4) (c5 : P.cellsOf f5.type = n5) (k6 : f6.offset = 0 + n1 + n2 + n3 + n4 + n5) (c6 : P.cellsOf f6.type = n6) :
    Reads P B t (fun p : X1 × X2 × X3 × X4 × X5 × X6 × Unit => e1 (p.1) ++ (e2 (p.2.1) ++ (e3 (p.2.2.1) ++ (e4 (p.2.2.2.1) ++ (e5 (p.2.2.2.2.1) ++ (e6 (p.2.2.2.2.2.1) ++ [])))))) (fun p => m1 (p.1) + (m2 (p.2.1) + (m3 (p.2.2.1) + (m4 (p.2.2.2.1) + (m5 (p.2.2.2.2.1) + (m6 (p.2.2.2.2.2.1) + (0)))))) + 1) (fun p => o1 (p.1) ∧ (o2 (p.2.1) ∧ (o3 (p.2.2.1) ∧ (o4 (p.2.2.2.1) ∧ (o5 (p.2.2.2.2.1) ∧ (o6 (p.2.2.2.2.2.1) ∧ (True))))))) :=
  .struct hB ht hc (.cons h1 k1 c1 (.cons h2 k2 c2 (.cons h3 k3 c3 (.cons h4 k4 c4 (.cons h5 k5 c5 (.cons h6 k6 c6 .nil))))))
theorem Reads.struct7 (hB : Bulky B) {f1 f2 f3 f4 f5 f6 f7 : Field} {n1 n2 n3 n4 n5 n6 n7 : Nat} {X1 X2 X3 X4 X5 X6 X7 : Type} {e1 : X1 → List AV} {m1 : X1 → Nat} {o1 : X1 → Prop} {e2 : X2 → List AV} {m2 : X2 → Nat} {o2 : X2 → Prop} {e3 : X3 → List AV} {m3 : X3 → Nat} {o3 : X3 → Prop} {e4 : X4 → List AV} {m4 : X4 → Nat} {o4 : X4 → Prop} {e5 : X5 → List AV} {m5 : X5 → Nat} {o5 : X5 → Prop} {e6 : X6 → List AV} {m6 : X6 → Nat} {o6 : X6 → Prop} {e7 : X7 → List AV} {m7 : X7 → Nat} {o7 : X7 → Prop}
    (ht : P.underlying t = some (.struct #[f1, f2, f3, f4, f5, f6, f7])) (hc : P.cellsOf t = n1 + (n2 + (n3 + (n4 + (n5 + (n6 + (n7 + 0))))))) (h1 : Reads P B f1.type e1 m1 o1) (h2 : Reads P B f2.type e2 m2 o2) (h3 : Reads P B f3.type e3 m3 o3) (h4 : Reads P B f4.type e4 m4 o4) (h5 : Reads P B f5.type e5 m5 o5) (h6 : Reads P B f6.type e6 m6 o6) (h7 : Reads P B f7.type e7 m7 o7) (k1 : f1.offset = 0) (c1 : P.cellsOf f1.type = n1) (k2 : f2.offset = 0 + n1) (c2 : P.cellsOf f2.type = n2) (k3 : f3.offset = 0 + n1 + n2) (c3 : P.cellsOf f3.type = n3) (k4 : f4.offset = 0 + n1 + n2 + n3) (c4 : P.cellsOf f4.type = n4) (k5 : f5.offset = 0 + n1 + n2 + n3 + n4) (c5 : P.cellsOf f5.type = n5) (k6 : f6.offset = 0 + n1 + n2 + n3 + n4 + n5) (c6 : P.cellsOf f6.type = n6) (k7 : f7.offset = 0 + n1 + n2 + n3 + n4 + n5 + n6) (c7 : P.cellsOf f7.type = n7) :
    Reads P B t (fun p : X1 × X2 × X3 × X4 × X5 × X6 × X7 × Unit => e1 (p.1) ++ (e2 (p.2.1) ++ (e3 (p.2.2.1) ++ (e4 (p.2.2.2.1) ++ (e5 (p.2.2.2.2.1) ++ (e6 (p.2.2.2.2.2.1) ++ (e7 (p.2.2.2.2.2.2.1) ++ []))))))) (fun p => m1 (p.1) + (m2 (p.2.1) + (m3 (p.2.2.1) + (m4 (p.2.2.2.1) + (m5 (p.2.2.2.2.1) + (m6 (p.2.2.2.2.2.1) + (m7 (p.2.2.2.2.2.2.1) + (0))))))) + 1) (fun p => o1 (p.1) ∧ (o2 (p.2.1) ∧ (o3 (p.2.2.1) ∧ (o4 (p.2.2.2.1) ∧ (o5 (p.2.2.2.2.1) ∧ (o6 (p.2.2.2.2.2.1) ∧ (o7 (p.2.2.2.2.2.2.1) ∧ (True)))))))) :=
  .struct hB ht hc (.cons h1 k1 c1 (.cons h2 k2 c2 (.cons h3 k3 c3 (.cons h4 k4 c4 (.cons h5 k5 c5 (.cons h6 k6 c6 (.cons h7 k7 c7 .nil)))))))

/-! ### Arguments -/
def ReadsA (P : Program) (B : BulkF) (t : TypeId) {X : Type} (y : X → AV) (μ : X → Nat) (ok : X → Prop) : Prop :=
  ∀ (z : Zone) (H : Type) (e : TypeId × Value → H) (w : World) (spare : Nat → Bool) (held : Bool) (base : Nat) (v : Value) (d : DataW H) (ps : List MemPlace),
    Value.okWide P w .any base t v → DataW.Trod e P w 0 spare held t v d ps → ∃ x, @RepV z w (EW []) v (y x) ∧ ok x ∧ μ x ≤ B H d

theorem repVL_one [Zone] {w : World} {W : Nat → Prop} {v : Value} {y : AV} (h : RepVL w W [v] [y]) : RepV w W v y := by
  cases h with | cons h _ => exact h

theorem ReadsA.of_one {X : Type} {y : X → AV} {μ : X → Nat} {ok : X → Prop} (h : Reads P B t (fun x => [y x]) μ ok) (hone : ∀ (w : World) (base : Nat) (v : Value), Value.okWide P w .any base t v → v.cells.toList = [v]) : ReadsA P B t y μ ok := by
  intro z H e w spare held base v d ps hval hd
  obtain ⟨fuel, hd⟩ := hd
  rw [hone w base v hval] at hd
  obtain ⟨x, r1, _, r3, r4⟩ := h z H e w spare held fuel _ d ps hd
  exact ⟨x, @repVL_one z _ _ _ _ r1, r3, r4⟩

theorem ReadsA.int {k : IntKind} (ht : P.underlying t = some (.int k)) {X : Type} {y : X → AV} {μ : X → Nat} {ok : X → Prop} (h : Reads P B t (fun x => [y x]) μ ok) : ReadsA P B t y μ ok :=
  .of_one h fun w base v hv => by obtain ⟨n, rfl⟩ := okWide_int ht hv; rfl
theorem ReadsA.bool (ht : P.underlying t = some .bool) {X : Type} {y : X → AV} {μ : X → Nat} {ok : X → Prop} (h : Reads P B t (fun x => [y x]) μ ok) : ReadsA P B t y μ ok :=
  .of_one h fun w base v hv => by obtain ⟨n, rfl⟩ := okWide_bool ht hv; rfl
theorem ReadsA.str (ht : P.underlying t = some .string) {X : Type} {y : X → AV} {μ : X → Nat} {ok : X → Prop} (h : Reads P B t (fun x => [y x]) μ ok) : ReadsA P B t y μ ok :=
  .of_one h fun w base v hv => by obtain ⟨n, rfl⟩ := okWide_string ht hv; rfl
theorem ReadsA.slice {e : TypeId} (ht : P.underlying t = some (.slice e)) {X : Type} {y : X → AV} {μ : X → Nat} {ok : X → Prop} (h : Reads P B t (fun x => [y x]) μ ok) : ReadsA P B t y μ ok :=
  .of_one h fun w base v hv => by obtain ⟨a, l, c, rfl⟩ := okWide_slice ht hv; rfl
theorem ReadsA.struct {fs : Array Field} (ht : P.underlying t = some (.struct fs)) {X : Type} {enc : X → List AV} {μ : X → Nat} {ok : X → Prop} (h : Reads P B t enc μ ok) : ReadsA P B t (fun x => .agg (enc x)) μ ok := by
  intro z H e w spare held base v d ps hval hd
  obtain ⟨fuel, hd⟩ := hd
  have hv : ∃ cs, v = .agg cs := by
    unfold Value.okWide at hval
    rw [ht] at hval
    obtain ⟨cs, rfl, _⟩ := hval
    exact ⟨cs, rfl⟩
  obtain ⟨cs, rfl⟩ := hv
  obtain ⟨x, r1, r2, r3, r4⟩ := h z H e w spare held fuel _ d ps hd
  exact ⟨x, @RepV.agg z _ _ cs (enc x) r2 r1, r3, r4⟩

theorem ReadsA.bytes (hB : Bulky B) {e : TypeId} (ht : P.underlying t = some (.slice e)) (he : P.underlying e = some (.int .u8)) (hc : P.cellsOf e = 1) : ReadsA P B t (fun s : List UInt8 => .sl 1 (bs s) false) (fun s => s.length + 1) (fun _ => True) := .slice ht (.bytes hB ht he hc)
theorem ReadsA.ints (hB : Bulky B) {e : TypeId} (ht : P.underlying t = some (.slice e)) (he : P.underlying e = some (.int .i64)) (hc : P.cellsOf e = 1) : ReadsA P B t (fun l : List Int => .sl 1 (is l) false) (fun l => l.length + 1) (fun l => ∀ n, n ∈ l → inI n) := .slice ht (.ints hB ht he hc)
theorem ReadsA.i64 (hB : Bulky B) (ht : P.underlying t = some (.int .i64)) : ReadsA P B t (fun n : Int => .int .i64 n) (fun _ => 1) inI := .int ht (.i64 hB ht)
theorem ReadsA.u8 (hB : Bulky B) (ht : P.underlying t = some (.int .u8)) : ReadsA P B t (fun b : UInt8 => .int .u8 b.toNat) (fun _ => 1) (fun _ => True) := .int ht (.u8 hB ht)
theorem ReadsA.boolA (hB : Bulky B) (ht : P.underlying t = some .bool) : ReadsA P B t (fun b : Bool => .bool b) (fun _ => 1) (fun _ => True) := .bool ht (.bool hB ht)

def ReadsL (P : Program) (B : BulkF) (ts : List TypeId) {X : Type} (enc : X → List AV) (μ : X → Nat) (ok : X → Prop) : Prop :=
  ∀ (z : Zone) (H : Type) (e : TypeId × Value → H) (w : World) (spare : Nat → Bool) (held : Bool) (base : Nat) (vs : List Value) (ds : List (DataW H)) (ps : List MemPlace),
    (∀ (j : Nat) t v, ts[j]? = some t → vs[j]? = some v → Value.okWide P w .any base t v) → DataW.TrodAll e P w 0 spare held ts vs ds ps →
    ∃ x, @RepL z w [] vs (enc x) ∧ ok x ∧ μ x ≤ (ds.map (B H)).sum ∧ ds.length = ts.length

theorem ReadsL.nil : ReadsL P B [] (fun _ : Unit => []) (fun _ => 0) (fun _ => True) := by
  intro z H e w spare held base vs ds ps hval hd
  obtain ⟨rfl, rfl, rfl⟩ := trodAll_nil hd
  exact ⟨(), @RepL.nil z w [], trivial, Nat.zero_le _, rfl⟩

theorem ReadsL.cons {ts : List TypeId} {X Y : Type} {y1 : X → AV} {m1 : X → Nat} {o1 : X → Prop} {e2 : Y → List AV} {m2 : Y → Nat} {o2 : Y → Prop} (h1 : ReadsA P B t y1 m1 o1) (h2 : ReadsL P B ts e2 m2 o2) :
    ReadsL P B (t :: ts) (fun p : X × Y => y1 p.1 :: e2 p.2) (fun p => m1 p.1 + m2 p.2) (fun p => o1 p.1 ∧ o2 p.2) := by
  intro z H e w spare held base vs ds ps hval hd
  obtain ⟨v, vs', d, ds', p, q, rfl, rfl, rfl, hd1, hd2⟩ := trodAll_cons hd
  obtain ⟨x, r1, r2, r3⟩ := h1 z H e w spare held base v d p (hval 0 t v rfl rfl) hd1
  obtain ⟨y, s1, s2, s3, s4⟩ := h2 z H e w spare held base vs' ds' q (fun j t' v' ht hv => hval (j + 1) t' v' (by simpa using ht) (by simpa using hv)) hd2
  exact ⟨(x, y), @RepL.cons z w [] _ _ _ _ (@Rep.pure z w [] _ _ r1) s1, ⟨r2, s2⟩, by simp only [List.map_cons, List.sum_cons]; exact Nat.add_le_add r3 s3, by simp [s4]⟩
end

theorem AOKn.law {P : Program} {f : Nat} {args : List AV} (h : AOKn P f args fun y => y = .bool true) : CallS P f args [] fun y _ => y = .bool true := by
  refine CallS.mono h ?_
  rintro x σ' ⟨y, ⟨y0, hn, rfl⟩, hf, rfl, rfl⟩
  cases hn with
  | one h => cases h with
    | refl => rfl

/-! ### A law's row -/
theorem keptBut_of_step {E' : Env} {w w' : World} {may : MemPlace → Prop} (h : Step [] w E' w') : w.keptBut w' may := by
  refine ⟨h.os, h.output, fun i hi => ?_⟩
  rw [h.block i hi (ew_nil i)]
  have := (World.keptBut_refl w may).2.2 i hi
  exact this

theorem trodAll_below {H : Type} {e : TypeId × Value → H} {P : Program} (hl : laidOutB P = true) {W W' : World} (hb : Below W.heap.size W W') : ∀ {ts : List TypeId} {vs : List Value} {ds : List (DataW H)} {ps : List MemPlace},
    (∀ t, t ∈ ts → P.readableRec t = true ∧ t < P.types.size) → DataW.TrodAll e P W 0 (fun _ => true) true ts vs ds ps → (∀ x, x ∈ ps → x.block < W.heap.size) → DataW.TrodAll e P W' 0 (fun b => decide (b < W.heap.size)) true ts vs ds ps
  | [], vs, ds, ps, hts, h, hp => by
    obtain ⟨rfl, rfl, rfl⟩ := trodAll_nil h
    exact trodAll_mk0
  | t :: ts, vs, ds, ps, hts, h, hp => by
    obtain ⟨v, vs', d, ds', p, q, rfl, rfl, rfl, hd1, hd2⟩ := trodAll_cons h
    refine trodAll_cons_mk (Below.trod hl (hts t (by simp)).1 (hts t (by simp)).2 hd1 hb (fun x hx => hp x (by simp [hx]))) (trodAll_below hl hb (fun t' ht' => hts t' (by simp [ht'])) hd2 (fun x hx => hp x (by simp [hx])))

/-- A law: whatever comes in (and is not too much), true; what came in reads as it did. -/
theorem law_post {P : Program} {B : BulkF} {k : Nat} {f : Func} {s : ChangeSpec} (hl : laidOutB P = true) (hts : ∀ t, t ∈ f.params.toList → P.readableRec t = true ∧ t < P.types.size)
    (hvars : s.vars = []) {tb : TypeId} (hres : f.resultTypes = #[tb]) (htb : P.underlying tb = some .bool)
    {X : Type} {enc : X → List AV} {μ : X → Nat} {ok : X → Prop} {ts : List TypeId} (hp : f.params.toList = ts) (hR : ReadsL P B ts enc μ ok) {N : Nat}
    (hlaw : ∀ x, ok x → μ x ≤ N → CallS P k (enc x) [] fun y _ => y = .bool true)
    {H : Type} {e : TypeId × Value → H} {W : World} {base : Nat} {args : Array Value} {ds gs : List (DataW H)} {before : List MemPlace}
    (hval : ∀ (j : Nat) t v, f.params[j]? = some t → args[j]? = some v → Value.okWide P W .any base t v)
    (hW : DataW.Whole e P f.params.toList s.vars false W args.toList ds gs before) (hk : ((ds ++ gs).map (B H)).sum ≤ N)
    (hs : ∀ ds : List (DataW H), ds.length = f.params.toList.length → s.fn H ds = { results := [.lit (.bool true)], args := ds }) :
    Calls P k args W fun en W' => ∃ v, en = .returned v ∧ s.post e P f false true false false W args v W' := by
  subst hp
  have hW' := hW
  obtain ⟨p, q, hA, hV, rfl, hfz, hnd⟩ := hW
  rw [hvars] at hV
  obtain ⟨rfl, rfl⟩ := trodVars_none hV
  obtain ⟨x, r1, r2, r3, r4⟩ := hR ⟨W.heap.size⟩ H e W _ _ base _ _ _ (fun j t v ht hv => hval j t v (by simpa using ht) (by simpa using hv)) hA
  have hlt : ∀ x ∈ p ++ [], x.block < W.heap.size := fun x hx => hW'.lt x hx
  rw [List.append_nil] at hk
  have hc := (hlaw x r2 (Nat.le_trans r3 hk)).2 ⟨W.heap.size⟩ W [] args.toList (@rel_nil ⟨W.heap.size⟩ W (Nat.le_refl _)) r1
  have hc' := hc.mono (R' := fun en W' => ∃ v, en = .returned v ∧ s.post e P f false true false false W args v W') ?_
  · simpa using hc'
  rintro en w' ⟨v, E', y, σ', rfl, h1, h2, h3, rfl⟩
  refine ⟨v, rfl, ?_⟩
  have hv := @Rep.bool_inv ⟨W.heap.size⟩ _ _ _ _ h1
  subst hv
  have hbel : Below W.heap.size W w' := ⟨h3.os, h3.tape, h3.output, h3.size, fun g hg => h3.block g hg (ew_nil g)⟩
  have hfn := hs ds r4
  have hfn' : s.fn H (ds ++ []) = { results := [.lit (.bool true)], args := ds } := by rw [List.append_nil]; exact hfn
  refine ⟨ds, [], p ++ [], [], p, [], hW', ?_, ?_, ?_, keptBut_of_step h3, fun q => by cases q⟩
  · rw [hfn', hres]
    exact trodAll_cons_mk (p := []) (p' := []) (shut_bool htb true) trodAll_mk0
  · rw [hfn']
    exact trodAll_below hl hbel hts hA (fun x hx => hlt x (by simpa using hx))
  · rw [hfn', hvars]
    rfl
end Go.Proofs.Ytppccaacbpkgiaa.V
