/-
  VH: how a body's precondition is stepped through; loops by a measure.
-/
import Derived.Test.YtppccaacbpkgiaaVG
namespace Go.Proofs.Ytppccaacbpkgiaa.V
open Go Go.RowKit
set_option linter.unusedVariables false

/-- A side condition. -/
def Side (p : Prop) : Prop := p
theorem Side.intro {p : Prop} (h : p) : Side p := h
theorem and_back {a b : Prop} (hb : a → b) (ha : Side a) : a ∧ b := ⟨ha, hb ha⟩
theorem and_side {a b : Prop} (hb : b) (ha : Side a) : a ∧ b := ⟨ha, hb⟩
theorem Br.mk {p a b : Prop} (ha : p → a) (hb : ¬ p → b) : Br p a b := by
  exact ⟨ha, hb⟩
theorem Br.yes {p a b : Prop} (hp : p) (ha : a) : Br p a b := Br.mk (fun _ => ha) (fun q => absurd hp q)
theorem Br.no {p a b : Prop} (hp : ¬ p) (hb : b) : Br p a b := Br.mk (fun q => absurd q hp) (fun _ => hb)

theorem Both.mk {a b : Prop} (ha : a) (hb : b) : Both a b := ⟨ha, hb⟩
theorem and_same {α : Sort _} {x : α} {b : Prop} (hb : b) : x = x ∧ b := ⟨rfl, hb⟩

theorem blkAt_intro {σ : AH} {id gen : Nat} {K : Blk → Prop} {b : Blk} (h : σ[id]? = some b) (hg : b.gen = gen) (hk : K b) (he : b.ext = none := by rfl) : blkAt σ id gen K := by
  refine ⟨?_⟩; unfold blkD; rw [h]; exact ⟨hg, he, hk⟩
theorem blkAt_step {σ : AH} {id gen : Nat} {K : Blk → Prop} {b : Blk} (h : σ[id]? = some b) (hg : b.gen = gen) (he : b.ext = none) (hk : K b) : blkAt σ id gen K := blkAt_intro h hg hk he

theorem appendR_lit {σ : AH} {id gen len sz bytes : Nat} {ys : List (List AV)} {K : AV → AH → Prop} {b : Blk} (h : σ[id]? = some b) (hg : b.gen = gen) (he : b.ext = none) (hs : sz = b.sz) (hw : b.wr = true) (hp : b.pure = true) (hl : len ≤ b.els.length)
    (hk : K (.rsl id (gen + 1) 0 (len + ys.length) none) (σ.set id { sz := b.sz, els := b.els.take len ++ ys, gen := gen + 1, wr := true, pure := true })) (hb : Side ((len + ys.length) * bytes ≤ 140737488355328)) : AppW σ sz bytes (.rsl id gen 0 len none) ys K :=
  ⟨blkAt_intro h hg ⟨hs, hw, hp, rfl, hl, hb, hk⟩ he⟩
theorem appendR_nil {σ : AH} {sz bytes : Nat} {ys : List (List AV)} {K : AV → AH → Prop} (hk : K (.rsl σ.length 0 0 ys.length none) (newB σ sz ys true)) (hb : Side (ys.length * bytes ≤ 140737488355328)) : AppW σ sz bytes .nils ys K := ⟨⟨hb, hk⟩⟩
theorem appendR_slx {σ : AH} {sz bytes : Nat} {l ys : List (List AV)} {K : AV → AH → Prop} (h0 : Side (0 < ys.length)) (hk : K (.rsl σ.length 0 0 (l.length + ys.length) none) (newB σ sz (l ++ ys) true)) (hb : Side ((l.length + ys.length) * bytes ≤ 140737488355328)) : AppW σ sz bytes (.slx sz l) ys K := ⟨⟨rfl, h0, hb, hk⟩⟩

/-- A loop: states st a, an invariant, a measure that every round makes smaller. -/
theorem loop_by {α : Type} {F : Fr → AH → KN → Prop} {live : List Nat} (st : α → Fr) (hp : α → AH) (I : α → Prop) (μ : α → Nat)
    (step : ∀ a, I a → Fr.keepK live (st a) fun fr0 => F fr0 (hp a) fun fr' σ' => ∃ a', fr' = st a' ∧ σ' = hp a' ∧ I a' ∧ μ a' < μ a)
    (a : α) {fr : Fr} {σ : AH} (h0 : I a) (hfr : fr = st a) (hσ : σ = hp a) : ALoop F live fr σ := by
  subst hfr; subst hσ
  unfold ALoop
  refine ⟨fun n fr σ => ∃ b, fr = st b ∧ σ = hp b ∧ I b ∧ μ b = n, ⟨_, a, rfl, rfl, h0, rfl⟩, ?_⟩
  rintro n fr σ ⟨b, rfl, rfl, hb, rfl⟩
  have := step b hb
  have e : (fun (fr' : Fr) (σ' : AH) => ∃ m, m < μ b ∧ ∃ c, fr' = st c ∧ σ' = hp c ∧ I c ∧ μ c = m) = fun fr' σ' => ∃ a', fr' = st a' ∧ σ' = hp a' ∧ I a' ∧ μ a' < μ b := by
    funext fr' σ'
    refine propext ⟨?_, ?_⟩
    · rintro ⟨m, h1, c, h2, h3, h4, rfl⟩; exact ⟨c, h2, h3, h4, h1⟩
    · rintro ⟨c, h2, h3, h4, h1⟩; exact ⟨_, h1, c, h2, h3, h4, rfl⟩
  rw [e]; exact this

/-! ### Loops whose frame is the one that stands, but for some places -/
def Fr.pickK : List (Nat × AV) → Nat → AV → (AV → Prop) → Prop
  | [], _, y, K => K y
  | (m, x) :: r, n, y, K => match Nat.beq m n with
    | true => K x
    | false => Fr.pickK r n y K
def Fr.pick : List (Nat × AV) → Nat → AV → AV
  | [], _, y => y
  | (m, x) :: r, n, y => match Nat.beq m n with
    | true => x
    | false => Fr.pick r n y
def Fr.upd : Fr → List (Nat × AV) → Fr
  | [], _ => []
  | (m, y) :: r, vs => (m, Fr.pick vs m y) :: Fr.upd r vs
def Fr.updK : Fr → List (Nat × AV) → (Fr → Prop) → Prop
  | [], _, K => K []
  | (m, y) :: r, vs, K => Fr.pickK vs m y fun x => Fr.updK r vs fun r' => K ((m, x) :: r')
theorem Fr.pickK_eq : ∀ (vs : List (Nat × AV)) (n : Nat) (y : AV) (K : AV → Prop), Fr.pickK vs n y K = K (Fr.pick vs n y)
  | [], n, y, K => rfl
  | (m, x) :: r, n, y, K => by
    unfold Fr.pickK Fr.pick
    cases Nat.beq m n
    · exact Fr.pickK_eq r n y K
    · rfl
theorem Fr.updK_eq : ∀ (fr : Fr) (vs : List (Nat × AV)) (K : Fr → Prop), Fr.updK fr vs K = K (Fr.upd fr vs)
  | [], vs, K => rfl
  | (m, y) :: r, vs, K => by
    unfold Fr.updK Fr.upd
    rw [Fr.pickK_eq, Fr.updK_eq]

theorem loop_at {α : Type} {F : Fr → AH → KN → Prop} {live : List Nat} {fr : Fr} {σ : AH} (vs : α → List (Nat × AV)) (hp : α → AH) (I : α → Prop) (μ : α → Nat) (a : α) (h0 : I a) (hfr : fr = Fr.upd fr (vs a)) (hσ : σ = hp a)
    (step : ∀ a, I a → Fr.updK fr (vs a) fun fr1 => Fr.keepK live fr1 fun fr0 => F fr0 (hp a) fun fr' σ' => ∃ a', fr' = Fr.upd fr (vs a') ∧ σ' = hp a' ∧ I a' ∧ μ a' < μ a) : ALoop F live fr σ :=
  loop_by (fun a => Fr.upd fr (vs a)) hp I μ (fun a ha => by have := step a ha; rw [Fr.updK_eq] at this; exact this) a h0 hfr hσ

/-! ### Bytes -/
def bs (s : List UInt8) : List (List AV) := s.map fun b => [.int .u8 b.toNat]

theorem bs_nil : bs [] = [] := rfl
theorem bs_cons (b : UInt8) (s : List UInt8) : bs (b :: s) = [.int .u8 b.toNat] :: bs s := rfl
theorem bs_length (s : List UInt8) : (bs s).length = s.length := by simp [bs]
theorem bs_take (n : Nat) (s : List UInt8) : (bs s).take n = bs (s.take n) := by simp [bs]
theorem bs_drop (n : Nat) (s : List UInt8) : (bs s).drop n = bs (s.drop n) := by simp [bs]
theorem bs_append (s t : List UInt8) : bs s ++ bs t = bs (s ++ t) := by simp [bs]
theorem bs_set (s : List UInt8) (i : Nat) (b : UInt8) : (bs s).set i [.int .u8 b.toNat] = bs (s.set i b) := by simp [bs, List.map_set]
theorem bs_eq_nil (s : List UInt8) : bs s = [] ↔ s = [] := by cases s <;> simp [bs]
theorem bs_replicate (n : Nat) : List.replicate n [AV.int .u8 0] = bs (List.replicate n 0) := by simp [bs]
theorem bs_row {s : List UInt8} {i : Nat} {row : List AV} (h : (bs s)[i]? = some row) : ∃ b, s[i]? = some b ∧ row = [.int .u8 b.toNat] := by
  simp only [bs, List.getElem?_map, Option.map_eq_some_iff] at h
  obtain ⟨b, h1, h2⟩ := h
  exact ⟨b, h1, h2.symm⟩
theorem bytesOf_bs : ∀ s : List UInt8, bytesOf (bs s) = some s
  | [] => rfl
  | b :: s => by
    simp only [bs_cons, bytesOf, bytesOf_bs s, Option.map_some, Option.some.injEq, List.cons.injEq, and_true]
    simp
theorem bytesR_intro {l : List (List AV)} {s : List UInt8} {K : List UInt8 → Prop} (h : l = bs s) (hk : K s) : BytesW l K := by
  subst h; refine ⟨?_⟩; unfold bytesR; rw [bytesOf_bs]; exact hk
theorem FreshA_bs {s : List UInt8} : ∀ x, x ∈ (bs s).flatten → FreshA x := by
  intro x hx
  simp only [bs, List.mem_flatten, List.mem_map] at hx
  obtain ⟨r, ⟨b, _, rfl⟩, hx⟩ := hx
  simp only [List.mem_singleton] at hx
  subst hx; exact .int _ _

/-- Rows of whole numbers. -/
def is (l : List Int) : List (List AV) := l.map fun n => [.int .i64 n]
theorem is_length (l : List Int) : (is l).length = l.length := by simp [is]
theorem is_take (n : Nat) (l : List Int) : (is l).take n = is (l.take n) := by simp [is]
theorem is_drop (n : Nat) (l : List Int) : (is l).drop n = is (l.drop n) := by simp [is]
theorem is_append (l m : List Int) : is l ++ is m = is (l ++ m) := by simp [is]
theorem is_set (l : List Int) (i : Nat) (n : Int) : (is l).set i [.int .i64 n] = is (l.set i n) := by simp [is, List.map_set]
theorem is_replicate (n : Nat) : List.replicate n [AV.int .i64 0] = is (List.replicate n 0) := by simp [is]
theorem FreshA_is {l : List Int} : ∀ x, x ∈ (is l).flatten → FreshA x := by
  intro x hx
  simp only [is, List.mem_flatten, List.mem_map] at hx
  obtain ⟨r, ⟨b, _, rfl⟩, hx⟩ := hx
  simp only [List.mem_singleton] at hx
  subst hx; exact .int _ _

/-! ### What is handed back, stepped through -/
def outA (σ : AH) (x : AV) (K : AV → List Nat → Prop) : Prop :=
  match x with
  | .rsl id gen off len none => blkAt σ id gen fun b => b.pure = true ∧ off + len ≤ b.els.length ∧ K (.sl b.sz ((b.els.drop off).take len) true) [id]
  | .int k n => K (.int k n) []
  | .bool b => K (.bool b) []
  | .str s => K (.str s) []
  | .nils => K .nils []
  | .nilp => K .nilp []
  | .sl sz l fr => K (.sl sz l fr) []
  | .any => K .any []
  | _ => False
def outAs (σ : AH) : List AV → (List AV → List Nat → Prop) → Prop
  | [], K => K [] []
  | x :: r, K => outA σ x fun y a => outAs σ r fun ys b => K (y :: ys) (a ++ b)
def outC (σ : AH) (x : AV) (K : AV → List (Nat × Nat) → List Nat → Prop) : Prop :=
  match x with
  | .rsl id gen off len none => blkAt σ id gen fun b => b.pure = true ∧ b.wr = true ∧ off = 0 ∧ len ≤ b.els.length ∧ K (.sl b.sz (b.els.take len) true) [(id, len)] []
  | .agg l => outAs σ l fun m a => K (.agg m) [] a
  | .int k n => K (.int k n) [] []
  | .bool b => K (.bool b) [] []
  | .str s => K (.str s) [] []
  | .nils => K .nils [] []
  | .nilp => K .nilp [] []
  | .any => K .any [] []
  | _ => False
structure OutW (σ : AH) (x : AV) (K : AV → List (Nat × Nat) → List Nat → Prop) : Prop where
  of ::
  ok : outC σ x K
def outL (σ : AH) : List AV → (List AV → List (Nat × Nat) → List Nat → Prop) → Prop
  | [], K => K [] [] []
  | x :: r, K => OutW σ x fun y a c => outL σ r fun ys b d => K (y :: ys) (a ++ b) (c ++ d)
def outR (σ : AH) (x : AV) (post : AV → Prop) : Prop :=
  match x with
  | .tup l => outL σ l fun m ts nest => (ts.map (·.1) ++ nest).Nodup ∧ FreshR (.tup m) ∧ post (.tup m)
  | x => OutW σ x fun y ts nest => (ts.map (·.1) ++ nest).Nodup ∧ FreshR y ∧ post y

theorem blkAt_some {σ : AH} {id gen : Nat} {K : Blk → Prop} (h : blkAt σ id gen K) : ∃ b, σ[id]? = some b ∧ b.gen = gen ∧ K b := by
  replace h := h.ok
  unfold blkD at h
  split at h
  · exact ⟨_, ‹_›, h.1, h.2.2⟩
  · exact h.elim

theorem outA_elim {σ : AH} {x : AV} {K : AV → List Nat → Prop} (h : outA σ x K) : ∃ y a, expA σ x = some (y, a) ∧ K y a := by
  unfold outA at h
  split at h
  · obtain ⟨b, hb, hg, h1, h2, h3⟩ := blkAt_some h
    exact ⟨_, _, by simp [expA, hb, hg, h1, h2], h3⟩
  all_goals first | exact h.elim | exact ⟨_, _, by simp [expA, AV.flat], h⟩
theorem outAs_elim {σ : AH} : ∀ {l : List AV} {K : List AV → List Nat → Prop}, outAs σ l K → ∃ m a, expAs σ l = some (m, a) ∧ K m a
  | [], K, h => ⟨_, _, rfl, h⟩
  | x :: r, K, h => by
    obtain ⟨y, a, h1, h⟩ := outA_elim h
    obtain ⟨m, b, h2, h⟩ := outAs_elim h
    exact ⟨_, _, by simp [expAs, h1, h2], h⟩
theorem outC_elim {σ : AH} {x : AV} {K : AV → List (Nat × Nat) → List Nat → Prop} (h : outC σ x K) : ∃ y ts nest, expC σ x = some (y, ts, nest) ∧ K y ts nest := by
  unfold outC at h
  split at h
  · obtain ⟨b, hb, hg, h1, h2, h3, h4, h5⟩ := blkAt_some h
    exact ⟨_, _, _, by simp only [expC, hb]; rw [if_pos ⟨hg, h1, h2, h3, h4⟩], h5⟩
  · obtain ⟨m, a, h1, h⟩ := outAs_elim h
    exact ⟨.agg m, [], a, by simp [expC, h1], h⟩
  all_goals first | exact h.elim | exact ⟨_, [], [], rfl, h⟩
theorem outL_elim {σ : AH} : ∀ {l : List AV} {K : List AV → List (Nat × Nat) → List Nat → Prop}, outL σ l K → ∃ m ts nest, expL σ l = some (m, ts, nest) ∧ K m ts nest
  | [], K, h => ⟨_, _, _, rfl, h⟩
  | x :: r, K, h => by
    obtain ⟨y, a, c, h1, h⟩ := outC_elim h.ok
    obtain ⟨m, b, d, h2, h⟩ := outL_elim h
    exact ⟨y :: m, a ++ b, c ++ d, by simp [expL, h1, h2], h⟩
theorem outR_elim {σ : AH} {x : AV} {post : AV → Prop} (h : outR σ x post) : ∃ y ts nest, expR σ x = some (y, ts, nest) ∧ (ts.map (·.1) ++ nest).Nodup ∧ FreshR y ∧ post y := by
  unfold outR at h
  split at h
  · obtain ⟨m, ts, nest, h1, h2, h3, h4⟩ := outL_elim h
    exact ⟨.tup m, ts, nest, by simp [expR, h1], h2, h3, h4⟩
  · obtain ⟨y, ts, nest, h1, h2, h3, h4⟩ := outC_elim h.ok
    rename_i hx
    refine ⟨_, _, _, ?_, h2, h3, h4⟩
    unfold expR
    split
    · exact absurd rfl (hx _)
    · exact h1

theorem AOK.by_steps {P : Program} (hm : P.follows .mixedOrders = true) {f : Nat} {hs : Hs} {F : FC} (hc : compF P f hs = some F) {args : List AV} (ha : args.length ≤ F.n) {post : AV → Prop}
    (h : bodyA (CallS P) (IterS P) F.cmd F.res args [] fun x σ => outR σ x post) : AOK P f args post :=
  AOK.of_call ((call_of_body hm hc ha h).mono fun _ _ => outR_elim)

end Go.Proofs.Ytppccaacbpkgiaa.V
