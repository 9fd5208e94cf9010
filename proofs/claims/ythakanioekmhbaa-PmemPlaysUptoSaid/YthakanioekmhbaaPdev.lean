import Derived.Test.YthakanioekmhbaaPbytes
import Derived.Test.YthakanioekmhbaaPcalls
import Derived.Test.YthakanioekmhbaaPsort
namespace Go.Proofs.Ythakanioekmhbaa
open Go Go.Proofs.Ythakanioekmhbaa.V
set_option maxRecDepth 20000
attribute [local irreducible] CallS AOK AOKn ALoop Side Ref.ok
/-! ### A device: what it is, where it lies -/
structure Dv where
  L : List UInt8
  S : List UInt8
  es : List ME
  clock : Nat
  armed : Int
  down : Bool
structure DA where
  i : Nat
  il : Nat
  gl : Nat
  spl : List (List AV)
  is : Nat
  gs : Nat
  sps : List (List AV)
  im : Nat
def dbox (a : DA) (d : Dv) : Blk := { sz := 5, els := [[.rsl a.il a.gl 0 d.L.length none, .rsl a.is a.gs 0 d.S.length none, .rsl a.im 0 0 0 none, .int .i64 d.armed, .bool d.down]], gen := 0, wr := true, pure := false }
def DA.has (a : DA) (id : Nat) : Prop := id = a.i ∨ id = a.il ∨ id = a.is ∨ id = a.im
structure DevH (σ : AH) (a : DA) (d : Dv) : Prop where
  box : σ[a.i]? = some { sz := 5, els := [[.rsl a.il a.gl 0 d.L.length none, .rsl a.is a.gs 0 d.S.length none, .rsl a.im 0 0 0 none, .int .i64 d.armed, .bool d.down]], gen := 0, wr := true, pure := false }
  lasts : σ[a.il]? = some { sz := 1, els := bs d.L ++ a.spl, gen := a.gl, wr := true, pure := true }
  seen : σ[a.is]? = some { sz := 1, els := bs d.S ++ a.sps, gen := a.gs, wr := true, pure := true }
  map : σ[a.im]? = some (mblk d.es d.clock)
  ne : a.i ≠ a.il ∧ a.i ≠ a.is ∧ a.i ≠ a.im ∧ a.il ≠ a.is ∧ a.il ≠ a.im ∧ a.is ≠ a.im
/-- Blocks that are none of these stand. -/
def GrP (σ σ' : AH) (X : Nat → Prop) : Prop := σ.length ≤ σ'.length ∧ ∀ id b, σ[id]? = some b → ¬ X id → σ'[id]? = some b
theorem GrP.refl (σ : AH) (X : Nat → Prop) : GrP σ σ X := ⟨Nat.le_refl _, fun _ _ h _ => h⟩
theorem GrP.of {σ σ' : AH} (h : Gr σ σ' none) (X : Nat → Prop) : GrP σ σ' X := ⟨h.1, fun id b hb _ => h.2 id b hb (by simp)⟩
theorem GrP.trans {σ σ1 σ2 : AH} {X : Nat → Prop} (h : GrP σ σ1 X) (k : GrP σ1 σ2 X) : GrP σ σ2 X := ⟨Nat.le_trans h.1 k.1, fun id b hb hn => k.2 id b (h.2 id b hb hn) hn⟩
theorem GrP.set {σ : AH} {X : Nat → Prop} {id : Nat} (h : X id) (b : Blk) : GrP σ (σ.set id b) X := ⟨by simp, fun id' b' hb hn => by rw [List.getElem?_set_ne (fun e => hn (by rw [← e]; exact h))]; exact hb⟩
theorem GrP.setT {σ τ : AH} {X : Nat → Prop} (h : GrP σ τ X) {id : Nat} (hx : X id) (b : Blk) : GrP σ (τ.set id b) X := h.trans (.set hx b)
theorem GrP.add {σ τ : AH} {X : Nat → Prop} (h : GrP σ τ X) (r : AH) : GrP σ (τ ++ r) X := h.trans (.of (Gr.append _ _) _)
theorem GrP.new {σ τ : AH} {X : Nat → Prop} (h : GrP σ τ X) (sz : Nat) (els : List (List AV)) (p : Bool) : GrP σ (newB τ sz els p) X := h.add _
theorem GrP.setN {σ τ : AH} {X : Nat → Prop} (h : GrP σ τ X) {id : Nat} (hi : σ.length ≤ id) (b : Blk) : GrP σ (τ.set id b) X := by
  refine ⟨by simpa using h.1, fun id' b' hb hn => ?_⟩
  have hlt := (List.getElem?_eq_some_iff.1 hb).1
  rw [List.getElem?_set_ne (by omega)]
  exact h.2 id' b' hb hn
theorem DevH.lt {σ : AH} {a : DA} {d : Dv} (h : DevH σ a d) (id : Nat) (hx : a.has id) : id < σ.length := by
  rcases hx with rfl | rfl | rfl | rfl
  · exact (List.getElem?_eq_some_iff.1 h.box).1
  · exact (List.getElem?_eq_some_iff.1 h.lasts).1
  · exact (List.getElem?_eq_some_iff.1 h.seen).1
  · exact (List.getElem?_eq_some_iff.1 h.map).1
theorem DevH.keep {σ σ' : AH} {a : DA} {d : Dv} (h : DevH σ a d) {X : Nat → Prop} (hg : GrP σ σ' X) (hx : ∀ id, a.has id → ¬ X id) : DevH σ' a d :=
  ⟨hg.2 _ _ h.box (hx _ (.inl rfl)), hg.2 _ _ h.lasts (hx _ (.inr (.inl rfl))), hg.2 _ _ h.seen (hx _ (.inr (.inr (.inl rfl)))), hg.2 _ _ h.map (hx _ (.inr (.inr (.inr rfl)))), h.ne⟩
theorem DevH.keepN {σ σ' : AH} {a : DA} {d : Dv} (h : DevH σ a d) (hg : Gr σ σ' none) : DevH σ' a d := h.keep (GrP.of hg fun _ => False) fun _ _ => id
theorem DevH.setBox {σ : AH} {a : DA} {d : Dv} (h : DevH σ a d) (m : Int) (b : Bool) : DevH (σ.set a.i { sz := 5, els := [[.rsl a.il a.gl 0 d.L.length none, .rsl a.is a.gs 0 d.S.length none, .rsl a.im 0 0 0 none, .int .i64 m, .bool b]], gen := 0, wr := true, pure := false }) a { d with armed := m, down := b } := by
  obtain ⟨n1, n2, n3, n4, n5, n6⟩ := h.ne
  exact ⟨get_set h.box, get_set_ne n1 h.lasts, get_set_ne n2 h.seen, get_set_ne n3 h.map, h.ne⟩
theorem DevH.setL {σ : AH} {a : DA} {d : Dv} (h : DevH σ a d) (l : List UInt8) (hl : l.length = d.L.length) : DevH (σ.set a.il { sz := 1, els := bs l ++ a.spl, gen := a.gl, wr := true, pure := true }) a { d with L := l } := by
  obtain ⟨n1, n2, n3, n4, n5, n6⟩ := h.ne
  exact ⟨by dsimp only; rw [hl]; exact get_set_ne (Ne.symm n1) h.box, get_set h.lasts, get_set_ne n4 h.seen, get_set_ne n5 h.map, h.ne⟩
theorem DevH.setS {σ : AH} {a : DA} {d : Dv} (h : DevH σ a d) (l : List UInt8) (hl : l.length = d.S.length) : DevH (σ.set a.is { sz := 1, els := bs l ++ a.sps, gen := a.gs, wr := true, pure := true }) a { d with S := l } := by
  obtain ⟨n1, n2, n3, n4, n5, n6⟩ := h.ne
  exact ⟨by dsimp only; rw [hl]; exact get_set_ne (Ne.symm n2) h.box, get_set_ne (Ne.symm n4) h.lasts, get_set h.seen, get_set_ne n6 h.map, h.ne⟩
theorem DevH.setM {σ : AH} {a : DA} {d : Dv} (h : DevH σ a d) (es : List ME) (c : Nat) : DevH (σ.set a.im (mblk es c)) a { d with es := es, clock := c } := by
  obtain ⟨n1, n2, n3, n4, n5, n6⟩ := h.ne
  exact ⟨get_set_ne (Ne.symm n3) h.box, get_set_ne (Ne.symm n5) h.lasts, get_set_ne (Ne.symm n6) h.seen, get_set h.map, h.ne⟩
/-! ### What is asked, and where a step begins -/
def askD (d : Dv) (at' n : Int) : Int := if d.down = true then 5 else if at' < 0 ∨ (d.S.length : Int) < at' ∨ n < 0 ∨ (d.S.length : Int) - at' < n then 1 else 0
def beginD (d : Dv) (at' n : Int) : Int × Dv :=
  if askD d at' n ≠ 0 then (askD d at' n, d) else if 0 < d.armed then (if d.armed - 1 = 0 then (5, { d with armed := d.armed - 1, down := true }) else (0, { d with armed := d.armed - 1 })) else (0, d)
theorem asks_ok {σ : AH} {a : DA} {d : Dv} (h : DevH σ a d) (hl : d.S.length ≤ 1048576) (at' n : Int) (Q : AV → AH → Prop) (hQ : Q (.int .i64 (askD d at' n)) σ) : CallS Try.prog F.pmem_Device_asks [.ptr a.i 0 0 0, .int .i64 at', .int .i64 n] σ Q := by
  obtain ⟨box, lasts, seen, map, ne⟩ := h
  have hn := bs_length d.S
  refine call_of_body mixed fc_pmem_Device_asks_ok (by simp [fc_pmem_Device_asks]) ?_
  unfold askD at hQ
  by_cases hd : d.down = true
  · rw [if_pos hd] at hQ
    rw [hd] at box
    repeat' (first
      | ((conv => whnf) <;> (first
      | ((with_reducible apply blkAt_step) ; (focus (first
      | ((repeat (first
      | assumption
      )); done)
      )) ; (focus (first | rfl | assumption | omega)) ; (focus (first | rfl | assumption)) ; (try dsimp only))
      ))
      )
    all_goals (conv => whnf)
    all_goals (try dsimp only)
    exact hQ
  · rw [if_neg hd] at hQ
    rw [Bool.not_eq_true] at hd
    rw [hd] at box
    repeat' (first
      | ((conv => whnf) <;> (first
      | (with_reducible refine and_same ?_)
      | ((with_reducible apply Br.yes) ; (focus omega))
      | (with_reducible refine Br.mk (fun _ => ?_) (fun _ => ?_))
      | ((with_reducible apply blkAt_step) ; (focus (first
      | ((repeat (first
      | assumption
      )); done)
      )) ; (focus (first | rfl | assumption | omega)) ; (focus (first | rfl | assumption)) ; (try dsimp only))
      | (with_reducible refine lenR_rsl ?_)
      ))
      )
    all_goals (conv => whnf)
    all_goals (try dsimp only)
    all_goals (first | (rw [if_pos (by omega)] at hQ; exact hQ) | (rw [if_neg (by omega)] at hQ; exact hQ))
theorem begins_ok {σ : AH} {a : DA} {d : Dv} (h : DevH σ a d) (hl : d.S.length ≤ 1048576) (ha : d.armed ≤ 9223372036854775807 ∧ 0 ≤ d.armed) (at' n : Int) (Q : AV → AH → Prop) (hQ : ∀ σ', DevH σ' a (beginD d at' n).2 → GrP σ σ' a.has → Q (.int .i64 (beginD d at' n).1) σ') : CallS Try.prog F.pmem_Device_begins [.ptr a.i 0 0 0, .int .i64 at', .int .i64 n] σ Q := by
  have h0 := h
  obtain ⟨box, lasts, seen, map, ne⟩ := h0
  refine call_of_body mixed fc_pmem_Device_begins_ok (by simp [fc_pmem_Device_begins]) ?_
  skip
  all_goals (conv => whnf)
  all_goals (try dsimp only)
  refine asks_ok h hl at' n _ ?_
  unfold beginD at hQ
  generalize hk : askD d at' n = k at hQ
  by_cases h1 : k = 0
  · subst h1
    rw [if_neg (by simp)] at hQ
    by_cases h2 : 0 < d.armed
    · rw [if_pos h2] at hQ
      by_cases h3 : d.armed - 1 = 0
      · rw [if_pos h3] at hQ
        repeat' (first
          | ((with_reducible refine Side.intro ?_) <;> (first
          | exact Nat.le_of_ble_eq_true rfl
          | exact rfl
          ))
          | ((conv => whnf) <;> (first
          | (with_reducible refine and_same ?_)
          | (with_reducible refine and_side ?_ ?_)
          | ((with_reducible apply Br.yes) ; (focus omega))
          | ((with_reducible apply Br.no) ; (focus omega))
          | ((with_reducible apply blkAt_step) ; (focus (first
          | ((repeat (first
          | assumption
          | exact get_set (by assumption)
          )); done)
          )) ; (focus (first | rfl | assumption | omega)) ; (focus (first | rfl | assumption)) ; (try dsimp only))
          ))
          )
        all_goals (conv => whnf)
        all_goals (try dsimp only)
        exact hQ _ ((h.setBox (d.armed - 1) d.down).setBox (d.armed - 1) true) (((GrP.refl _ _).setT (.inl rfl) _).setT (.inl rfl) _)
      · rw [if_neg h3] at hQ
        repeat' (first
          | ((with_reducible refine Side.intro ?_) <;> (first
          | exact Nat.le_of_ble_eq_true rfl
          | exact rfl
          ))
          | ((conv => whnf) <;> (first
          | (with_reducible refine and_same ?_)
          | (with_reducible refine and_side ?_ ?_)
          | ((with_reducible apply Br.yes) ; (focus omega))
          | ((with_reducible apply Br.no) ; (focus omega))
          | ((with_reducible apply blkAt_step) ; (focus (first
          | ((repeat (first
          | assumption
          | exact get_set (by assumption)
          )); done)
          )) ; (focus (first | rfl | assumption | omega)) ; (focus (first | rfl | assumption)) ; (try dsimp only))
          ))
          )
        all_goals (conv => whnf)
        all_goals (try dsimp only)
        exact hQ _ (h.setBox (d.armed - 1) d.down) ((GrP.refl _ _).setT (.inl rfl) _)
    · rw [if_neg h2] at hQ
      repeat' (first
        | ((conv => whnf) <;> (first
        | (with_reducible refine and_same ?_)
        | ((with_reducible apply Br.no) ; (focus omega))
        | ((with_reducible apply blkAt_step) ; (focus (first
        | ((repeat (first
        | assumption
        )); done)
        )) ; (focus (first | rfl | assumption | omega)) ; (focus (first | rfl | assumption)) ; (try dsimp only))
        ))
        )
      all_goals (conv => whnf)
      all_goals (try dsimp only)
      exact hQ _ h (GrP.refl _ _)
  · rw [if_pos h1] at hQ
    repeat' (first
      | ((conv => whnf) <;> (first
      | (with_reducible refine and_same ?_)
      | ((with_reducible apply Br.yes) ; (focus omega))
      ))
      )
    all_goals (conv => whnf)
    all_goals (try dsimp only)
    exact hQ _ h (GrP.refl _ _)
theorem Lines_ok {σ : AH} {a : DA} {d : Dv} (h : DevH σ a d) (hl : d.S.length ≤ 1048576) (Q : AV → AH → Prop) (hQ : Q (.int .i64 ((d.S.length : Int) / 64)) σ) : CallS Try.prog F.pmem_Device_Lines [.ptr a.i 0 0 0] σ Q := by
  obtain ⟨box, lasts, seen, map, ne⟩ := h
  have hn := bs_length d.S
  refine call_of_body mixed fc_pmem_Device_Lines_ok (by simp [fc_pmem_Device_Lines]) ?_
  repeat' (first
    | ((with_reducible refine Side.intro ?_) <;> (first
    | omega
    ))
    | ((conv => whnf) <;> (first
    | (with_reducible refine and_same ?_)
    | (with_reducible refine and_side ?_ ?_)
    | ((with_reducible apply Br.yes) ; (focus omega))
    | ((with_reducible apply blkAt_step) ; (focus (first
    | ((repeat (first
    | assumption
    )); done)
    )) ; (focus (first | rfl | assumption | omega)) ; (focus (first | rfl | assumption)) ; (try dsimp only))
    | (with_reducible refine lenR_rsl ?_)
    ))
    )
  all_goals (conv => whnf)
  all_goals (try dsimp only)
  exact hQ
theorem Down_ok {σ : AH} {a : DA} {d : Dv} (h : DevH σ a d) (Q : AV → AH → Prop) (hQ : Q (.bool d.down) σ) : CallS Try.prog F.pmem_Device_Down [.ptr a.i 0 0 0] σ Q := by
  obtain ⟨box, lasts, seen, map, ne⟩ := h
  refine call_of_body mixed fc_pmem_Device_Down_ok (by simp [fc_pmem_Device_Down]) ?_
  repeat' (first
    | ((conv => whnf) <;> (first
    | ((with_reducible apply blkAt_step) ; (focus (first
    | ((repeat (first
    | assumption
    )); done)
    )) ; (focus (first | rfl | assumption | omega)) ; (focus (first | rfl | assumption)) ; (try dsimp only))
    ))
    )
  all_goals (conv => whnf)
  all_goals (try dsimp only)
  exact hQ
theorem Arm_ok {σ : AH} {a : DA} {d : Dv} (h : DevH σ a d) (n : Int) (Q : AV → AH → Prop) (hQ : ∀ σ', DevH σ' a { d with armed := max n 0 } → GrP σ σ' a.has → Q (.tup []) σ') : CallS Try.prog F.pmem_Device_Arm [.ptr a.i 0 0 0, .int .i64 n] σ Q := by
  have h0 := h
  obtain ⟨box, lasts, seen, map, ne⟩ := h0
  refine call_of_body mixed fc_pmem_Device_Arm_ok (by simp [fc_pmem_Device_Arm]) ?_
  by_cases hn : n < 0
  · have e : max n 0 = 0 := by omega
    rw [e] at hQ
    repeat' (first
      | ((with_reducible refine Side.intro ?_) <;> (first
      | exact Nat.le_of_ble_eq_true rfl
      | exact rfl
      ))
      | ((conv => whnf) <;> (first
      | (with_reducible refine and_same ?_)
      | (with_reducible refine and_side ?_ ?_)
      | ((with_reducible apply Br.yes) ; (focus omega))
      | ((with_reducible apply blkAt_step) ; (focus (first
      | ((repeat (first
      | assumption
      )); done)
      )) ; (focus (first | rfl | assumption | omega)) ; (focus (first | rfl | assumption)) ; (try dsimp only))
      ))
      )
    all_goals (conv => whnf)
    all_goals (try dsimp only)
    exact hQ _ (h.setBox _ d.down) ((GrP.refl _ _).setT (.inl rfl) _)
  · have e : max n 0 = n := by omega
    rw [e] at hQ
    repeat' (first
      | ((with_reducible refine Side.intro ?_) <;> (first
      | exact Nat.le_of_ble_eq_true rfl
      | exact rfl
      ))
      | ((conv => whnf) <;> (first
      | (with_reducible refine and_same ?_)
      | (with_reducible refine and_side ?_ ?_)
      | ((with_reducible apply Br.no) ; (focus omega))
      | ((with_reducible apply blkAt_step) ; (focus (first
      | ((repeat (first
      | assumption
      )); done)
      )) ; (focus (first | rfl | assumption | omega)) ; (focus (first | rfl | assumption)) ; (try dsimp only))
      ))
      )
    all_goals (conv => whnf)
    all_goals (try dsimp only)
    exact hQ _ (h.setBox _ d.down) ((GrP.refl _ _).setT (.inl rfl) _)
theorem Image_ok {σ : AH} {a : DA} {d : Dv} (h : DevH σ a d) (hl : d.L.length ≤ 1048576) (Q : AV → AH → Prop) (hQ : ∀ y σ', Gr σ σ' none → Own σ' 1 y (bs d.L) → New σ y → Q y σ') : CallS Try.prog F.pmem_Device_Image [.ptr a.i 0 0 0] σ Q := by
  obtain ⟨box, lasts, seen, map, ne⟩ := h
  have hn := bs_length d.L
  refine call_of_body mixed fc_pmem_Device_Image_ok (by simp [fc_pmem_Device_Image]) ?_
  repeat' (first
    | ((conv => whnf) <;> (first
    | ((with_reducible apply blkAt_step) ; (focus (first
    | ((repeat (first
    | assumption
    )); done)
    )) ; (focus (first | rfl | assumption | omega)) ; (focus (first | rfl | assumption)) ; (try dsimp only))
    ))
    )
  all_goals (conv => whnf)
  all_goals (try dsimp only)
  have ho : Own σ 1 (.rsl a.il a.gl 0 d.L.length none) (bs d.L) := Own.mk' lasts hn.symm rfl
  refine call_sl (bytes_Clone_ok d.L (by omega)) (.cons (Looks.ownbs ho) .nil) fun σ1 y hg ho1 hy => ?_
  skip
  all_goals (conv => whnf)
  all_goals (try dsimp only)
  exact hQ y σ1 hg ho1 hy
theorem View_ok {σ : AH} {a : DA} {d : Dv} (h : DevH σ a d) (hl : d.S.length ≤ 1048576) (Q : AV → AH → Prop) (hQ : ∀ y σ', Gr σ σ' none → Own σ' 1 y (bs d.S) → New σ y → Q y σ') : CallS Try.prog F.pmem_Device_View [.ptr a.i 0 0 0] σ Q := by
  obtain ⟨box, lasts, seen, map, ne⟩ := h
  have hn := bs_length d.S
  refine call_of_body mixed fc_pmem_Device_View_ok (by simp [fc_pmem_Device_View]) ?_
  repeat' (first
    | ((conv => whnf) <;> (first
    | ((with_reducible apply blkAt_step) ; (focus (first
    | ((repeat (first
    | assumption
    )); done)
    )) ; (focus (first | rfl | assumption | omega)) ; (focus (first | rfl | assumption)) ; (try dsimp only))
    ))
    )
  all_goals (conv => whnf)
  all_goals (try dsimp only)
  have ho : Own σ 1 (.rsl a.is a.gs 0 d.S.length none) (bs d.S) := Own.mk' seen hn.symm rfl
  refine call_sl (bytes_Clone_ok d.S (by omega)) (.cons (Looks.ownbs ho) .nil) fun σ1 y hg ho1 hy => ?_
  skip
  all_goals (conv => whnf)
  all_goals (try dsimp only)
  exact hQ y σ1 hg ho1 hy
end Go.Proofs.Ythakanioekmhbaa
