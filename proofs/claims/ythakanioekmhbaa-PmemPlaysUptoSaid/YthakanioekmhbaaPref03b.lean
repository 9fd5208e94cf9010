import Derived.Test.YthakanioekmhbaaPref03
namespace Go.Proofs.Ythakanioekmhbaa
open Go Go.Proofs.Ythakanioekmhbaa.V
set_option maxRecDepth 20000
attribute [local irreducible] CallS AOK AOKn ALoop Side Ref.ok
def rbox (a : RA) (d : Rv) (m : Int) (b : Bool) : Blk := { sz := 6, els := [[.rsl a.il a.gl 0 d.L.length none, .rsl a.is a.gs 0 d.S.length none, .rsl a.jd a.gd 0 d.D.length none, .rsl a.jf a.gf 0 d.Fl.length none, .int .i64 m, .bool b]], gen := 0, wr := true, pure := false }
theorem RefH.lt {σ : AH} {a : RA} {d : Rv} (h : RefH σ a d) (id : Nat) (hx : a.has id) : id < σ.length := by
  rcases hx with rfl | rfl | rfl | rfl | rfl
  · exact (List.getElem?_eq_some_iff.1 h.box).1
  · exact (List.getElem?_eq_some_iff.1 h.lasts).1
  · exact (List.getElem?_eq_some_iff.1 h.seen).1
  · exact (List.getElem?_eq_some_iff.1 h.dirty).1
  · exact (List.getElem?_eq_some_iff.1 h.flush).1
theorem RefH.keep {σ σ' : AH} {a : RA} {d : Rv} (h : RefH σ a d) {X : Nat → Prop} (hg : GrP σ σ' X) (hx : ∀ id, a.has id → ¬ X id) : RefH σ' a d :=
  ⟨hg.2 _ _ h.box (hx _ (.inl rfl)), hg.2 _ _ h.lasts (hx _ (.inr (.inl rfl))), hg.2 _ _ h.seen (hx _ (.inr (.inr (.inl rfl)))), hg.2 _ _ h.dirty (hx _ (.inr (.inr (.inr (.inl rfl))))), hg.2 _ _ h.flush (hx _ (.inr (.inr (.inr (.inr rfl))))), h.ne⟩
theorem RefH.keepN {σ σ' : AH} {a : RA} {d : Rv} (h : RefH σ a d) (hg : Gr σ σ' none) : RefH σ' a d := h.keep (GrP.of hg fun _ => False) fun _ _ => id
theorem RefH.setBox {σ : AH} {a : RA} {d : Rv} (h : RefH σ a d) (m : Int) (b : Bool) : RefH (σ.set a.i (rbox a d m b)) a { d with armed := m, down := b } := by
  obtain ⟨⟨n1, n2, n3, n4⟩, ⟨n5, n6, n7⟩, ⟨n8, n9⟩, n10⟩ := h.ne
  exact ⟨get_set h.box, get_set_ne n1 h.lasts, get_set_ne n2 h.seen, get_set_ne n3 h.dirty, get_set_ne n4 h.flush, h.ne⟩
theorem RefH.setL {σ : AH} {a : RA} {d : Rv} (h : RefH σ a d) (l : List UInt8) (hl : l.length = d.L.length) : RefH (σ.set a.il { sz := 1, els := bs l ++ a.spl, gen := a.gl, wr := true, pure := true }) a { d with L := l } := by
  obtain ⟨⟨n1, n2, n3, n4⟩, ⟨n5, n6, n7⟩, ⟨n8, n9⟩, n10⟩ := h.ne
  exact ⟨by dsimp only; rw [hl]; exact get_set_ne (Ne.symm n1) h.box, get_set h.lasts, get_set_ne n5 h.seen, get_set_ne n6 h.dirty, get_set_ne n7 h.flush, h.ne⟩
theorem RefH.setS {σ : AH} {a : RA} {d : Rv} (h : RefH σ a d) (l : List UInt8) (hl : l.length = d.S.length) : RefH (σ.set a.is { sz := 1, els := bs l ++ a.sps, gen := a.gs, wr := true, pure := true }) a { d with S := l } := by
  obtain ⟨⟨n1, n2, n3, n4⟩, ⟨n5, n6, n7⟩, ⟨n8, n9⟩, n10⟩ := h.ne
  exact ⟨by dsimp only; rw [hl]; exact get_set_ne (Ne.symm n2) h.box, get_set_ne (Ne.symm n5) h.lasts, get_set h.seen, get_set_ne n8 h.dirty, get_set_ne n9 h.flush, h.ne⟩
theorem RefH.setDi {σ : AH} {a : RA} {d : Rv} (h : RefH σ a d) (l : List Bool) (hl : l.length = d.D.length) : RefH (σ.set a.jd { sz := 1, els := bls l ++ a.spd, gen := a.gd, wr := true, pure := true }) a { d with D := l } := by
  obtain ⟨⟨n1, n2, n3, n4⟩, ⟨n5, n6, n7⟩, ⟨n8, n9⟩, n10⟩ := h.ne
  exact ⟨by dsimp only; rw [hl]; exact get_set_ne (Ne.symm n3) h.box, get_set_ne (Ne.symm n6) h.lasts, get_set_ne (Ne.symm n8) h.seen, get_set h.dirty, get_set_ne n10 h.flush, h.ne⟩
theorem RefH.setFl {σ : AH} {a : RA} {d : Rv} (h : RefH σ a d) (l : List Bool) (hl : l.length = d.Fl.length) : RefH (σ.set a.jf { sz := 1, els := bls l ++ a.spf, gen := a.gf, wr := true, pure := true }) a { d with Fl := l } := by
  obtain ⟨⟨n1, n2, n3, n4⟩, ⟨n5, n6, n7⟩, ⟨n8, n9⟩, n10⟩ := h.ne
  exact ⟨by dsimp only; rw [hl]; exact get_set_ne (Ne.symm n4) h.box, get_set_ne (Ne.symm n7) h.lasts, get_set_ne (Ne.symm n9) h.seen, get_set_ne (Ne.symm n10) h.dirty, get_set h.flush, h.ne⟩
theorem bs_setL {s : List UInt8} {i : Nat} (hi : i < s.length) (b : UInt8) (sp : List (List AV)) : (bs s ++ sp).set i [.int .u8 b.toNat] = bs (s.set i b) ++ sp := by
  rw [List.set_append_left _ _ (by rw [bs_length]; exact hi), bs_set]
theorem bls_setL {s : List Bool} {i : Nat} (hi : i < s.length) (b : Bool) (sp : List (List AV)) : (bls s ++ sp).set i [.bool b] = bls (s.set i b) ++ sp := by
  rw [List.set_append_left _ _ (by rw [bls_length]; exact hi)]
  simp [bls, List.map_set]
/-- The reference's value tells what a device's does. -/
structure RD (d : Dv) (r : Rv) : Prop where
  L : r.L = d.L
  S : r.S = d.S
  armed : r.armed = d.armed
  down : r.down = d.down
  dl : 64 * r.D.length = d.L.length
  fl : r.Fl.length = r.D.length
  at' : ∀ k, k < r.D.length → r.D[k]? = some (mget d.es (k : Int)).isSome ∧ r.Fl[k]? = some (flushed d.es (k : Int))
def askR (d : Rv) (at' n : Int) : Int := if d.down = true then 5 else if at' < 0 ∨ (d.S.length : Int) < at' ∨ n < 0 ∨ (d.S.length : Int) - at' < n then 1 else 0
theorem RD.ask {d : Dv} {r : Rv} (h : RD d r) (at' n : Int) : askR r at' n = askD d at' n := by unfold askR askD; rw [h.down, h.S]
def stepR (d : Rv) : Bool × Rv := if d.armed = 0 then (false, d) else if d.armed - 1 = 0 then (true, { d with armed := d.armed - 1, down := true }) else (false, { d with armed := d.armed - 1, down := false })
theorem Rasks_ok {σ : AH} {a : RA} {d : Rv} (h : RefH σ a d) (hl : d.S.length ≤ 1048576) (at' n : Int) (Q : AV → AH → Prop) (hQ : Q (.int .i64 (askR d at' n)) σ) : CallS Try.prog F.joistref03_Device_asks [.ptr a.i 0 0 0, .int .i64 at', .int .i64 n] σ Q := by
  obtain ⟨box, lasts, seen, dirty, flush, ne⟩ := h
  have hn := bs_length d.S
  refine call_of_body mixed fc_joistref03_Device_asks_ok (by simp [fc_joistref03_Device_asks]) ?_
  unfold askR at hQ
  by_cases hd : d.down = true
  · rw [if_pos hd] at hQ
    rw [hd] at box
    repeat' (first
      | ((conv => whnf) <;> (first
      | ((with_reducible apply blkAt_step) ; (focus (first
      | ((repeat (first
      | assumption
      )); done)
      )) ; (focus (first | rfl | assumption | omega)) ; (focus (first | rfl | assumption)) ; (try dsimp only))
      ))
      )
    all_goals (conv => whnf)
    all_goals (try dsimp only)
    exact hQ
  · rw [if_neg hd] at hQ
    rw [Bool.not_eq_true] at hd
    rw [hd] at box
    repeat' (first
      | ((conv => whnf) <;> (first
      | (with_reducible refine and_same ?_)
      | ((with_reducible apply Br.yes) ; (focus omega))
      | (with_reducible refine Br.mk (fun _ => ?_) (fun _ => ?_))
      | ((with_reducible apply blkAt_step) ; (focus (first
      | ((repeat (first
      | assumption
      )); done)
      )) ; (focus (first | rfl | assumption | omega)) ; (focus (first | rfl | assumption)) ; (try dsimp only))
      | (with_reducible refine lenR_rsl ?_)
      ))
      )
    all_goals (conv => whnf)
    all_goals (try dsimp only)
    all_goals (first | (rw [if_pos (by omega)] at hQ; exact hQ) | (rw [if_neg (by omega)] at hQ; exact hQ))
theorem Rstep_ok {σ : AH} {a : RA} {d : Rv} (h : RefH σ a d) (ha : d.armed ≤ 9223372036854775807 ∧ 0 ≤ d.armed) (Q : AV → AH → Prop) (hQ : ∀ σ', RefH σ' a (stepR d).2 → GrP σ σ' a.has → Q (.bool (stepR d).1) σ') : CallS Try.prog F.joistref03_Device_step [.ptr a.i 0 0 0] σ Q := by
  have h0 := h
  obtain ⟨box, lasts, seen, dirty, flush, ne⟩ := h0
  refine call_of_body mixed fc_joistref03_Device_step_ok (by simp [fc_joistref03_Device_step]) ?_
  unfold stepR at hQ
  by_cases h1 : d.armed = 0
  · rw [if_pos h1] at hQ
    repeat' (first
      | ((conv => whnf) <;> (first
      | (with_reducible refine and_same ?_)
      | ((with_reducible apply Br.yes) ; (focus omega))
      | ((with_reducible apply blkAt_step) ; (focus (first
      | ((repeat (first
      | assumption
      )); done)
      )) ; (focus (first | rfl | assumption | omega)) ; (focus (first | rfl | assumption)) ; (try dsimp only))
      ))
      )
    all_goals (conv => whnf)
    all_goals (try dsimp only)
    exact hQ _ h (.refl _ _)
  · rw [if_neg h1] at hQ
    by_cases h2 : d.armed - 1 = 0
    · rw [if_pos h2] at hQ
      repeat' (first
        | ((with_reducible refine Side.intro ?_) <;> (first
        | exact Nat.le_of_ble_eq_true rfl
        | exact rfl
        ))
        | ((conv => whnf) <;> (first
        | (with_reducible refine and_same ?_)
        | (with_reducible refine and_side ?_ ?_)
        | ((with_reducible apply Br.yes) ; (focus omega))
        | ((with_reducible apply Br.no) ; (focus omega))
        | ((with_reducible apply blkAt_step) ; (focus (first
        | ((repeat (first
        | assumption
        | exact get_set (by assumption)
        | with_reducible apply get_set
        )); done)
        )) ; (focus (first | rfl | assumption | omega)) ; (focus (first | rfl | assumption)) ; (try dsimp only))
        ))
        )
      all_goals (conv => whnf)
      all_goals (try dsimp only)
      exact hQ _ ((h.setBox (d.armed - 1) d.down).setBox (d.armed - 1) true) (((GrP.refl _ _).setT (.inl rfl) _).setT (.inl rfl) _)
    · rw [if_neg h2] at hQ
      repeat' (first
        | ((with_reducible refine Side.intro ?_) <;> (first
        | exact Nat.le_of_ble_eq_true rfl
        | exact rfl
        ))
        | ((conv => whnf) <;> (first
        | (with_reducible refine and_same ?_)
        | (with_reducible refine and_side ?_ ?_)
        | ((with_reducible apply Br.yes) ; (focus omega))
        | ((with_reducible apply Br.no) ; (focus omega))
        | ((with_reducible apply blkAt_step) ; (focus (first
        | ((repeat (first
        | assumption
        | exact get_set (by assumption)
        | with_reducible apply get_set
        )); done)
        )) ; (focus (first | rfl | assumption | omega)) ; (focus (first | rfl | assumption)) ; (try dsimp only))
        ))
        )
      all_goals (conv => whnf)
      all_goals (try dsimp only)
      exact hQ _ ((h.setBox (d.armed - 1) d.down).setBox (d.armed - 1) false) (((GrP.refl _ _).setT (.inl rfl) _).setT (.inl rfl) _)
theorem RLines_ok {σ : AH} {a : RA} {d : Rv} (h : RefH σ a d) (Q : AV → AH → Prop) (hQ : Q (.int .i64 d.D.length) σ) : CallS Try.prog F.joistref03_Device_Lines [.ptr a.i 0 0 0] σ Q := by
  obtain ⟨box, lasts, seen, dirty, flush, ne⟩ := h
  have hn := bls_length d.D
  refine call_of_body mixed fc_joistref03_Device_Lines_ok (by simp [fc_joistref03_Device_Lines]) ?_
  repeat' (first
    | ((conv => whnf) <;> (first
    | ((with_reducible apply blkAt_step) ; (focus (first
    | ((repeat (first
    | assumption
    )); done)
    )) ; (focus (first | rfl | assumption | omega)) ; (focus (first | rfl | assumption)) ; (try dsimp only))
    | (with_reducible refine lenR_rsl ?_)
    ))
    )
  all_goals (conv => whnf)
  all_goals (try dsimp only)
  exact hQ
theorem RDown_ok {σ : AH} {a : RA} {d : Rv} (h : RefH σ a d) (Q : AV → AH → Prop) (hQ : Q (.bool d.down) σ) : CallS Try.prog F.joistref03_Device_Down [.ptr a.i 0 0 0] σ Q := by
  obtain ⟨box, lasts, seen, dirty, flush, ne⟩ := h
  refine call_of_body mixed fc_joistref03_Device_Down_ok (by simp [fc_joistref03_Device_Down]) ?_
  repeat' (first
    | ((conv => whnf) <;> (first
    | ((with_reducible apply blkAt_step) ; (focus (first
    | ((repeat (first
    | assumption
    )); done)
    )) ; (focus (first | rfl | assumption | omega)) ; (focus (first | rfl | assumption)) ; (try dsimp only))
    ))
    )
  all_goals (conv => whnf)
  all_goals (try dsimp only)
  exact hQ
theorem RArm_ok {σ : AH} {a : RA} {d : Rv} (h : RefH σ a d) (n : Int) (Q : AV → AH → Prop) (hQ : ∀ σ', RefH σ' a { d with armed := max n 0 } → GrP σ σ' a.has → Q (.tup []) σ') : CallS Try.prog F.joistref03_Device_Arm [.ptr a.i 0 0 0, .int .i64 n] σ Q := by
  have h0 := h
  obtain ⟨box, lasts, seen, dirty, flush, ne⟩ := h0
  refine call_of_body mixed fc_joistref03_Device_Arm_ok (by simp [fc_joistref03_Device_Arm]) ?_
  by_cases hn : n < 0
  · have e : max n 0 = 0 := by omega
    rw [e] at hQ
    repeat' (first
      | ((with_reducible refine Side.intro ?_) <;> (first
      | exact Nat.le_of_ble_eq_true rfl
      | exact rfl
      ))
      | ((conv => whnf) <;> (first
      | (with_reducible refine and_same ?_)
      | (with_reducible refine and_side ?_ ?_)
      | ((with_reducible apply Br.yes) ; (focus omega))
      | ((with_reducible apply blkAt_step) ; (focus (first
      | ((repeat (first
      | assumption
      )); done)
      )) ; (focus (first | rfl | assumption | omega)) ; (focus (first | rfl | assumption)) ; (try dsimp only))
      ))
      )
    all_goals (conv => whnf)
    all_goals (try dsimp only)
    exact hQ _ (h.setBox _ d.down) ((GrP.refl _ _).setT (.inl rfl) _)
  · have e : max n 0 = n := by omega
    rw [e] at hQ
    repeat' (first
      | ((with_reducible refine Side.intro ?_) <;> (first
      | exact Nat.le_of_ble_eq_true rfl
      | exact rfl
      ))
      | ((conv => whnf) <;> (first
      | (with_reducible refine and_same ?_)
      | (with_reducible refine and_side ?_ ?_)
      | ((with_reducible apply Br.no) ; (focus omega))
      | ((with_reducible apply blkAt_step) ; (focus (first
      | ((repeat (first
      | assumption
      )); done)
      )) ; (focus (first | rfl | assumption | omega)) ; (focus (first | rfl | assumption)) ; (try dsimp only))
      ))
      )
    all_goals (conv => whnf)
    all_goals (try dsimp only)
    exact hQ _ (h.setBox _ d.down) ((GrP.refl _ _).setT (.inl rfl) _)
theorem RImage_ok {σ : AH} {a : RA} {d : Rv} (h : RefH σ a d) (hl : d.L.length ≤ 1048576) (Q : AV → AH → Prop) (hQ : ∀ y σ', Gr σ σ' none → Own σ' 1 y (bs d.L) → New σ y → Q y σ') : CallS Try.prog F.joistref03_Device_Image [.ptr a.i 0 0 0] σ Q := by
  obtain ⟨box, lasts, seen, dirty, flush, ne⟩ := h
  have hn := bs_length d.L
  have li := (List.getElem?_eq_some_iff.1 lasts).1
  refine call_of_body mixed fc_joistref03_Device_Image_ok (by simp [fc_joistref03_Device_Image]) ?_
  repeat' (first
    | ((with_reducible refine Side.intro ?_) <;> (first
    | omega
    | (simp only [bs_length, List.length_append, List.length_cons, List.length_nil, List.length_take, List.length_drop, List.length_set, List.length_replicate]; omega)
    ))
    | ((conv => whnf) <;> (first
    | (with_reducible refine and_same ?_)
    | (with_reducible refine and_side ?_ ?_)
    | ((with_reducible apply blkAt_step) ; (focus (first
    | ((repeat (first
    | assumption
    | apply get_old
    )); done)
    )) ; (focus (first | rfl | assumption | omega)) ; (focus (first | rfl | assumption)) ; (try dsimp only))
    | ((with_reducible apply appendR_lit) ; (focus (first
    | ((repeat (first
    | exact get_new
    )); done)
    )) ; (focus (first | rfl | assumption)) ; (focus (first | rfl | assumption)) ; (focus rfl) ; (focus rfl) ; (focus rfl) ; (focus (first | exact Nat.zero_le _ | omega | (simp; done) | (simp; omega))) ; (try dsimp only))
    | (with_reducible refine AppC.frz ?_)
    | (with_reducible refine rowsR_rsl ?_)
    ))
    )
  all_goals (conv => whnf)
  all_goals (try dsimp only)
  rw [List.drop_zero, List.take_append_of_le_length (by rw [hn]; omega), bs_take, List.take_of_length_le (Nat.le_refl _)]
  refine hQ _ _ (Gr.setNew (Gr.newN (Gr.refl _ _) _ _ _) (Nat.le_refl _) _) (Own.mk' (sp := []) (get_set get_new) (by simp) (by simp)) (fun id e => by cases e; exact Nat.le_refl _)
theorem RView_ok {σ : AH} {a : RA} {d : Rv} (h : RefH σ a d) (hl : d.S.length ≤ 1048576) (Q : AV → AH → Prop) (hQ : ∀ y σ', Gr σ σ' none → Own σ' 1 y (bs d.S) → New σ y → Q y σ') : CallS Try.prog F.joistref03_Device_View [.ptr a.i 0 0 0] σ Q := by
  obtain ⟨box, lasts, seen, dirty, flush, ne⟩ := h
  have hn := bs_length d.S
  have li := (List.getElem?_eq_some_iff.1 seen).1
  refine call_of_body mixed fc_joistref03_Device_View_ok (by simp [fc_joistref03_Device_View]) ?_
  repeat' (first
    | ((with_reducible refine Side.intro ?_) <;> (first
    | omega
    | (simp only [bs_length, List.length_append, List.length_cons, List.length_nil, List.length_take, List.length_drop, List.length_set, List.length_replicate]; omega)
    ))
    | ((conv => whnf) <;> (first
    | (with_reducible refine and_same ?_)
    | (with_reducible refine and_side ?_ ?_)
    | ((with_reducible apply blkAt_step) ; (focus (first
    | ((repeat (first
    | assumption
    | apply get_old
    )); done)
    )) ; (focus (first | rfl | assumption | omega)) ; (focus (first | rfl | assumption)) ; (try dsimp only))
    | ((with_reducible apply appendR_lit) ; (focus (first
    | ((repeat (first
    | exact get_new
    )); done)
    )) ; (focus (first | rfl | assumption)) ; (focus (first | rfl | assumption)) ; (focus rfl) ; (focus rfl) ; (focus rfl) ; (focus (first | exact Nat.zero_le _ | omega | (simp; done) | (simp; omega))) ; (try dsimp only))
    | (with_reducible refine AppC.frz ?_)
    | (with_reducible refine rowsR_rsl ?_)
    ))
    )
  all_goals (conv => whnf)
  all_goals (try dsimp only)
  rw [List.drop_zero, List.take_append_of_le_length (by rw [hn]; omega), bs_take, List.take_of_length_le (Nat.le_refl _)]
  refine hQ _ _ (Gr.setNew (Gr.newN (Gr.refl _ _) _ _ _) (Nat.le_refl _) _) (Own.mk' (sp := []) (get_set get_new) (by simp) (by simp)) (fun id e => by cases e; exact Nat.le_refl _)
theorem lasting_ok {σ : AH} {a : RA} {d : Rv} (h : RefH σ a d) (hl : d.L.length ≤ 1048576) (he : d.S.length = d.L.length) (k : Nat) (hk : 64 * k + 64 ≤ d.L.length) (Q : AV → AH → Prop) (hQ : ∀ σ', RefH σ' a { d with L := lastL d.L d.S k } → GrP σ σ' a.has → Q (.tup []) σ') : CallS Try.prog F.joistref03_Device_lasting [.ptr a.i 0 0 0, .int .i64 k] σ Q := by
  refine call_of_body mixed fc_joistref03_Device_lasting_ok (by simp [fc_joistref03_Device_lasting]) ?_
  repeat' (first
    | ((conv => whnf) <;> (first
    | (with_reducible refine and_same ?_)
    | ((with_reducible apply Br.yes) ; (focus omega))
    ))
    )
  all_goals (conv => whnf)
  all_goals (try dsimp only)
  refine loop_at (α := Nat × List UInt8 × AH) (fun q => [(4, .int .i64 (64 * k + q.1))]) (fun q => q.2.2) (fun q => q.1 ≤ 64 ∧ RefH q.2.2 a { d with L := q.2.1 } ∧ GrP σ q.2.2 a.has ∧ q.2.1.length = d.L.length ∧ ∀ p, q.2.1[p]? = if 64 * k ≤ p ∧ p < 64 * k + q.1 then d.S[p]? else d.L[p]?) (fun q => 64 - q.1) (0, d.L, σ) ⟨by omega, h, .refl _ _, rfl, fun p => by rw [if_neg (by omega)]⟩ (by simp; rfl) rfl ?_
  rintro ⟨j, L, τ⟩ ⟨hj, hR, hg, hL, hp⟩
  dsimp only at hj hR hg hL hp ⊢
  obtain ⟨box, lasts, seen, dirty, flush, ne⟩ := id hR
  dsimp only at box lasts seen dirty flush ne
  have e1 := bs_length L
  have e2 := bs_length d.S
  by_cases hlt : j < 64
  · have hc : d.S[64 * k + j]? = some d.S[64 * k + j] := by simp
    have hc2 : d.S[(64 * (k : Int) + j).toNat]? = some d.S[64 * k + j] := by rw [show (64 * (k : Int) + j).toNat = 64 * k + j by omega]; exact hc
    repeat' (first
      | ((with_reducible refine Side.intro ?_) <;> (first
      | omega
      | exact Nat.le_of_ble_eq_true rfl
      | exact rfl
      ))
      | ((conv => whnf) <;> (first
      | (with_reducible refine and_same ?_)
      | (with_reducible refine and_side ?_ ?_)
      | ((with_reducible apply Br.yes) ; (focus omega))
      | ((with_reducible apply blkAt_step) ; (focus (first
      | ((repeat (first
      | assumption
      )); done)
      )) ; (focus (first | rfl | assumption | omega)) ; (focus (first | rfl | assumption)) ; (try dsimp only))
      | ((with_reducible apply nthR_bs1) ; (focus assumption))
      | (with_reducible refine IaW.of ?_)
      | (with_reducible refine nthR_z ?_)
      | ((with_reducible apply nthR_left) ; (focus (first | omega | (simp only [List.length_append, List.length_cons, List.length_nil, List.length_take, List.length_drop, bs_length]; omega))))
      | ((with_reducible apply nthR_bs) ; (focus (first | omega | (simp only [List.length_append, List.length_cons, List.length_nil, List.length_take, List.length_drop, bs_length]; omega))))
      | (with_reducible intro _)
      ))
      )
    all_goals (conv => whnf)
    all_goals (try dsimp only)
    have hset := hR.setL (L.set (64 * k + j) d.S[64 * k + j]) (by simp)
    have eI : 0 + (64 * (k : Int) + j).toNat = 64 * k + j := by omega
    refine ⟨(j + 1, L.set (64 * k + j) d.S[64 * k + j], _), ?_, ?_, ⟨by dsimp only; omega, hset, hg.setT (.inr (.inl rfl)) _, by simp [hL], fun p => ?_⟩, by dsimp only; omega⟩
    · simp [Fr.upd, Fr.pick, Int.add_assoc]
    · dsimp only
      rw [eI, bs_setL (by omega)]
      rfl
    · dsimp only
      rw [List.getElem?_set]
      by_cases q : 64 * k + j = p
      · subst q
        rw [if_pos rfl, if_pos (by omega), if_pos (by omega)]
        exact hc.symm
      · rw [if_neg q, hp]
        by_cases q2 : 64 * k ≤ p ∧ p < 64 * k + j
        · rw [if_pos q2, if_pos (by omega)]
        · rw [if_neg q2, if_neg (by omega)]
  · repeat' (first
      | ((conv => whnf) <;> (first
      | (with_reducible refine and_same ?_)
      | ((with_reducible apply Br.yes) ; (focus omega))
      | ((with_reducible apply Br.no) ; (focus omega))
      ))
      )
    all_goals (conv => whnf)
    all_goals (try dsimp only)
    have e : L = lastL d.L d.S k := by
      refine List.ext_getElem? fun p => ?_
      rw [hp, last_at he hk]
      by_cases q : p / 64 = k
      · rw [if_pos (by omega), if_pos q]
      · rw [if_neg (by omega), if_neg q]
    subst e
    exact hQ _ hR hg
end Go.Proofs.Ythakanioekmhbaa
