import Derived.Test.YthakanioekmhbaaPdev8
namespace Go.Proofs.Ythakanioekmhbaa
open Go Go.Proofs.Ythakanioekmhbaa.V
set_option maxRecDepth 20000
attribute [local irreducible] CallS AOK AOKn ALoop Side Ref.ok
structure ActV where
  Do : Int
  At : Int
  N : Int
  B : List UInt8
  K : List Bool
def actR (c : ActV) : List AV := [.int .i64 c.Do, .int .i64 c.At, .int .i64 c.N, .sl 1 (bs c.B) false, .sl 1 (bls c.K) false]
def doD (d : Dv) (c : ActV) : Dv := if c.Do = 1 then (storeD d c.At c.B).2 else if c.Do = 2 then (flushD d c.At c.N).2 else if c.Do = 3 then (fenceD d).2 else if c.Do = 4 then { d with armed := max c.N 0 } else if c.Do = 5 then crashD c.K d else d
theorem DvR.do {d : Dv} (h : DvR d) (c : ActV) (hN : c.N ≤ 9223372036854775807) : DvR (doD d c) := by
  unfold doD
  repeat' split
  · exact h.store _ _
  · exact h.flush _ _
  · exact h.fence
  · exact h.arm hN
  · exact h.crash _
  · exact h
theorem do_ok {σ : AH} {a : DA} {d : Dv} (h : DevH σ a d) (hd : DvR d) (c : ActV) (hB : c.B.length ≤ 1048576) (hK : c.K.length ≤ 1048576) (Q : AV → AH → Prop)
    (hQ : ∀ σ', DevH σ' a (doD d c) → GrP σ σ' a.has → Q (.tup []) σ') : CallS Try.prog F.joistlaw03_do [.ptr a.i 0 0 0, .agg (actR c)] σ Q := by
  obtain ⟨Do, At, N, B, K⟩ := c
  dsimp only [actR] at hB hK hQ ⊢
  have hg0 : Gr σ (newB σ 5 [[.int .i64 Do, .int .i64 At, .int .i64 N, .sl 1 (bs B) false, .sl 1 (bls K) false]] true) none := by (repeat (first
        | exact Gr.refl _ _
        | refine Gr.addN ?_ _
        ))
  have h0 := h.keepN hg0
  have fin : ∀ σ' d', DevH σ' a d' → GrP (newB σ 5 [[.int .i64 Do, .int .i64 At, .int .i64 N, .sl 1 (bs B) false, .sl 1 (bls K) false]] true) σ' a.has → doD d ⟨Do, At, N, B, K⟩ = d' → Q (.tup []) σ' := fun σ' d' q1 q2 q3 => hQ σ' (q3 ▸ q1) ((GrP.of hg0 _).trans q2)
  clear hQ
  have hle := hd.ok.le
  have hln := hd.ok.len
  refine call_of_body mixed fc_joistlaw03_do_ok (by simp [fc_joistlaw03_do]) ?_
  by_cases d1 : Do = 1
  · have e : doD d ⟨Do, At, N, B, K⟩ = (storeD d At B).2 := by simp [doD, d1]
    repeat' (first
      | ((with_reducible refine Side.intro ?_) <;> (first
      | exact rfl
      ))
      | ((conv => whnf) <;> (first
      | (with_reducible refine and_same ?_)
      | (with_reducible refine and_side ?_ ?_)
      | ((with_reducible apply Br.yes) ; (focus omega))
      | ((with_reducible apply blkAt_step) ; (focus (first
      | ((repeat (first
      | exact get_new
      )); done)
      )) ; (focus (first | rfl | assumption | omega)) ; (focus (first | rfl | assumption)) ; (try dsimp only))
      ))
      )
    all_goals (conv => whnf)
    all_goals (try dsimp only)
    refine Store_ok h0 (by omega) hd.ok.arm At (.sl _ rfl) (fun _ _ q => by cases q) hB _ fun σ1 q1 q2 => ?_
    skip
    all_goals (conv => whnf)
    all_goals (try dsimp only)
    exact fin σ1 _ q1 q2 e
  by_cases d2 : Do = 2
  · have e : doD d ⟨Do, At, N, B, K⟩ = (flushD d At N).2 := by simp [doD, d2]
    repeat' (first
      | ((with_reducible refine Side.intro ?_) <;> (first
      | exact rfl
      ))
      | ((conv => whnf) <;> (first
      | (with_reducible refine and_same ?_)
      | (with_reducible refine and_side ?_ ?_)
      | ((with_reducible apply Br.yes) ; (focus omega))
      | ((with_reducible apply Br.no) ; (focus omega))
      | ((with_reducible apply blkAt_step) ; (focus (first
      | ((repeat (first
      | exact get_new
      )); done)
      )) ; (focus (first | rfl | assumption | omega)) ; (focus (first | rfl | assumption)) ; (try dsimp only))
      ))
      )
    all_goals (conv => whnf)
    all_goals (try dsimp only)
    refine Flush_ok h0 (by omega) hd.ok.arm At N _ fun σ1 q1 q2 => ?_
    skip
    all_goals (conv => whnf)
    all_goals (try dsimp only)
    exact fin σ1 _ q1 q2 e
  by_cases d3 : Do = 3
  · have e : doD d ⟨Do, At, N, B, K⟩ = (fenceD d).2 := by simp [doD, d3]
    repeat' (first
      | ((with_reducible refine Side.intro ?_) <;> (first
      | exact rfl
      ))
      | ((conv => whnf) <;> (first
      | (with_reducible refine and_same ?_)
      | (with_reducible refine and_side ?_ ?_)
      | ((with_reducible apply Br.yes) ; (focus omega))
      | ((with_reducible apply Br.no) ; (focus omega))
      | ((with_reducible apply blkAt_step) ; (focus (first
      | ((repeat (first
      | exact get_new
      )); done)
      )) ; (focus (first | rfl | assumption | omega)) ; (focus (first | rfl | assumption)) ; (try dsimp only))
      ))
      )
    all_goals (conv => whnf)
    all_goals (try dsimp only)
    refine Fence_ok h0 hd.ok _ fun σ1 q1 q2 => ?_
    skip
    all_goals (conv => whnf)
    all_goals (try dsimp only)
    exact fin σ1 _ q1 q2 e
  by_cases d4 : Do = 4
  · have e : doD d ⟨Do, At, N, B, K⟩ = { d with armed := max N 0 } := by simp [doD, d4]
    repeat' (first
      | ((with_reducible refine Side.intro ?_) <;> (first
      | exact rfl
      ))
      | ((conv => whnf) <;> (first
      | (with_reducible refine and_same ?_)
      | (with_reducible refine and_side ?_ ?_)
      | ((with_reducible apply Br.yes) ; (focus omega))
      | ((with_reducible apply Br.no) ; (focus omega))
      | ((with_reducible apply blkAt_step) ; (focus (first
      | ((repeat (first
      | exact get_new
      )); done)
      )) ; (focus (first | rfl | assumption | omega)) ; (focus (first | rfl | assumption)) ; (try dsimp only))
      ))
      )
    all_goals (conv => whnf)
    all_goals (try dsimp only)
    refine Arm_ok h0 N _ fun σ1 q1 q2 => ?_
    skip
    all_goals (conv => whnf)
    all_goals (try dsimp only)
    exact fin σ1 _ q1 q2 e
  by_cases d5 : Do = 5
  · have e : doD d ⟨Do, At, N, B, K⟩ = crashD K d := by simp [doD, d5]
    repeat' (first
      | ((with_reducible refine Side.intro ?_) <;> (first
      | exact rfl
      ))
      | ((conv => whnf) <;> (first
      | (with_reducible refine and_same ?_)
      | (with_reducible refine and_side ?_ ?_)
      | ((with_reducible apply Br.yes) ; (focus omega))
      | ((with_reducible apply Br.no) ; (focus omega))
      | ((with_reducible apply blkAt_step) ; (focus (first
      | ((repeat (first
      | exact get_new
      )); done)
      )) ; (focus (first | rfl | assumption | omega)) ; (focus (first | rfl | assumption)) ; (try dsimp only))
      ))
      )
    all_goals (conv => whnf)
    all_goals (try dsimp only)
    refine Crash_ok h0 hd.ok (.sl _ rfl) hK (fun _ _ q => by cases q) _ fun σ1 q1 q2 => ?_
    skip
    all_goals (conv => whnf)
    all_goals (try dsimp only)
    exact fin σ1 _ q1 q2 e
  · have e : doD d ⟨Do, At, N, B, K⟩ = d := by simp [doD, d1, d2, d3, d4, d5]
    repeat' (first
      | ((with_reducible refine Side.intro ?_) <;> (first
      | exact rfl
      ))
      | ((conv => whnf) <;> (first
      | (with_reducible refine and_same ?_)
      | (with_reducible refine and_side ?_ ?_)
      | ((with_reducible apply Br.no) ; (focus omega))
      | ((with_reducible apply blkAt_step) ; (focus (first
      | ((repeat (first
      | exact get_new
      )); done)
      )) ; (focus (first | rfl | assumption | omega)) ; (focus (first | rfl | assumption)) ; (try dsimp only))
      ))
      )
    all_goals (conv => whnf)
    all_goals (try dsimp only)
    exact fin _ _ h0 (.refl _ _) e
end Go.Proofs.Ythakanioekmhbaa
