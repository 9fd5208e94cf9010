import Derived.Test.YthakanioekmhbaaPdev
namespace Go.Proofs.Ythakanioekmhbaa
open Go Go.Proofs.Ythakanioekmhbaa.V
set_option maxRecDepth 20000
attribute [local irreducible] CallS AOK AOKn ALoop Side Ref.ok
/-- Bytes, by value or in a block of one's own. -/
inductive BytR (σ : AH) (x : AV) (s : List UInt8) : Prop
  | sl (fr : Bool) (h : x = .sl 1 (bs s) fr)
  | own (h : Own σ 1 x (bs s))
theorem BytR.lenW {σ : AH} {x : AV} {s : List UInt8} {K : Nat → Prop} (h : BytR σ x s) (hk : K s.length) : LenW σ x K := by
  rcases h with ⟨fr, rfl⟩ | h
  · exact lenR_sl (by rw [bs_length]; exact hk)
  · exact lenR_own h (by rw [bs_length]; exact hk)
theorem BytR.rowsW {σ : AH} {x : AV} {s : List UInt8} {K : Bool → List (List AV) → Prop} (h : BytR σ x s) (hk : K true (bs s)) : RowsW σ 1 x K := by
  rcases h with ⟨fr, rfl⟩ | h
  · exact rowsR_sl hk
  · exact rowsR_own h hk
theorem BytR.keepN {σ σ' : AH} {x : AV} {s : List UInt8} (h : BytR σ x s) (hg : Gr σ σ' none) : BytR σ' x s := by
  rcases h with ⟨fr, rfl⟩ | h
  · exact .sl fr rfl
  · exact .own (h.keepN hg)
theorem BytR.looks {σ : AH} {x : AV} {s : List UInt8} (h : BytR σ x s) : Looks σ x (.sl 1 (bs s) false) := by
  rcases h with ⟨fr, rfl⟩ | h
  · exact Looks.bs σ s fr
  · exact Looks.ownbs h
/-! ### A new device -/
def newG (n : Nat) : Prop := n ≠ 0 ∧ n % 64 = 0 ∧ n / 64 ≤ 4096
instance (n : Nat) : Decidable (newG n) := by unfold newG; infer_instance
theorem New_ok {σ : AH} {x : AV} {s : List UInt8} (h : BytR σ x s) (hl : s.length ≤ 4611686018) (Q : AV → AH → Prop)
    (hy : newG s.length → ∀ a σ', Gr σ σ' none → DevH σ' a ⟨s, s, [], 0, 0, false⟩ → (∀ id, a.has id → σ.length ≤ id) → Q (.tup [.ptr a.i 0 0 0, .int .i64 0]) σ')
    (hn : ¬ newG s.length → ∀ σ', Gr σ σ' none → Q (.tup [.nilp, .int .i64 1]) σ') : CallS Try.prog F.pmem_New [x] σ Q := by
  refine call_of_body mixed fc_pmem_New_ok (by simp [fc_pmem_New]) ?_
  by_cases hG : newG s.length
  · have hy := hy hG
    obtain ⟨g1, g2, g3⟩ := hG
    repeat' (first
      | ((with_reducible refine Side.intro ?_) <;> (first
      | omega
      ))
      | ((conv => whnf) <;> (first
      | (with_reducible refine and_same ?_)
      | (with_reducible refine and_side ?_ ?_)
      | ((with_reducible apply Br.yes) ; (focus omega))
      | ((with_reducible apply Br.no) ; (focus omega))
      | ((with_reducible apply BytR.lenW) ; (focus assumption))
      ))
      )
    all_goals (conv => whnf)
    all_goals (try dsimp only)
    refine call_sl (bytes_Clone_ok s (by omega)) (.cons h.looks .nil) fun σ1 y1 hg1 ho1 hy1 => ?_
    have h1 := h.keepN hg1
    skip
    all_goals (conv => whnf)
    all_goals (try dsimp only)
    refine call_sl (bytes_Clone_ok s (by omega)) (.cons h1.looks .nil) fun σ2 y2 hg2 ho2 hy2 => ?_
    have ho0 := ho1
    replace ho1 := ho1.keepN hg2
    have hne : bs s ≠ [] := by intro e; rw [bs_eq_nil] at e; rw [e] at g1; exact g1 rfl
    obtain ⟨i1, gn1, sp1, rfl, b1⟩ := ho1.ne hne
    obtain ⟨i2, gn2, sp2, rfl, b2⟩ := ho2.ne hne
    rw [bs_length] at *
    have l1 := (List.getElem?_eq_some_iff.1 b1).1
    have l2 := (List.getElem?_eq_some_iff.1 b2).1
    have l0 := ho0.lt rfl
    have n1 := hy1 _ rfl
    have n2 := hy2 _ rfl
    repeat' (first
      | ((with_reducible refine Side.intro ?_) <;> (first
      | exact Nat.le_of_ble_eq_true rfl
      | exact rfl
      ))
      | ((conv => whnf) <;> (first
      | (with_reducible refine and_side ?_ ?_)
      ))
      )
    all_goals (conv => whnf)
    all_goals (try dsimp only)
    have e : (σ2 ++ [mblk [] 0]).length = σ2.length + 1 := by simp
    have gg : Gr σ (newB (σ2 ++ [mblk [] 0]) 5 [[.rsl i1 gn1 0 s.length none, .rsl i2 gn2 0 s.length none, .rsl σ2.length 0 0 0 none, .int .i64 0, .bool false]] false) none := ((hg1.trans hg2).addN _).addN _
    have hb : (newB (σ2 ++ [mblk [] 0]) 5 [[.rsl i1 gn1 0 s.length none, .rsl i2 gn2 0 s.length none, .rsl σ2.length 0 0 0 none, .int .i64 0, .bool false]] false)[σ2.length + 1]? = some { sz := 5, els := [[.rsl i1 gn1 0 s.length none, .rsl i2 gn2 0 s.length none, .rsl σ2.length 0 0 0 none, .int .i64 0, .bool false]], gen := 0, wr := true, pure := false } := by
      rw [← e]; exact get_new
    have hq := hy ⟨σ2.length + 1, i1, gn1, sp1, i2, gn2, sp2, σ2.length⟩ _ gg ⟨hb, get_old (get_old b1), get_old (get_old b2), get_old get_new, by dsimp only; have := hg2.1; omega⟩  (by
      have h1 := hg1.1
      have h2 := hg2.1
      rintro id (q | q | q | q)
      all_goals (rw [q]; first | omega | (simp only; omega)))
    rw [e]
    exact hq
  · have hn := hn hG
    unfold newG at hG
    repeat' (first
      | ((with_reducible refine Side.intro ?_) <;> (first
      | omega
      ))
      | ((conv => whnf) <;> (first
      | (with_reducible refine and_same ?_)
      | (with_reducible refine and_side ?_ ?_)
      | ((with_reducible apply Br.yes) ; (focus omega))
      | (with_reducible refine Br.mk (fun _ => ?_) (fun _ => ?_))
      | ((with_reducible apply BytR.lenW) ; (focus assumption))
      ))
      )
    all_goals (conv => whnf)
    all_goals (try dsimp only)
    all_goals exact hn _ (Gr.refl _ _)
end Go.Proofs.Ythakanioekmhbaa
