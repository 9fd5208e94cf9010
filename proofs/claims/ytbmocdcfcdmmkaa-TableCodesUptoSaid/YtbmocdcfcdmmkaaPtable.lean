import Derived.Test.YtbmocdcfcdmmkaaPcalls
namespace Go.Proofs.Ytbmocdcfcdmmkaa
open Go Go.Proofs.Ytbmocdcfcdmmkaa.V
set_option maxRecDepth 20000
attribute [local irreducible] CallS AOK AOKn ALoop Side Ref.ok
/-! ### Slots, plain -/
structure Sl where
  g : Int
  lv : Bool
  tw : Bool
  a : Int
  n : Int
abbrev Sl.row (s : Sl) : List AV := [.int .i64 s.g, .bool s.lv, .bool s.tw, .int .i64 s.a, .int .i64 s.n]
def ss (l : List Sl) : List (List AV) := l.map fun s => s.row
abbrev Sl.av (s : Sl) : AV := .agg s.row
theorem ss_length (l : List Sl) : (ss l).length = l.length := by simp [ss]
theorem ss_take (n : Nat) (l : List Sl) : (ss l).take n = ss (l.take n) := by simp [ss]
theorem ss_drop (n : Nat) (l : List Sl) : (ss l).drop n = ss (l.drop n) := by simp [ss]
theorem ss_append (l m : List Sl) : ss l ++ ss m = ss (l ++ m) := by simp [ss]
theorem ss_set (l : List Sl) (i : Nat) (s : Sl) : (ss l).set i s.row = ss (l.set i s) := by simp [ss, List.map_set]
theorem FreshA_ss {l : List Sl} : ∀ x, x ∈ (ss l).flatten → FreshA x := by
  intro x hx
  simp only [ss, List.mem_flatten, List.mem_map] at hx
  obtain ⟨r, ⟨b, _, rfl⟩, hx⟩ := hx
  simp only [Sl.row, List.mem_cons, List.not_mem_nil, or_false] at hx
  rcases hx with rfl | rfl | rfl | rfl | rfl
  · exact .int _ _
  · exact .bool _
  · exact .bool _
  · exact .int _ _
  · exact .int _ _
theorem fresh_ss (l : List Sl) : FreshA (.sl 5 (ss l) true) := .sl _ _ FreshA_ss
theorem nthR_ss1 {l : List Sl} {k : Nat} {K : List AV → Prop} {g a n : Int} {lv tw : Bool} (h : l[k]? = some ⟨g, lv, tw, a, n⟩) (hk : K [.int .i64 g, .bool lv, .bool tw, .int .i64 a, .int .i64 n]) : nthR (ss l) k K :=
  nthR_intro (x := Sl.row ⟨g, lv, tw, a, n⟩) (by simp [ss, h]) hk
theorem untagLL_ss (l : List Sl) : untagLL (ss l) = ss l := by
  induction l with
  | nil => rfl
  | cons b s ih =>
    have : ss (b :: s) = b.row :: ss s := rfl
    rw [this, untagLL, ih]; rfl
theorem Looks.ss (σ : AH) (l : List Sl) (fr : Bool) : Looks σ (.sl 5 (Go.Proofs.Ytbmocdcfcdmmkaa.ss l) fr) (.sl 5 (Go.Proofs.Ytbmocdcfcdmmkaa.ss l) false) := by
  refine .same ?_
  simp [derefV, derefC, AV.flat, untag, untagLL_ss]
theorem Looks.ownss {σ : AH} {x : AV} {l : List Sl} (h : Own σ 5 x (Go.Proofs.Ytbmocdcfcdmmkaa.ss l)) : Looks σ x (.sl 5 (Go.Proofs.Ytbmocdcfcdmmkaa.ss l) false) := by
  have := Looks.own h
  rwa [untagLL_ss] at this
def Sl.z : Sl := ⟨0, false, false, 0, 0⟩
def okS (s : Sl) : Bool := decide (0 ≤ s.g ∧ s.g ≤ 65535) && (if s.lv then decide (0 ≤ s.a ∧ s.a ≤ 2048 ∧ 1 ≤ s.n ∧ s.n ≤ 2048) else decide (s.tw = false ∧ s.a = 0 ∧ s.n = 0))
def lenOk (n : Int) : Bool := decide (2 ≤ n ∧ n ≤ 32 ∧ n % 2 = 0)
def okL (l : List Sl) : Bool := l.all okS && lenOk l.length
def newR (n : Int) : List Sl := if lenOk n then List.replicate n.toNat Sl.z else []
def newE (n : Int) : Int := if lenOk n then 0 else 1
def opn (s : Sl) : Bool := !s.lv && decide (s.g ≠ 65535)
theorem New_ok (n : Int) : AOKn Try.prog F.table_New [.int .i64 n] fun y => y = .tup [.sl 5 (ss (newR n)) true, .int .i64 (newE n)] := by
  refine AOKn.by_steps mixed fc_table_New_ok (by simp [fc_table_New]) ?_
  cases hb : lenOk n
  · have hr : newR n = [] := by simp [newR, hb]
    have he : newE n = 1 := by simp [newE, hb]
    rw [hr, he]
    simp only [lenOk, decide_eq_false_iff_not] at hb
    repeat' (first
      | ((with_reducible refine Side.intro ?_) <;> (first
      | omega
      | (simp only [List.append_nil, List.nil_append, List.map_nil]; first | exact List.nodup_nil | exact nodup_bid1 _ | exact nodup_bid2 (by assumption))
      | ((first | refine fresh_tup ?_ | skip); (repeat (first | exact fresh_ss _ |  exact FreshA.sl _ _ FreshA_bs | exact FreshA.sl _ _ FreshA_is | exact FreshA.nils | exact FreshA.nilp | exact FreshA.int _ _ | exact FreshA.bool _ | exact FreshA.str _ | exact fresh_nil | refine fresh_cons ?_ ?_ | with_reducible refine fresh_aggR ?_ | with_reducible refine fresh_agg ?_ | with_reducible exact fresh_nilA | with_reducible refine fresh_consA ?_ ?_)); done)
      ))
      | ((conv => whnf) <;> (first
      | (with_reducible refine and_same ?_)
      | (with_reducible refine and_side ?_ ?_)
      | (with_reducible refine Br.yes (by omega) ?_)
      | (with_reducible refine Br.mk (fun _ => ?_) (fun _ => ?_))
      | (with_reducible refine NOut.lit ?_)
      ))
      )
    all_goals (conv => whnf)
    all_goals (try dsimp only)
    all_goals first
      | omega
      | exact ret_nilt rfl
      | trace_state
  · have hr : newR n = List.replicate n.toNat Sl.z := by simp [newR, hb]
    have he : newE n = 0 := by simp [newE, hb]
    rw [hr, he]
    simp only [lenOk, decide_eq_true_eq] at hb
    have er : List.take n.toNat (List.replicate n.toNat [AV.int .i64 0, AV.bool false, AV.bool false, AV.int .i64 0, AV.int .i64 0]) = ss (List.replicate n.toNat Sl.z) := by
      rw [List.take_of_length_le (by simp)]; simp [ss, Sl.z]
    repeat' (first
      | ((with_reducible refine Side.intro ?_) <;> (first
      | omega
      | (simp only [bs_length, List.length_append, List.length_cons, List.length_nil, List.length_take, List.length_drop, List.length_set, List.length_replicate]; omega)
      | exact rfl
      | (simp; done)
      ))
      | ((conv => whnf) <;> (first
      | (with_reducible refine and_same ?_)
      | (with_reducible refine and_side ?_ ?_)
      | (with_reducible refine Br.yes (by omega) ?_)
      | (with_reducible refine Br.no (by omega) ?_)
      | ((with_reducible apply blkAt_intro) ; (focus (first
      | exact rfl
      )) ; (focus (first | rfl | assumption | omega)) ; (try dsimp only))
      | (with_reducible refine NOut.lit ?_)
      ))
      )
    all_goals (conv => whnf)
    all_goals (try dsimp only)
    all_goals rw [er]
    all_goals first
      | exact ret_same rfl
      | exact Side.intro (fresh_tup (fresh_cons (fresh_ss _) (fresh_cons (FreshA.int _ _) fresh_nil)))
theorem right_ok (s : Sl) : AOKn Try.prog F.table_right [s.av] fun y => y = .bool (okS s) := by
  obtain ⟨g, lv, tw, a, n⟩ := s
  show AOKn _ _ [.agg [.int .i64 g, .bool lv, .bool tw, .int .i64 a, .int .i64 n]] _
  refine AOKn.by_steps mixed fc_table_right_ok (by simp [fc_table_right]) ?_
  by_cases hg : 0 ≤ g ∧ g ≤ 65535
  · cases lv
    · have e : okS ⟨g, false, tw, a, n⟩ = decide (tw = false ∧ a = 0 ∧ n = 0) := by simp [okS, hg]
      rw [e]
      repeat' (first
        | ((with_reducible refine Side.intro ?_) <;> (first
        | exact Nat.le_of_ble_eq_true rfl
        | (simp only [List.append_nil, List.nil_append, List.map_nil]; first | exact List.nodup_nil | exact nodup_bid1 _ | exact nodup_bid2 (by assumption))
        | ((first | refine fresh_tup ?_ | skip); (repeat (first | exact fresh_ss _ |  exact FreshA.sl _ _ FreshA_bs | exact FreshA.sl _ _ FreshA_is | exact FreshA.nils | exact FreshA.nilp | exact FreshA.int _ _ | exact FreshA.bool _ | exact FreshA.str _ | exact fresh_nil | refine fresh_cons ?_ ?_ | with_reducible refine fresh_aggR ?_ | with_reducible refine fresh_agg ?_ | with_reducible exact fresh_nilA | with_reducible refine fresh_consA ?_ ?_)); done)
        | exact rfl
        ))
        | ((conv => whnf) <;> (first
        | (with_reducible refine and_same ?_)
        | (with_reducible refine and_side ?_ ?_)
        | (with_reducible refine Br.no (by omega) ?_)
        | (with_reducible refine Br.mk (fun _ => ?_) (fun _ => ?_))
        | ((with_reducible apply blkAt_intro) ; (focus (first
        | exact rfl
        )) ; (focus (first | rfl | assumption | omega)) ; (try dsimp only))
        | (with_reducible refine NOut.lit ?_)
        ))
        )
      all_goals (conv => whnf)
      all_goals (try dsimp only)
      · rename_i h
        exact ret_bool (by simp [h])
      · rename_i h
        exact ret_bool (by simpa using h)
    · have e : okS ⟨g, true, tw, a, n⟩ = decide (0 ≤ a ∧ a ≤ 2048 ∧ 1 ≤ n ∧ n ≤ 2048) := by simp [okS, hg]
      rw [e]
      repeat' (first
        | ((with_reducible refine Side.intro ?_) <;> (first
        | (simp only [List.append_nil, List.nil_append, List.map_nil]; first | exact List.nodup_nil | exact nodup_bid1 _ | exact nodup_bid2 (by assumption))
        | ((first | refine fresh_tup ?_ | skip); (repeat (first | exact fresh_ss _ |  exact FreshA.sl _ _ FreshA_bs | exact FreshA.sl _ _ FreshA_is | exact FreshA.nils | exact FreshA.nilp | exact FreshA.int _ _ | exact FreshA.bool _ | exact FreshA.str _ | exact fresh_nil | refine fresh_cons ?_ ?_ | with_reducible refine fresh_aggR ?_ | with_reducible refine fresh_agg ?_ | with_reducible exact fresh_nilA | with_reducible refine fresh_consA ?_ ?_)); done)
        | exact rfl
        ))
        | ((conv => whnf) <;> (first
        | (with_reducible refine and_same ?_)
        | (with_reducible refine and_side ?_ ?_)
        | (with_reducible refine Br.no (by omega) ?_)
        | (with_reducible refine Br.mk (fun _ => ?_) (fun _ => ?_))
        | ((with_reducible apply blkAt_intro) ; (focus (first
        | exact rfl
        )) ; (focus (first | rfl | assumption | omega)) ; (try dsimp only))
        | (with_reducible refine NOut.lit ?_)
        ))
        )
      all_goals (conv => whnf)
      all_goals (try dsimp only)
      all_goals first
        | exact ret_bool (decide_eq_true (by omega)).symm
        | exact ret_bool (decide_eq_false (by omega)).symm
  · have e : okS ⟨g, lv, tw, a, n⟩ = false := by simp [okS, hg]
    rw [e]
    repeat' (first
      | ((with_reducible refine Side.intro ?_) <;> (first
      | (simp only [List.append_nil, List.nil_append, List.map_nil]; first | exact List.nodup_nil | exact nodup_bid1 _ | exact nodup_bid2 (by assumption))
      | ((first | refine fresh_tup ?_ | skip); (repeat (first | exact fresh_ss _ |  exact FreshA.sl _ _ FreshA_bs | exact FreshA.sl _ _ FreshA_is | exact FreshA.nils | exact FreshA.nilp | exact FreshA.int _ _ | exact FreshA.bool _ | exact FreshA.str _ | exact fresh_nil | refine fresh_cons ?_ ?_ | with_reducible refine fresh_aggR ?_ | with_reducible refine fresh_agg ?_ | with_reducible exact fresh_nilA | with_reducible refine fresh_consA ?_ ?_)); done)
      | exact rfl
      ))
      | ((conv => whnf) <;> (first
      | (with_reducible refine and_same ?_)
      | (with_reducible refine and_side ?_ ?_)
      | (with_reducible refine Br.yes (by omega) ?_)
      | (with_reducible refine Br.mk (fun _ => ?_) (fun _ => ?_))
      | ((with_reducible apply blkAt_intro) ; (focus (first
      | exact rfl
      )) ; (focus (first | rfl | assumption | omega)) ; (try dsimp only))
      | (with_reducible refine NOut.lit ?_)
      ))
      )
    all_goals (conv => whnf)
    all_goals (try dsimp only)
    all_goals first
      | exact ret_bool rfl
      | omega
theorem right_call (s : Sl) {σ : AH} {Q : AV → AH → Prop} (h : ∀ σ', Gr σ σ' none → Q (.bool (okS s)) σ') : CallS Try.prog F.table_right [s.av] σ Q :=
  call_one (right_ok s) (.cons (.same rfl) .nil) rfl h
theorem Rright_ok (s : Sl) : AOKn Try.prog F.joistref08_right [s.av] fun y => y = .bool (okS s) := by
  obtain ⟨g, lv, tw, a, n⟩ := s
  show AOKn _ _ [.agg [.int .i64 g, .bool lv, .bool tw, .int .i64 a, .int .i64 n]] _
  refine AOKn.by_steps mixed fc_joistref08_right_ok (by simp [fc_joistref08_right]) ?_
  by_cases hg : 0 ≤ g ∧ g ≤ 65535
  · cases lv
    · cases tw
      · have e : okS ⟨g, false, false, a, n⟩ = decide (a = 0 ∧ n = 0) := by simp [okS, hg]
        rw [e]
        repeat' (first
          | ((with_reducible refine Side.intro ?_) <;> (first
          | (simp only [List.append_nil, List.nil_append, List.map_nil]; first | exact List.nodup_nil | exact nodup_bid1 _ | exact nodup_bid2 (by assumption))
          | ((first | refine fresh_tup ?_ | skip); (repeat (first | exact fresh_ss _ |  exact FreshA.sl _ _ FreshA_bs | exact FreshA.sl _ _ FreshA_is | exact FreshA.nils | exact FreshA.nilp | exact FreshA.int _ _ | exact FreshA.bool _ | exact FreshA.str _ | exact fresh_nil | refine fresh_cons ?_ ?_ | with_reducible refine fresh_aggR ?_ | with_reducible refine fresh_agg ?_ | with_reducible exact fresh_nilA | with_reducible refine fresh_consA ?_ ?_)); done)
          | exact rfl
          ))
          | ((conv => whnf) <;> (first
          | (with_reducible refine and_same ?_)
          | (with_reducible refine and_side ?_ ?_)
          | (with_reducible refine Br.no (by omega) ?_)
          | (with_reducible refine Br.mk (fun _ => ?_) (fun _ => ?_))
          | ((with_reducible apply blkAt_intro) ; (focus (first
          | exact rfl
          )) ; (focus (first | rfl | assumption | omega)) ; (try dsimp only))
          | (with_reducible refine NOut.lit ?_)
          ))
          )
        all_goals (conv => whnf)
        all_goals (try dsimp only)
        all_goals first
          | exact ret_bool (decide_eq_true (by omega)).symm
          | exact ret_bool (decide_eq_false (by omega)).symm
          | trace_state
      · have e : okS ⟨g, false, true, a, n⟩ = false := by simp [okS, hg]
        rw [e]
        repeat' (first
          | ((with_reducible refine Side.intro ?_) <;> (first
          | (simp only [List.append_nil, List.nil_append, List.map_nil]; first | exact List.nodup_nil | exact nodup_bid1 _ | exact nodup_bid2 (by assumption))
          | ((first | refine fresh_tup ?_ | skip); (repeat (first | exact fresh_ss _ |  exact FreshA.sl _ _ FreshA_bs | exact FreshA.sl _ _ FreshA_is | exact FreshA.nils | exact FreshA.nilp | exact FreshA.int _ _ | exact FreshA.bool _ | exact FreshA.str _ | exact fresh_nil | refine fresh_cons ?_ ?_ | with_reducible refine fresh_aggR ?_ | with_reducible refine fresh_agg ?_ | with_reducible exact fresh_nilA | with_reducible refine fresh_consA ?_ ?_)); done)
          | exact rfl
          ))
          | ((conv => whnf) <;> (first
          | (with_reducible refine and_same ?_)
          | (with_reducible refine and_side ?_ ?_)
          | (with_reducible refine Br.no (by omega) ?_)
          | ((with_reducible apply blkAt_intro) ; (focus (first
          | exact rfl
          )) ; (focus (first | rfl | assumption | omega)) ; (try dsimp only))
          | (with_reducible refine NOut.lit ?_)
          ))
          )
        all_goals (conv => whnf)
        all_goals (try dsimp only)
        all_goals exact ret_bool rfl
    · have e : okS ⟨g, true, tw, a, n⟩ = decide (0 ≤ a ∧ a ≤ 2048 ∧ 1 ≤ n ∧ n ≤ 2048) := by simp [okS, hg]
      rw [e]
      repeat' (first
        | ((with_reducible refine Side.intro ?_) <;> (first
        | (simp only [List.append_nil, List.nil_append, List.map_nil]; first | exact List.nodup_nil | exact nodup_bid1 _ | exact nodup_bid2 (by assumption))
        | ((first | refine fresh_tup ?_ | skip); (repeat (first | exact fresh_ss _ |  exact FreshA.sl _ _ FreshA_bs | exact FreshA.sl _ _ FreshA_is | exact FreshA.nils | exact FreshA.nilp | exact FreshA.int _ _ | exact FreshA.bool _ | exact FreshA.str _ | exact fresh_nil | refine fresh_cons ?_ ?_ | with_reducible refine fresh_aggR ?_ | with_reducible refine fresh_agg ?_ | with_reducible exact fresh_nilA | with_reducible refine fresh_consA ?_ ?_)); done)
        | exact rfl
        ))
        | ((conv => whnf) <;> (first
        | (with_reducible refine and_same ?_)
        | (with_reducible refine and_side ?_ ?_)
        | (with_reducible refine Br.no (by omega) ?_)
        | (with_reducible refine Br.mk (fun _ => ?_) (fun _ => ?_))
        | ((with_reducible apply blkAt_intro) ; (focus (first
        | exact rfl
        )) ; (focus (first | rfl | assumption | omega)) ; (try dsimp only))
        | (with_reducible refine NOut.lit ?_)
        ))
        )
      all_goals (conv => whnf)
      all_goals (try dsimp only)
      all_goals first
        | exact ret_bool (decide_eq_true (by omega)).symm
        | exact ret_bool (decide_eq_false (by omega)).symm
  · have e : okS ⟨g, lv, tw, a, n⟩ = false := by simp [okS, hg]
    rw [e]
    repeat' (first
      | ((with_reducible refine Side.intro ?_) <;> (first
      | (simp only [List.append_nil, List.nil_append, List.map_nil]; first | exact List.nodup_nil | exact nodup_bid1 _ | exact nodup_bid2 (by assumption))
      | ((first | refine fresh_tup ?_ | skip); (repeat (first | exact fresh_ss _ |  exact FreshA.sl _ _ FreshA_bs | exact FreshA.sl _ _ FreshA_is | exact FreshA.nils | exact FreshA.nilp | exact FreshA.int _ _ | exact FreshA.bool _ | exact FreshA.str _ | exact fresh_nil | refine fresh_cons ?_ ?_ | with_reducible refine fresh_aggR ?_ | with_reducible refine fresh_agg ?_ | with_reducible exact fresh_nilA | with_reducible refine fresh_consA ?_ ?_)); done)
      | exact rfl
      ))
      | ((conv => whnf) <;> (first
      | (with_reducible refine and_same ?_)
      | (with_reducible refine and_side ?_ ?_)
      | (with_reducible refine Br.yes (by omega) ?_)
      | (with_reducible refine Br.mk (fun _ => ?_) (fun _ => ?_))
      | ((with_reducible apply blkAt_intro) ; (focus (first
      | exact rfl
      )) ; (focus (first | rfl | assumption | omega)) ; (try dsimp only))
      | (with_reducible refine NOut.lit ?_)
      ))
      )
    all_goals (conv => whnf)
    all_goals (try dsimp only)
    all_goals first
      | exact ret_bool rfl
      | omega
theorem Rright_call (s : Sl) {σ : AH} {Q : AV → AH → Prop} (h : ∀ σ', Gr σ σ' none → Q (.bool (okS s)) σ') : CallS Try.prog F.joistref08_right [s.av] σ Q :=
  call_one (Rright_ok s) (.cons (.same rfl) .nil) rfl h
theorem Right_ok (l : List Sl) (hs : l.length ≤ 4611686018427) : AOKn Try.prog F.table_Right [.sl 5 (ss l) false] fun y => y = .bool (okL l) := by
  have hn := ss_length l
  refine AOKn.by_steps mixed fc_table_Right_ok (by simp [fc_table_Right]) ?_
  repeat' (first
    | ((conv => whnf) <;> (first
    | (with_reducible refine lenR_sl ?_)
    ))
    )
  all_goals (conv => whnf)
  all_goals (try dsimp only)
  refine loop_at (α := Nat × AH) (fun a => [(9, .int .i64 a.1)]) (fun a => a.2) (fun a => a.1 ≤ l.length ∧ (l.take a.1).all okS = true) (fun a => l.length - a.1) (0, []) ⟨by omega, rfl⟩ rfl rfl ?_
  rintro ⟨k, σ⟩ ⟨hk, ha⟩
  dsimp only at hk ha ⊢
  by_cases hlt : k < l.length
  · obtain ⟨s, hp, hp'⟩ := getN hlt
    repeat' (first
      | ((with_reducible refine Side.intro ?_) <;> (first
      | omega
      | exact Nat.le_of_ble_eq_true rfl
      | exact rfl
      ))
      | ((conv => whnf) <;> (first
      | (with_reducible refine and_same ?_)
      | (with_reducible refine and_side ?_ ?_)
      | (with_reducible refine Br.yes (by omega) ?_)
      | ((with_reducible apply blkAt_intro) ; (focus (first
      | ((repeat (first
      | exact get_new
      | exact get_set get_new
      )); done)
      )) ; (focus (first | rfl | assumption | omega)) ; (try dsimp only))
      | (with_reducible refine nthR_ss1 (by assumption) ?_)
      | (with_reducible refine ia_sl ?_ ?_)
      ))
      )
    all_goals (conv => whnf)
    all_goals (try dsimp only)
    refine right_call s fun H1 hg1 => ?_
    cases hb : okS s
    · have e : okL l = false := by
        have : l.all okS = false := by
          rw [List.all_eq_false]
          exact ⟨s, List.mem_of_getElem? hp', by simp [hb]⟩
        rw [okL, this]; rfl
      repeat' (first
        | ((with_reducible refine Side.intro ?_) <;> (first
        | (simp only [List.append_nil, List.nil_append, List.map_nil]; first | exact List.nodup_nil | exact nodup_bid1 _ | exact nodup_bid2 (by assumption))
        | ((first | refine fresh_tup ?_ | skip); (repeat (first | exact fresh_ss _ |  exact FreshA.sl _ _ FreshA_bs | exact FreshA.sl _ _ FreshA_is | exact FreshA.nils | exact FreshA.nilp | exact FreshA.int _ _ | exact FreshA.bool _ | exact FreshA.str _ | exact fresh_nil | refine fresh_cons ?_ ?_ | with_reducible refine fresh_aggR ?_ | with_reducible refine fresh_agg ?_ | with_reducible exact fresh_nilA | with_reducible refine fresh_consA ?_ ?_)); done)
        ))
        | ((conv => whnf) <;> (first
        | (with_reducible refine and_side ?_ ?_)
        | (with_reducible refine NOut.lit ?_)
        ))
        )
      all_goals (conv => whnf)
      all_goals (try dsimp only)
      exact ret_bool e.symm
    · repeat' (first
        | ((conv => whnf) <;> (first
        | (with_reducible refine and_same ?_)
        | (with_reducible refine Br.yes (by omega) ?_)
        ))
        )
      all_goals (conv => whnf)
      all_goals (try dsimp only)
      exact ⟨(k + 1, _), rfl, rfl, ⟨by dsimp only; omega, by rw [List.take_add_one, hp', List.all_append, ha]; simp [hb]⟩, by dsimp only; omega⟩
  · have hkl : k = l.length := by omega
    subst hkl
    rw [List.take_length] at ha
    have e : okL l = lenOk l.length := by rw [okL, ha, Bool.true_and]
    rw [e]
    repeat' (first
      | ((conv => whnf) <;> (first
      | (with_reducible refine and_same ?_)
      | (with_reducible refine Br.no (by omega) ?_)
      | (with_reducible refine lenR_sl ?_)
      ))
      )
    all_goals (conv => whnf)
    all_goals (try dsimp only)
    refine call_sl1 (New_ok _) (.cons (.int _ _ _) .nil) rfl fun H1 y hg1 hy hyn => ?_
    rw [hn]
    have e2 : newE l.length = if lenOk l.length then 0 else 1 := rfl
    cases hl : lenOk l.length
    · rw [e2, hl]
      simp only [Bool.false_eq_true, if_false]
      repeat' (first
        | ((with_reducible refine Side.intro ?_) <;> (first
        | (simp only [List.append_nil, List.nil_append, List.map_nil]; first | exact List.nodup_nil | exact nodup_bid1 _ | exact nodup_bid2 (by assumption))
        | ((first | refine fresh_tup ?_ | skip); (repeat (first | exact fresh_ss _ |  exact FreshA.sl _ _ FreshA_bs | exact FreshA.sl _ _ FreshA_is | exact FreshA.nils | exact FreshA.nilp | exact FreshA.int _ _ | exact FreshA.bool _ | exact FreshA.str _ | exact fresh_nil | refine fresh_cons ?_ ?_ | with_reducible refine fresh_aggR ?_ | with_reducible refine fresh_agg ?_ | with_reducible exact fresh_nilA | with_reducible refine fresh_consA ?_ ?_)); done)
        ))
        | ((conv => whnf) <;> (first
        | (with_reducible refine and_same ?_)
        | (with_reducible refine and_side ?_ ?_)
        | (with_reducible refine Br.no (by omega) ?_)
        | (with_reducible refine NOut.lit ?_)
        ))
        )
      all_goals (conv => whnf)
      all_goals (try dsimp only)
      exact ret_bool rfl
    · rw [e2, hl]
      simp only [if_true]
      repeat' (first
        | ((with_reducible refine Side.intro ?_) <;> (first
        | (simp only [List.append_nil, List.nil_append, List.map_nil]; first | exact List.nodup_nil | exact nodup_bid1 _ | exact nodup_bid2 (by assumption))
        | ((first | refine fresh_tup ?_ | skip); (repeat (first | exact fresh_ss _ |  exact FreshA.sl _ _ FreshA_bs | exact FreshA.sl _ _ FreshA_is | exact FreshA.nils | exact FreshA.nilp | exact FreshA.int _ _ | exact FreshA.bool _ | exact FreshA.str _ | exact fresh_nil | refine fresh_cons ?_ ?_ | with_reducible refine fresh_aggR ?_ | with_reducible refine fresh_agg ?_ | with_reducible exact fresh_nilA | with_reducible refine fresh_consA ?_ ?_)); done)
        ))
        | ((conv => whnf) <;> (first
        | (with_reducible refine and_same ?_)
        | (with_reducible refine and_side ?_ ?_)
        | (with_reducible refine Br.yes rfl ?_)
        | (with_reducible refine NOut.lit ?_)
        ))
        )
      all_goals (conv => whnf)
      all_goals (try dsimp only)
      exact ret_bool rfl
theorem Right_call (l : List Sl) (hs : l.length ≤ 4611686018427) {σ : AH} {x : AV} (hx : Looks σ x (.sl 5 (ss l) false)) {Q : AV → AH → Prop} (h : ∀ σ', Gr σ σ' none → Q (.bool (okL l)) σ') : CallS Try.prog F.table_Right [x] σ Q :=
  call_one (Right_ok l hs) (.cons hx .nil) rfl h
theorem RRight_ok (l : List Sl) (hs : l.length ≤ 4611686018427) : AOKn Try.prog F.joistref08_Right [.sl 5 (ss l) false] fun y => y = .bool (okL l) := by
  have hn := ss_length l
  refine AOKn.by_steps mixed fc_joistref08_Right_ok (by simp [fc_joistref08_Right]) ?_
  skip
  all_goals (conv => whnf)
  all_goals (try dsimp only)
  refine loop_at (α := Nat × AH) (fun a => [(3, .int .i64 a.1)]) (fun a => a.2) (fun a => a.1 ≤ l.length ∧ (l.take a.1).all okS = true) (fun a => l.length - a.1) (0, []) ⟨by omega, rfl⟩ rfl rfl ?_
  rintro ⟨k, σ⟩ ⟨hk, ha⟩
  dsimp only at hk ha ⊢
  by_cases hlt : k < l.length
  · obtain ⟨s, hp, hp'⟩ := getN hlt
    repeat' (first
      | ((with_reducible refine Side.intro ?_) <;> (first
      | omega
      | exact Nat.le_of_ble_eq_true rfl
      ))
      | ((conv => whnf) <;> (first
      | (with_reducible refine and_same ?_)
      | (with_reducible refine and_side ?_ ?_)
      | (with_reducible refine Br.yes (by omega) ?_)
      | (with_reducible refine nthR_ss1 (by assumption) ?_)
      | (with_reducible refine ia_sl ?_ ?_)
      | (with_reducible refine lenR_sl ?_)
      ))
      )
    all_goals (conv => whnf)
    all_goals (try dsimp only)
    refine Rright_call s fun H1 hg1 => ?_
    cases hb : okS s
    · have e : okL l = false := by
        have : l.all okS = false := by
          rw [List.all_eq_false]
          exact ⟨s, List.mem_of_getElem? hp', by simp [hb]⟩
        rw [okL, this]; rfl
      repeat' (first
        | ((with_reducible refine Side.intro ?_) <;> (first
        | (simp only [List.append_nil, List.nil_append, List.map_nil]; first | exact List.nodup_nil | exact nodup_bid1 _ | exact nodup_bid2 (by assumption))
        | ((first | refine fresh_tup ?_ | skip); (repeat (first | exact fresh_ss _ |  exact FreshA.sl _ _ FreshA_bs | exact FreshA.sl _ _ FreshA_is | exact FreshA.nils | exact FreshA.nilp | exact FreshA.int _ _ | exact FreshA.bool _ | exact FreshA.str _ | exact fresh_nil | refine fresh_cons ?_ ?_ | with_reducible refine fresh_aggR ?_ | with_reducible refine fresh_agg ?_ | with_reducible exact fresh_nilA | with_reducible refine fresh_consA ?_ ?_)); done)
        ))
        | ((conv => whnf) <;> (first
        | (with_reducible refine and_side ?_ ?_)
        | (with_reducible refine NOut.lit ?_)
        ))
        )
      all_goals (conv => whnf)
      all_goals (try dsimp only)
      exact ret_bool e.symm
    · repeat' (first
        | ((conv => whnf) <;> (first
        | (with_reducible refine and_same ?_)
        | (with_reducible refine Br.yes (by omega) ?_)
        ))
        )
      all_goals (conv => whnf)
      all_goals (try dsimp only)
      exact ⟨(k + 1, _), rfl, rfl, ⟨by dsimp only; omega, by rw [List.take_add_one, hp', List.all_append, ha]; simp [hb]⟩, by dsimp only; omega⟩
  · have hkl : k = l.length := by omega
    subst hkl
    rw [List.take_length] at ha
    have e : okL l = lenOk l.length := by rw [okL, ha, Bool.true_and]
    rw [e, lenOk]
    repeat' (first
      | ((with_reducible refine Side.intro ?_) <;> (first
      | omega
      | (simp only [List.append_nil, List.nil_append, List.map_nil]; first | exact List.nodup_nil | exact nodup_bid1 _ | exact nodup_bid2 (by assumption))
      | ((first | refine fresh_tup ?_ | skip); (repeat (first | exact fresh_ss _ |  exact FreshA.sl _ _ FreshA_bs | exact FreshA.sl _ _ FreshA_is | exact FreshA.nils | exact FreshA.nilp | exact FreshA.int _ _ | exact FreshA.bool _ | exact FreshA.str _ | exact fresh_nil | refine fresh_cons ?_ ?_ | with_reducible refine fresh_aggR ?_ | with_reducible refine fresh_agg ?_ | with_reducible exact fresh_nilA | with_reducible refine fresh_consA ?_ ?_)); done)
      ))
      | ((conv => whnf) <;> (first
      | (with_reducible refine and_same ?_)
      | (with_reducible refine and_side ?_ ?_)
      | (with_reducible refine Br.yes (by omega) ?_)
      | (with_reducible refine Br.no (by omega) ?_)
      | (with_reducible refine Br.mk (fun _ => ?_) (fun _ => ?_))
      | (with_reducible refine NOut.lit ?_)
      | (with_reducible refine lenR_sl ?_)
      ))
      )
    all_goals (conv => whnf)
    all_goals (try dsimp only)
    all_goals first
      | exact ret_bool (decide_eq_true (by omega)).symm
      | exact ret_bool (decide_eq_false (by omega)).symm
theorem RRight_call (l : List Sl) (hs : l.length ≤ 4611686018427) {σ : AH} {x : AV} (hx : Looks σ x (.sl 5 (ss l) false)) {Q : AV → AH → Prop} (h : ∀ σ', Gr σ σ' none → Q (.bool (okL l)) σ') : CallS Try.prog F.joistref08_Right [x] σ Q :=
  call_one (RRight_ok l hs) (.cons hx .nil) rfl h
theorem RNew_ok (n : Int) : AOKn Try.prog F.joistref08_New [.int .i64 n] fun y => y = .tup [.sl 5 (ss (newR n)) true, .int .i64 (newE n)] := by
  refine AOKn.by_steps mixed fc_joistref08_New_ok (by simp [fc_joistref08_New]) ?_
  cases hb : lenOk n
  · have hr : newR n = [] := by simp [newR, hb]
    have he : newE n = 1 := by simp [newE, hb]
    rw [hr, he]
    simp only [lenOk, decide_eq_false_iff_not] at hb
    repeat' (first
      | ((with_reducible refine Side.intro ?_) <;> (first
      | omega
      | (simp only [List.append_nil, List.nil_append, List.map_nil]; first | exact List.nodup_nil | exact nodup_bid1 _ | exact nodup_bid2 (by assumption))
      | ((first | refine fresh_tup ?_ | skip); (repeat (first | exact fresh_ss _ |  exact FreshA.sl _ _ FreshA_bs | exact FreshA.sl _ _ FreshA_is | exact FreshA.nils | exact FreshA.nilp | exact FreshA.int _ _ | exact FreshA.bool _ | exact FreshA.str _ | exact fresh_nil | refine fresh_cons ?_ ?_ | with_reducible refine fresh_aggR ?_ | with_reducible refine fresh_agg ?_ | with_reducible exact fresh_nilA | with_reducible refine fresh_consA ?_ ?_)); done)
      ))
      | ((conv => whnf) <;> (first
      | (with_reducible refine and_same ?_)
      | (with_reducible refine and_side ?_ ?_)
      | (with_reducible refine Br.yes (by omega) ?_)
      | (with_reducible refine Br.mk (fun _ => ?_) (fun _ => ?_))
      | (with_reducible refine NOut.lit ?_)
      ))
      )
    all_goals (conv => whnf)
    all_goals (try dsimp only)
    all_goals first
      | omega
      | exact ret_nilt rfl
      | trace_state
  · have hr : newR n = List.replicate n.toNat Sl.z := by simp [newR, hb]
    have he : newE n = 0 := by simp [newE, hb]
    rw [hr, he]
    simp only [lenOk, decide_eq_true_eq] at hb
    have er : List.take n.toNat (List.replicate n.toNat [AV.int .i64 0, AV.bool false, AV.bool false, AV.int .i64 0, AV.int .i64 0]) = ss (List.replicate n.toNat Sl.z) := by
      rw [List.take_of_length_le (by simp)]; simp [ss, Sl.z]
    repeat' (first
      | ((with_reducible refine Side.intro ?_) <;> (first
      | omega
      | (simp only [bs_length, List.length_append, List.length_cons, List.length_nil, List.length_take, List.length_drop, List.length_set, List.length_replicate]; omega)
      | exact rfl
      | (simp; done)
      ))
      | ((conv => whnf) <;> (first
      | (with_reducible refine and_same ?_)
      | (with_reducible refine and_side ?_ ?_)
      | (with_reducible refine Br.yes (by omega) ?_)
      | (with_reducible refine Br.no (by omega) ?_)
      | ((with_reducible apply blkAt_intro) ; (focus (first
      | exact rfl
      )) ; (focus (first | rfl | assumption | omega)) ; (try dsimp only))
      | (with_reducible refine NOut.lit ?_)
      ))
      )
    all_goals (conv => whnf)
    all_goals (try dsimp only)
    all_goals rw [er]
    all_goals first
      | exact ret_same rfl
      | exact Side.intro (fresh_tup (fresh_cons (fresh_ss _) (fresh_cons (FreshA.int _ _) fresh_nil)))
/-! ### What is found -/
def gat (l : List Sl) (k : Nat) : Sl := l.getD k Sl.z
theorem gat_some {l : List Sl} {k : Nat} {s : Sl} (h : l[k]? = some s) : gat l k = s := by simp [gat, List.getD, h]
theorem some_gat {l : List Sl} {k : Nat} (h : k < l.length) : l[k]? = some (gat l k) := by simp [gat, List.getD, h]
def hav (i g : Int) : AV := .agg [.int .i64 i, .int .i64 g]
def findOk (l : List Sl) (i g : Int) : Bool := decide (0 ≤ i ∧ i < l.length) && ((gat l i.toNat).lv && decide ((gat l i.toNat).g = g))
def findV (l : List Sl) (i g : Int) : Int := if findOk l i g then i else 0
theorem Find_ok (l : List Sl) (i g : Int) (hs : l.length ≤ 4611686018427) : AOKn Try.prog F.table_Find [.sl 5 (ss l) false, hav i g] fun y => y = .tup [.int .i64 (findV l i g), .bool (findOk l i g)] := by
  have hn := ss_length l
  unfold hav
  refine AOKn.by_steps mixed fc_table_Find_ok (by simp [fc_table_Find]) ?_
  by_cases hi : 0 ≤ i ∧ i < l.length
  · have hp := some_gat (l := l) (k := i.toNat) (by omega)
    have e : findOk l i g = ((gat l i.toNat).lv && decide ((gat l i.toNat).g = g)) := by rw [findOk, decide_eq_true hi, Bool.true_and]
    rw [findV, e]
    generalize gat l i.toNat = s at *
    obtain ⟨g', lv, tw, a, n⟩ := s
    dsimp only
    cases lv
    · repeat' (first
        | ((with_reducible refine Side.intro ?_) <;> (first
        | omega
        | exact Nat.le_of_ble_eq_true rfl
        | (simp only [List.append_nil, List.nil_append, List.map_nil]; first | exact List.nodup_nil | exact nodup_bid1 _ | exact nodup_bid2 (by assumption))
        | ((first | refine fresh_tup ?_ | skip); (repeat (first | exact fresh_ss _ |  exact FreshA.sl _ _ FreshA_bs | exact FreshA.sl _ _ FreshA_is | exact FreshA.nils | exact FreshA.nilp | exact FreshA.int _ _ | exact FreshA.bool _ | exact FreshA.str _ | exact fresh_nil | refine fresh_cons ?_ ?_ | with_reducible refine fresh_aggR ?_ | with_reducible refine fresh_agg ?_ | with_reducible exact fresh_nilA | with_reducible refine fresh_consA ?_ ?_)); done)
        | exact rfl
        ))
        | ((conv => whnf) <;> (first
        | (with_reducible refine and_same ?_)
        | (with_reducible refine and_side ?_ ?_)
        | (with_reducible refine Br.no (by omega) ?_)
        | ((with_reducible apply blkAt_intro) ; (focus (first
        | exact rfl
        )) ; (focus (first | rfl | assumption | omega)) ; (try dsimp only))
        | (with_reducible refine nthR_ss1 (by assumption) ?_)
        | (with_reducible refine ia_sl ?_ ?_)
        | (with_reducible refine NOut.lit ?_)
        | (with_reducible refine lenR_sl ?_)
        ))
        )
      all_goals (conv => whnf)
      all_goals (try dsimp only)
      all_goals exact ret_same rfl
    · by_cases hg : g' = g
      · rw [decide_eq_true hg]
        repeat' (first
          | ((with_reducible refine Side.intro ?_) <;> (first
          | omega
          | exact Nat.le_of_ble_eq_true rfl
          | (simp only [List.append_nil, List.nil_append, List.map_nil]; first | exact List.nodup_nil | exact nodup_bid1 _ | exact nodup_bid2 (by assumption))
          | ((first | refine fresh_tup ?_ | skip); (repeat (first | exact fresh_ss _ |  exact FreshA.sl _ _ FreshA_bs | exact FreshA.sl _ _ FreshA_is | exact FreshA.nils | exact FreshA.nilp | exact FreshA.int _ _ | exact FreshA.bool _ | exact FreshA.str _ | exact fresh_nil | refine fresh_cons ?_ ?_ | with_reducible refine fresh_aggR ?_ | with_reducible refine fresh_agg ?_ | with_reducible exact fresh_nilA | with_reducible refine fresh_consA ?_ ?_)); done)
          | exact rfl
          ))
          | ((conv => whnf) <;> (first
          | (with_reducible refine and_same ?_)
          | (with_reducible refine and_side ?_ ?_)
          | (with_reducible refine Br.no (by omega) ?_)
          | ((with_reducible apply blkAt_intro) ; (focus (first
          | exact rfl
          )) ; (focus (first | rfl | assumption | omega)) ; (try dsimp only))
          | (with_reducible refine nthR_ss1 (by assumption) ?_)
          | (with_reducible refine ia_sl ?_ ?_)
          | (with_reducible refine NOut.lit ?_)
          | (with_reducible refine lenR_sl ?_)
          ))
          )
        all_goals (conv => whnf)
        all_goals (try dsimp only)
        all_goals exact ret_same rfl
      · rw [decide_eq_false hg]
        repeat' (first
          | ((with_reducible refine Side.intro ?_) <;> (first
          | omega
          | exact Nat.le_of_ble_eq_true rfl
          | (simp only [List.append_nil, List.nil_append, List.map_nil]; first | exact List.nodup_nil | exact nodup_bid1 _ | exact nodup_bid2 (by assumption))
          | ((first | refine fresh_tup ?_ | skip); (repeat (first | exact fresh_ss _ |  exact FreshA.sl _ _ FreshA_bs | exact FreshA.sl _ _ FreshA_is | exact FreshA.nils | exact FreshA.nilp | exact FreshA.int _ _ | exact FreshA.bool _ | exact FreshA.str _ | exact fresh_nil | refine fresh_cons ?_ ?_ | with_reducible refine fresh_aggR ?_ | with_reducible refine fresh_agg ?_ | with_reducible exact fresh_nilA | with_reducible refine fresh_consA ?_ ?_)); done)
          | exact rfl
          ))
          | ((conv => whnf) <;> (first
          | (with_reducible refine and_same ?_)
          | (with_reducible refine and_side ?_ ?_)
          | (with_reducible refine Br.yes (by omega) ?_)
          | (with_reducible refine Br.no (by omega) ?_)
          | ((with_reducible apply blkAt_intro) ; (focus (first
          | exact rfl
          )) ; (focus (first | rfl | assumption | omega)) ; (try dsimp only))
          | (with_reducible refine nthR_ss1 (by assumption) ?_)
          | (with_reducible refine ia_sl ?_ ?_)
          | (with_reducible refine NOut.lit ?_)
          | (with_reducible refine lenR_sl ?_)
          ))
          )
        all_goals (conv => whnf)
        all_goals (try dsimp only)
        all_goals exact ret_same rfl
  · have e : findOk l i g = false := by rw [findOk, decide_eq_false hi, Bool.false_and]
    rw [findV, e]
    repeat' (first
      | ((with_reducible refine Side.intro ?_) <;> (first
      | (simp only [List.append_nil, List.nil_append, List.map_nil]; first | exact List.nodup_nil | exact nodup_bid1 _ | exact nodup_bid2 (by assumption))
      | ((first | refine fresh_tup ?_ | skip); (repeat (first | exact fresh_ss _ |  exact FreshA.sl _ _ FreshA_bs | exact FreshA.sl _ _ FreshA_is | exact FreshA.nils | exact FreshA.nilp | exact FreshA.int _ _ | exact FreshA.bool _ | exact FreshA.str _ | exact fresh_nil | refine fresh_cons ?_ ?_ | with_reducible refine fresh_aggR ?_ | with_reducible refine fresh_agg ?_ | with_reducible exact fresh_nilA | with_reducible refine fresh_consA ?_ ?_)); done)
      | exact rfl
      ))
      | ((conv => whnf) <;> (first
      | (with_reducible refine and_same ?_)
      | (with_reducible refine and_side ?_ ?_)
      | (with_reducible refine Br.yes (by omega) ?_)
      | (with_reducible refine Br.mk (fun _ => ?_) (fun _ => ?_))
      | ((with_reducible apply blkAt_intro) ; (focus (first
      | exact rfl
      )) ; (focus (first | rfl | assumption | omega)) ; (try dsimp only))
      | (with_reducible refine NOut.lit ?_)
      | (with_reducible refine lenR_sl ?_)
      ))
      )
    all_goals (conv => whnf)
    all_goals (try dsimp only)
    all_goals exact ret_same rfl
theorem Find_call (l : List Sl) (i g : Int) (hs : l.length ≤ 4611686018427) {σ : AH} {x : AV} (hx : Looks σ x (.sl 5 (ss l) false)) {Q : AV → AH → Prop} (h : ∀ σ', Gr σ σ' none → Q (.tup [.int .i64 (findV l i g), .bool (findOk l i g)]) σ') : CallS Try.prog F.table_Find [x, hav i g] σ Q :=
  call_two (Find_ok l i g hs) (.cons hx (.cons (.same rfl) .nil)) rfl rfl h
theorem RFind_ok (l : List Sl) (i g : Int) (hs : l.length ≤ 4611686018427) : AOKn Try.prog F.joistref08_Find [.sl 5 (ss l) false, hav i g] fun y => y = .tup [.int .i64 (findV l i g), .bool (findOk l i g)] := by
  have hn := ss_length l
  unfold hav
  refine AOKn.by_steps mixed fc_joistref08_Find_ok (by simp [fc_joistref08_Find]) ?_
  by_cases hi : 0 ≤ i ∧ i < l.length
  · have hp := some_gat (l := l) (k := i.toNat) (by omega)
    have e : findOk l i g = ((gat l i.toNat).lv && decide ((gat l i.toNat).g = g)) := by rw [findOk, decide_eq_true hi, Bool.true_and]
    rw [findV, e]
    generalize gat l i.toNat = s at *
    obtain ⟨g', lv, tw, a, n⟩ := s
    dsimp only
    cases lv
    · repeat' (first
        | ((with_reducible refine Side.intro ?_) <;> (first
        | omega
        | (simp only [List.append_nil, List.nil_append, List.map_nil]; first | exact List.nodup_nil | exact nodup_bid1 _ | exact nodup_bid2 (by assumption))
        | ((first | refine fresh_tup ?_ | skip); (repeat (first | exact fresh_ss _ |  exact FreshA.sl _ _ FreshA_bs | exact FreshA.sl _ _ FreshA_is | exact FreshA.nils | exact FreshA.nilp | exact FreshA.int _ _ | exact FreshA.bool _ | exact FreshA.str _ | exact fresh_nil | refine fresh_cons ?_ ?_ | with_reducible refine fresh_aggR ?_ | with_reducible refine fresh_agg ?_ | with_reducible exact fresh_nilA | with_reducible refine fresh_consA ?_ ?_)); done)
        | exact rfl
        ))
        | ((conv => whnf) <;> (first
        | (with_reducible refine and_same ?_)
        | (with_reducible refine and_side ?_ ?_)
        | (with_reducible refine Br.no (by omega) ?_)
        | ((with_reducible apply blkAt_intro) ; (focus (first
        | exact rfl
        )) ; (focus (first | rfl | assumption | omega)) ; (try dsimp only))
        | (with_reducible refine nthR_ss1 (by assumption) ?_)
        | (with_reducible refine ia_sl ?_ ?_)
        | (with_reducible refine NOut.lit ?_)
        | (with_reducible refine lenR_sl ?_)
        ))
        )
      all_goals (conv => whnf)
      all_goals (try dsimp only)
      all_goals exact ret_same rfl
    · by_cases hg : g' = g
      · rw [decide_eq_true hg]
        repeat' (first
          | ((with_reducible refine Side.intro ?_) <;> (first
          | omega
          | (simp only [List.append_nil, List.nil_append, List.map_nil]; first | exact List.nodup_nil | exact nodup_bid1 _ | exact nodup_bid2 (by assumption))
          | ((first | refine fresh_tup ?_ | skip); (repeat (first | exact fresh_ss _ |  exact FreshA.sl _ _ FreshA_bs | exact FreshA.sl _ _ FreshA_is | exact FreshA.nils | exact FreshA.nilp | exact FreshA.int _ _ | exact FreshA.bool _ | exact FreshA.str _ | exact fresh_nil | refine fresh_cons ?_ ?_ | with_reducible refine fresh_aggR ?_ | with_reducible refine fresh_agg ?_ | with_reducible exact fresh_nilA | with_reducible refine fresh_consA ?_ ?_)); done)
          | exact rfl
          ))
          | ((conv => whnf) <;> (first
          | (with_reducible refine and_same ?_)
          | (with_reducible refine and_side ?_ ?_)
          | (with_reducible refine Br.no (by omega) ?_)
          | ((with_reducible apply blkAt_intro) ; (focus (first
          | exact rfl
          )) ; (focus (first | rfl | assumption | omega)) ; (try dsimp only))
          | (with_reducible refine nthR_ss1 (by assumption) ?_)
          | (with_reducible refine ia_sl ?_ ?_)
          | (with_reducible refine NOut.lit ?_)
          | (with_reducible refine lenR_sl ?_)
          ))
          )
        all_goals (conv => whnf)
        all_goals (try dsimp only)
        all_goals exact ret_same rfl
      · rw [decide_eq_false hg]
        repeat' (first
          | ((with_reducible refine Side.intro ?_) <;> (first
          | omega
          | (simp only [List.append_nil, List.nil_append, List.map_nil]; first | exact List.nodup_nil | exact nodup_bid1 _ | exact nodup_bid2 (by assumption))
          | ((first | refine fresh_tup ?_ | skip); (repeat (first | exact fresh_ss _ |  exact FreshA.sl _ _ FreshA_bs | exact FreshA.sl _ _ FreshA_is | exact FreshA.nils | exact FreshA.nilp | exact FreshA.int _ _ | exact FreshA.bool _ | exact FreshA.str _ | exact fresh_nil | refine fresh_cons ?_ ?_ | with_reducible refine fresh_aggR ?_ | with_reducible refine fresh_agg ?_ | with_reducible exact fresh_nilA | with_reducible refine fresh_consA ?_ ?_)); done)
          | exact rfl
          ))
          | ((conv => whnf) <;> (first
          | (with_reducible refine and_same ?_)
          | (with_reducible refine and_side ?_ ?_)
          | (with_reducible refine Br.yes (by omega) ?_)
          | (with_reducible refine Br.no (by omega) ?_)
          | ((with_reducible apply blkAt_intro) ; (focus (first
          | exact rfl
          )) ; (focus (first | rfl | assumption | omega)) ; (try dsimp only))
          | (with_reducible refine nthR_ss1 (by assumption) ?_)
          | (with_reducible refine ia_sl ?_ ?_)
          | (with_reducible refine NOut.lit ?_)
          | (with_reducible refine lenR_sl ?_)
          ))
          )
        all_goals (conv => whnf)
        all_goals (try dsimp only)
        all_goals exact ret_same rfl
  · have e : findOk l i g = false := by rw [findOk, decide_eq_false hi, Bool.false_and]
    rw [findV, e]
    repeat' (first
      | ((with_reducible refine Side.intro ?_) <;> (first
      | (simp only [List.append_nil, List.nil_append, List.map_nil]; first | exact List.nodup_nil | exact nodup_bid1 _ | exact nodup_bid2 (by assumption))
      | ((first | refine fresh_tup ?_ | skip); (repeat (first | exact fresh_ss _ |  exact FreshA.sl _ _ FreshA_bs | exact FreshA.sl _ _ FreshA_is | exact FreshA.nils | exact FreshA.nilp | exact FreshA.int _ _ | exact FreshA.bool _ | exact FreshA.str _ | exact fresh_nil | refine fresh_cons ?_ ?_ | with_reducible refine fresh_aggR ?_ | with_reducible refine fresh_agg ?_ | with_reducible exact fresh_nilA | with_reducible refine fresh_consA ?_ ?_)); done)
      | exact rfl
      ))
      | ((conv => whnf) <;> (first
      | (with_reducible refine and_same ?_)
      | (with_reducible refine and_side ?_ ?_)
      | (with_reducible refine Br.yes (by omega) ?_)
      | (with_reducible refine Br.mk (fun _ => ?_) (fun _ => ?_))
      | ((with_reducible apply blkAt_intro) ; (focus (first
      | exact rfl
      )) ; (focus (first | rfl | assumption | omega)) ; (try dsimp only))
      | (with_reducible refine NOut.lit ?_)
      | (with_reducible refine lenR_sl ?_)
      ))
      )
    all_goals (conv => whnf)
    all_goals (try dsimp only)
    all_goals exact ret_same rfl
theorem RFind_call (l : List Sl) (i g : Int) (hs : l.length ≤ 4611686018427) {σ : AH} {x : AV} (hx : Looks σ x (.sl 5 (ss l) false)) {Q : AV → AH → Prop} (h : ∀ σ', Gr σ σ' none → Q (.tup [.int .i64 (findV l i g), .bool (findOk l i g)]) σ') : CallS Try.prog F.joistref08_Find [x, hav i g] σ Q :=
  call_two (RFind_ok l i g hs) (.cons hx (.cons (.same rfl) .nil)) rfl rfl h
end Go.Proofs.Ytbmocdcfcdmmkaa
