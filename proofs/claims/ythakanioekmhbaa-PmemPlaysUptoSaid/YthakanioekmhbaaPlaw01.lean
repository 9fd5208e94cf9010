import Derived.Test.YthakanioekmhbaaPbytes
namespace Go.Proofs.Ythakanioekmhbaa
open Go Go.Proofs.Ythakanioekmhbaa.V
set_option maxRecDepth 20000
attribute [local irreducible] CallS AOK AOKn ALoop Side Ref.ok
theorem lent_rows (s : List UInt8) : List.take 0 (List.replicate ((s.length : Int) + 1).toNat [AV.int .u8 0]) ++ List.take (min s.length (s.length : Int).toNat) (bs s) ++ List.drop (0 + min s.length (s.length : Int).toNat) (List.replicate ((s.length : Int) + 1).toNat [AV.int .u8 0]) = bs (s ++ [0]) := by
  have e1 : ((s.length : Int) + 1).toNat = s.length + 1 := by omega
  have e2 : min s.length (s.length : Int).toNat = s.length := by omega
  rw [e1, e2, List.take_zero, List.nil_append, Nat.zero_add, List.drop_replicate, List.take_of_length_le (by rw [bs_length]; exact Nat.le_refl _), show s.length + 1 - s.length = 1 from by omega]
  simp [bs]
theorem Lent_val (σ : AH) (s : List UInt8) (fr : Bool) (hs : s.length ≤ 4611686018427) (Q : AV → AH → Prop) (h : Q (.rsl σ.length 0 0 s.length none) (σ ++ [{ sz := 1, els := bs (s ++ [77]), gen := 0, wr := true, pure := true }])) : CallS Try.prog F.joistlaw01_Lent [.sl 1 (bs s) fr] σ Q := by
  have hn := bs_length s
  refine call_of_body mixed fc_joistlaw01_Lent_ok (by simp [fc_joistlaw01_Lent]) ?_
  repeat' (first
    | ((with_reducible refine Side.intro ?_) <;> (first
    | omega
    | (simp only [bs_length, List.length_append, List.length_cons, List.length_nil, List.length_take, List.length_drop, List.length_set, List.length_replicate]; omega)
    | exact .inr (.inl ⟨rfl, by (simp only [bs_length, List.length_append, List.length_cons, List.length_nil, List.length_take, List.length_drop, List.length_set, List.length_replicate]; omega)⟩)
    | exact rfl
    ))
    | ((conv => whnf) <;> (first
    | (with_reducible refine and_same ?_)
    | (with_reducible refine and_side ?_ ?_)
    | ((with_reducible apply Br.yes) ; (focus omega))
    | ((with_reducible apply blkAt_step) ; (focus (first
    | ((repeat (first
    | exact get_new
    | exact get_set get_new
    )); done)
    )) ; (focus (first | rfl | assumption | omega)) ; (focus (first | rfl | assumption)) ; (try dsimp only))
    | (with_reducible refine IaW.of ?_)
    | (with_reducible refine SliceW.of ?_)
    | (with_reducible refine CopyW.of ?_)
    | (with_reducible refine lenR_sl ?_)
    | (with_reducible refine rowsR_sl ?_)
    ))
    )
  all_goals (conv => whnf)
  all_goals (try dsimp only)
  try rw [bs_length]
  rw [lent_rows]
  repeat' (first
    | ((with_reducible refine Side.intro ?_) <;> (first
    | exact Nat.le_of_ble_eq_true rfl
    ))
    | ((conv => whnf) <;> (first
    | (with_reducible refine and_side ?_ ?_)
    | ((with_reducible apply nthR_bs) ; (focus (first | omega | (simp only [List.length_append, List.length_cons, List.length_nil, List.length_take, List.length_drop, bs_length]; omega))))
    | (with_reducible intro _)
    ))
    )
  all_goals (conv => whnf)
  all_goals (try dsimp only)
  have e : (bs (s ++ [0])).set (0 + Int.toNat 0 + (s.length : Int).toNat) [.int .u8 77] = bs (s ++ [77]) := by
    have := bs_set (s ++ [0]) s.length 77
    simpa [Int.toNat_natCast] using this
  have e4 : ∀ (b b1 b2 : Blk), ((σ ++ [b]).set σ.length b1).set σ.length b2 = σ ++ [b2] := by
    intro b b1 b2
    simp
  unfold newB
  rw [e4]
  rw [e]
  exact h
theorem Kept_val (σ : AH) (s : List UInt8) (id gen : Nat) (sp : List UInt8) (fr : Bool) (hs : s.length ≤ 4611686018427) (hb : σ[id]? = some { sz := 1, els := bs (s ++ 77 :: sp), gen := gen, wr := true, pure := true }) (Q : AV → AH → Prop) (h : Q (.bool true) σ) : CallS Try.prog F.joistlaw01_Kept [.rsl id gen 0 s.length none, .sl 1 (bs s) fr] σ Q := by
  have hn := bs_length s
  refine call_of_body mixed fc_joistlaw01_Kept_ok (by simp [fc_joistlaw01_Kept]) ?_
  repeat' (first
    | ((with_reducible refine Side.intro ?_) <;> (first
    | omega
    | (simp only [bs_length, List.length_append, List.length_cons, List.length_nil, List.length_take, List.length_drop, List.length_set, List.length_replicate]; omega)
    | exact .inr (.inl ⟨rfl, by (simp only [bs_length, List.length_append, List.length_cons, List.length_nil, List.length_take, List.length_drop, List.length_set, List.length_replicate]; omega)⟩)
    ))
    | ((conv => whnf) <;> (first
    | (with_reducible refine and_same ?_)
    | (with_reducible refine and_side ?_ ?_)
    | ((with_reducible apply Br.yes) ; (focus omega))
    | (with_reducible refine Br.mk (fun _ => ?_) (fun _ => ?_))
    | ((with_reducible apply blkAt_step) ; (focus (first
    | ((repeat (first
    | assumption
    )); done)
    )) ; (focus (first | rfl | assumption | omega)) ; (focus (first | rfl | assumption)) ; (try dsimp only))
    | (with_reducible refine IaW.of ?_)
    | (with_reducible refine SliceW.of ?_)
    | (with_reducible refine lenR_sl ?_)
    | (with_reducible refine rowsR_sl ?_)
    | (with_reducible refine rowsR_rsl ?_)
    | ((with_reducible apply bytesR_intro) ; (focus (first | rfl | (simp only [bs_take, bs_drop, bs_append]; rfl))))
    | ((with_reducible apply nthR_bs) ; (focus (first | omega | (simp only [List.length_append, List.length_cons, List.length_nil, List.length_take, List.length_drop, bs_length]; omega))))
    | (with_reducible intro _)
    ))
    )
  all_goals (conv => whnf)
  all_goals (try dsimp only)
  · exact h
  · rename_i b hl hx hne
    refine absurd ?_ hne
    rw [show 0 + Int.toNat 0 + ((bs s).length : Int).toNat = s.length from by omega] at hl
    have hb : b = 77 := by simpa using hl.symm
    rw [hb]; rfl
  · rename_i hne
    exact absurd (by simp) hne
/-- A slice whose block's whole room is told. -/
def OwnF (σ : AH) (x : AV) (els : List (List AV)) : Prop :=
  (x = .nils ∧ els = []) ∨ ∃ id gen len, x = .rsl id gen 0 len none ∧ len ≤ els.length ∧ (∀ r, r ∈ els → r.length = 1) ∧ σ[id]? = some { sz := 1, els := els, gen := gen, wr := true, pure := true, full := true }
/-- Rows all of one byte. -/
def allOf (n : Nat) (v : Int) : List (List AV) := List.replicate n [.int .u8 (v % 256)]
/-- Blocks that are none of these stand. -/
def Els (σ σ' : AH) (xs : List AV) : Prop := σ.length ≤ σ'.length ∧ ∀ id b, σ[id]? = some b → (∀ (j : Nat) (x : AV), xs[j]? = some x → x.bid ≠ some id) → σ'[id]? = some b
structure OwnedI (σ σ1 : AH) (xs : List AV) (ns : Nat → Nat) (i : Nat) : Prop where
  els : Els σ σ1 xs
  le : i ≤ xs.length
  own : ∀ (j : Nat) (x : AV), xs[j]? = some x → ∃ els, els.length = ns j ∧ (j < i → els = allOf (ns j) (j + 1)) ∧ OwnF σ1 x els
theorem OwnF.set {σ : AH} {y : AV} {e : List (List AV)} (h : OwnF σ y e) {id : Nat} (hb : y.bid ≠ some id) (B : Blk) : OwnF (σ.set id B) y e := by
  rcases h with h | ⟨id', gen, len, rfl, h1, h2, h3⟩
  · exact .inl h
  · refine .inr ⟨id', gen, len, rfl, h1, h2, ?_⟩
    exact get_set_ne (fun e => hb (by rw [e]; rfl)) h3
theorem OwnedI.next {σ σ1 : AH} {xs : List AV} {ns : Nat → Nat} {i : Nat} (h : OwnedI σ σ1 xs ns i) {id gen len : Nat} {b : Blk} (hxi : xs[i]? = some (.rsl id gen 0 len none)) (hle : len ≤ ns i) (hb : σ1[id]? = some b)
    (hd : ∀ (j k : Nat) (x y : AV), xs[j]? = some x → xs[k]? = some y → j ≠ k → x.bid = none ∨ x.bid ≠ y.bid) :
    OwnedI σ (σ1.set id { sz := 1, els := allOf (ns i) (i + 1), gen := gen, wr := true, pure := true, full := true }) xs ns (i + 1) := by
  refine ⟨⟨by simpa using h.els.1, fun id' b' hb' hne => get_set_ne (fun e => hne i _ hxi (by rw [← e]; rfl)) (h.els.2 id' b' hb' hne)⟩, (List.getElem?_eq_some_iff.1 hxi).1, ?_⟩
  intro j x hj
  by_cases e : j = i
  · subst e
    rw [hxi] at hj; cases hj
    refine ⟨allOf (ns j) (j + 1), by simp [allOf], fun _ => rfl, .inr ⟨id, gen, len, rfl, by simpa [allOf] using hle, ?_, get_set hb⟩⟩
    intro r hr
    rw [(List.mem_replicate.1 hr).2]; rfl
  · obtain ⟨els, h1, h2, h3⟩ := h.own j x hj
    refine ⟨els, h1, fun hlt => h2 (by omega), h3.set ?_ _⟩
    rcases hd j i _ _ hj hxi e with q | q
    · rw [q]; simp
    · exact q
theorem OwnedI.nil {σ σ1 : AH} {xs : List AV} {ns : Nat → Nat} {i : Nat} (h : OwnedI σ σ1 xs ns i) (hxi : xs[i]? = some .nils) (hn : ns i = 0) : OwnedI σ σ1 xs ns (i + 1) := by
  refine ⟨h.els, (List.getElem?_eq_some_iff.1 hxi).1, ?_⟩
  intro j x hj
  obtain ⟨els, h1, h2, h3⟩ := h.own j x hj
  refine ⟨els, h1, fun hlt => ?_, h3⟩
  by_cases e : j = i
  · subst e
    rw [hn] at h1 ⊢
    rw [List.length_eq_zero_iff.1 h1]; rfl
  · exact h2 (by omega)
theorem set_same {σ : AH} {id : Nat} {b : Blk} (h : σ[id]? = some b) : σ = σ.set id b := by
  apply List.ext_getElem?
  intro j
  by_cases e : id = j
  · subst e; rw [h]; exact (get_set h).symm
  · rw [List.getElem?_set_ne e]
theorem nthR_xs {xs : List AV} {i : Nat} {x : AV} {K : List AV → Prop} (h : xs[i]? = some x) (hk : K [x]) : nthR (xs.map fun x => [x]) (i : Int).toNat K :=
  nthR_intro (x := [x]) (by simp [h]) hk
theorem Owned_val (σ : AH) (xs : List AV) (idr gr : Nat) (pu wr fu : Bool) (hr : σ[idr]? = some { sz := 1, els := xs.map fun x => [x], gen := gr, wr := wr, pure := pu, full := fu })
    (ns : Nat → Nat) (hx : ∀ (j : Nat) (x : AV), xs[j]? = some x → ∃ els, els.length = ns j ∧ OwnF σ x els)
    (hd : ∀ (j k : Nat) (x y : AV), xs[j]? = some x → xs[k]? = some y → j ≠ k → x.bid = none ∨ x.bid ≠ y.bid) (hd0 : ∀ (j : Nat) (x : AV), xs[j]? = some x → x.bid ≠ some idr) (hl : xs.length ≤ 4611686018427) (hns : ∀ j, j < xs.length → ns j ≤ 9223372036854775807)
    (Q : AV → AH → Prop) (h : ∀ σ', Els σ σ' xs → Q (.bool true) σ') : CallS Try.prog F.joistlaw01_Owned [.rsl idr gr 0 xs.length none] σ Q := by
  refine call_of_body mixed fc_joistlaw01_Owned_ok (by simp [fc_joistlaw01_Owned]) ?_
  skip
  all_goals (conv => whnf)
  all_goals (try dsimp only)
  refine loop_by (α := Nat × AH) (fun a => [(0, .rsl idr gr 0 xs.length none), (3, .int .i64 a.1)]) (fun a => a.2) (fun a => OwnedI σ a.2 xs ns a.1) (fun a => xs.length - a.1) ?_ (0, σ)
    ⟨⟨Nat.le_refl _, fun _ _ h _ => h⟩, by simp, fun j x hj => by obtain ⟨els, h1, h2⟩ := hx j x hj; exact ⟨els, h1, by omega, h2⟩⟩ rfl rfl
  rintro ⟨i, σ1⟩ hI
  dsimp only at hI ⊢
  have hr1 : σ1[idr]? = some { sz := 1, els := xs.map fun x => [x], gen := gr, wr := wr, pure := pu, full := fu } := hI.els.2 _ _ hr hd0
  have hi := hI.le
  repeat' (first
    | ((with_reducible refine Side.intro ?_) <;> (first
    | omega
    ))
    | ((conv => whnf) <;> (first
    | (with_reducible refine and_same ?_)
    | (with_reducible refine and_side ?_ ?_)
    | (with_reducible refine Br.mk (fun _ => ?_) (fun _ => ?_))
    | ((with_reducible apply blkAt_step) ; (focus (first
    | ((repeat (first
    | assumption
    )); done)
    )) ; (focus (first | rfl | assumption | omega)) ; (focus (first | rfl | assumption)) ; (try dsimp only))
    | (with_reducible refine IaW.of ?_)
    | (with_reducible refine nthR_z ?_)
    | (with_reducible refine lenR_rsl ?_)
    ))
    )
  all_goals (conv => whnf)
  all_goals (try dsimp only)
  · have hil : i < xs.length := by omega
    have hxi : xs[i]? = some xs[i] := List.getElem?_eq_getElem hil
    have hni := hns i hil
    obtain ⟨els, hel, _, ho⟩ := hI.own i _ hxi
    generalize xs[i] = x at *
    refine nthR_xs hxi ?_
    repeat' (first
      | ((with_reducible refine Side.intro ?_) <;> (first
      | omega
      ))
      | ((conv => whnf) <;> (first
      | (with_reducible refine and_same ?_)
      | (with_reducible refine and_side ?_ ?_)
      | ((with_reducible apply blkAt_step) ; (focus (first
      | ((repeat (first
      | assumption
      )); done)
      )) ; (focus (first | rfl | assumption | omega)) ; (focus (first | rfl | assumption)) ; (try dsimp only))
      | (with_reducible refine IaW.of ?_)
      | (with_reducible refine nthR_z ?_)
      ))
      )
    all_goals (conv => whnf)
    all_goals (try dsimp only)
    refine nthR_xs hxi ?_
    rcases ho with ⟨rfl, rfl⟩ | ⟨id, gen, len, rfl, hle, hone, hb⟩
    · repeat' (first
        | ((with_reducible refine Side.intro ?_) <;> (first
        | omega
        ))
        | ((conv => whnf) <;> (first
        | (with_reducible refine and_same ?_)
        | (with_reducible refine and_side ?_ ?_)
        | (with_reducible refine SliceW.of ?_)
        ))
        )
      all_goals (conv => whnf)
      all_goals (try dsimp only)
      refine loop_by (α := Unit) (fun a => [(0, .rsl idr gr 0 xs.length none), (3, .int .i64 i), (4, .nils), (5, .int .i64 0)]) (fun a => σ1) (fun a => True) (fun a => 0) ?_ () trivial rfl rfl
      rintro ⟨⟩ _
      repeat' (first
        | ((conv => whnf) <;> (first
        | (with_reducible refine and_same ?_)
        | ((with_reducible apply Br.yes) ; (focus omega))
        | ((with_reducible apply Br.no) ; (focus omega))
        | (with_reducible refine lenR_nils ?_)
        ))
        )
      all_goals (conv => whnf)
      all_goals (try dsimp only)
      exact ⟨(i + 1, σ1), rfl, rfl, hI.nil hxi hel.symm, by dsimp only; omega⟩
    · repeat' (first
        | ((with_reducible refine Side.intro ?_) <;> (first
        | omega
        | (simp; done)
        ))
        | ((conv => whnf) <;> (first
        | (with_reducible refine and_same ?_)
        | (with_reducible refine and_side ?_ ?_)
        | ((with_reducible apply blkAt_step) ; (focus (first
        | ((repeat (first
        | assumption
        )); done)
        )) ; (focus (first | rfl | assumption | omega)) ; (focus (first | rfl | assumption)) ; (try dsimp only))
        | (with_reducible refine SliceW.of ?_)
        ))
        )
      all_goals (conv => whnf)
      all_goals (try dsimp only)
      refine loop_by (α := Nat × List (List AV)) (fun a => [(0, .rsl idr gr 0 xs.length none), (3, .int .i64 i), (4, .rsl id gen 0 (ns i) none), (5, .int .i64 a.1)])
        (fun a => σ1.set id { sz := 1, els := a.2, gen := gen, wr := true, pure := true, full := true })
        (fun a => a.1 ≤ ns i ∧ a.2.length = ns i ∧ (∀ r, r ∈ a.2 → r.length = 1) ∧ a.2.take a.1 = allOf a.1 (i + 1)) (fun a => ns i - a.1) ?_ (0, els) ⟨by omega, hel, hone, rfl⟩ (by simp [hel]) ?_
      · rintro ⟨k, e2⟩ ⟨hk, hl2, hone2, htk⟩
        dsimp only at hk hl2 hone2 htk ⊢
        have hb2 : (σ1.set id { sz := 1, els := e2, gen := gen, wr := true, pure := true, full := true })[id]? = some { sz := 1, els := e2, gen := gen, wr := true, pure := true, full := true } := get_set hb
        repeat' (first
          | ((with_reducible refine Side.intro ?_) <;> (first
          | omega
          | exact rfl
          ))
          | ((conv => whnf) <;> (first
          | (with_reducible refine and_same ?_)
          | (with_reducible refine and_side ?_ ?_)
          | ((with_reducible apply Br.yes) ; (focus omega))
          | (with_reducible refine Br.mk (fun _ => ?_) (fun _ => ?_))
          | ((with_reducible apply blkAt_step) ; (focus (first
          | ((repeat (first
          | assumption
          )); done)
          )) ; (focus (first | rfl | assumption | omega)) ; (focus (first | rfl | assumption)) ; (try dsimp only))
          | (with_reducible refine IaW.of ?_)
          | (with_reducible refine nthR_z ?_)
          | (with_reducible refine lenR_rsl ?_)
          ))
          )
        all_goals (conv => whnf)
        all_goals (try dsimp only)
        · have hkl : k < e2.length := by omega
          refine nthR_intro (x := e2[k]) (by simp [hkl]) ?_
          have hr1 := hone2 e2[k] (by simp)
          repeat' (first
            | ((conv => whnf) <;> (first
            | (with_reducible refine and_side ?_ ?_)
            ))
            )
          all_goals (conv => whnf)
          all_goals (try dsimp only)
          have elay : lay e2[k] 0 (AV.int .u8 (((i : Int) + 1) % 256)).cells = [.int .u8 (((i : Int) + 1) % 256)] := by
            unfold lay
            rw [List.take_zero, List.nil_append, List.drop_of_length_le (by rw [hr1]; exact Nat.le_refl _)]
            rfl
          rotate_left
          · rw [hr1]; exact Side.intro (Nat.le_refl _)
          rw [layK_eq, elay]
          repeat' (first
            | ((conv => whnf) <;> (first
            | (with_reducible refine and_same ?_)
            | ((with_reducible apply Br.yes) ; (focus omega))
            ))
            )
          all_goals (conv => whnf)
          all_goals (try dsimp only)
          refine ⟨(k + 1, e2.set k [.int .u8 (((i : Int) + 1) % 256)]), rfl, ?_, ⟨by dsimp only; omega, by simpa using hl2, ?_, ?_⟩, by dsimp only; omega⟩
          · rw [List.set_set, show 0 + (k : Int).toNat = k from by omega]
            rfl
          · intro r hr
            rcases List.mem_or_eq_of_mem_set hr with q | q
            · exact hone2 r q
            · rw [q]; rfl
          · dsimp only
            rw [List.take_add_one, List.take_set_of_le (Nat.le_refl _), htk]
            simp [hkl, allOf, List.replicate_succ']
        · have hkn : k = ns i := by omega
          have he2 : e2 = allOf (ns i) (i + 1) := by
            rw [hkn, List.take_of_length_le (by omega)] at htk
            exact htk
          refine ⟨(i + 1, _), rfl, rfl, ?_, by dsimp only; omega⟩
          dsimp only
          rw [he2]
          exact hI.next hxi (by omega) hb hd
      · exact set_same hb
  have hix : i = xs.length := by omega
  refine loop_by (α := Nat) (fun a => [(0, .rsl idr gr 0 xs.length none), (6, .int .i64 a)]) (fun a => σ1) (fun a => a ≤ xs.length) (fun a => xs.length - a) ?_ 0 (by omega) rfl rfl
  intro m hm
  repeat' (first
    | ((with_reducible refine Side.intro ?_) <;> (first
    | omega
    ))
    | ((conv => whnf) <;> (first
    | (with_reducible refine and_same ?_)
    | (with_reducible refine and_side ?_ ?_)
    | (with_reducible refine Br.mk (fun _ => ?_) (fun _ => ?_))
    | ((with_reducible apply blkAt_step) ; (focus (first
    | ((repeat (first
    | assumption
    )); done)
    )) ; (focus (first | rfl | assumption | omega)) ; (focus (first | rfl | assumption)) ; (try dsimp only))
    | (with_reducible refine IaW.of ?_)
    | (with_reducible refine nthR_z ?_)
    | (with_reducible refine lenR_rsl ?_)
    ))
    )
  all_goals (conv => whnf)
  all_goals (try dsimp only)
  · have hml : m < xs.length := by omega
    have hxm : xs[m]? = some xs[m] := List.getElem?_eq_getElem hml
    have hnm := hns m hml
    obtain ⟨els, hel, hall, ho⟩ := hI.own m _ hxm
    generalize xs[m] = x at *
    have hall := hall (by omega)
    refine nthR_xs hxm ?_
    repeat' (first
      | ((with_reducible refine Side.intro ?_) <;> (first
      | omega
      ))
      | ((conv => whnf) <;> (first
      | (with_reducible refine and_same ?_)
      | (with_reducible refine and_side ?_ ?_)
      | ((with_reducible apply blkAt_step) ; (focus (first
      | ((repeat (first
      | assumption
      )); done)
      )) ; (focus (first | rfl | assumption | omega)) ; (focus (first | rfl | assumption)) ; (try dsimp only))
      | (with_reducible refine IaW.of ?_)
      | (with_reducible refine nthR_z ?_)
      ))
      )
    all_goals (conv => whnf)
    all_goals (try dsimp only)
    refine nthR_xs hxm ?_
    rcases ho with ⟨rfl, rfl⟩ | ⟨id, gen, len, rfl, hle, hone, hb⟩
    · repeat' (first
        | ((with_reducible refine Side.intro ?_) <;> (first
        | omega
        ))
        | ((conv => whnf) <;> (first
        | (with_reducible refine and_same ?_)
        | (with_reducible refine and_side ?_ ?_)
        | (with_reducible refine SliceW.of ?_)
        ))
        )
      all_goals (conv => whnf)
      all_goals (try dsimp only)
      refine loop_by (α := Unit) (fun a => [(0, .rsl idr gr 0 xs.length none), (6, .int .i64 m), (7, .nils), (8, .int .i64 0)]) (fun a => σ1) (fun a => True) (fun a => 0) ?_ () trivial rfl rfl
      rintro ⟨⟩ _
      repeat' (first
        | ((conv => whnf) <;> (first
        | (with_reducible refine and_same ?_)
        | ((with_reducible apply Br.yes) ; (focus omega))
        | ((with_reducible apply Br.no) ; (focus omega))
        | (with_reducible refine lenR_nils ?_)
        ))
        )
      all_goals (conv => whnf)
      all_goals (try dsimp only)
      exact ⟨m + 1, rfl, rfl, hml, by omega⟩
    · repeat' (first
        | ((with_reducible refine Side.intro ?_) <;> (first
        | omega
        | (simp; done)
        ))
        | ((conv => whnf) <;> (first
        | (with_reducible refine and_same ?_)
        | (with_reducible refine and_side ?_ ?_)
        | ((with_reducible apply blkAt_step) ; (focus (first
        | ((repeat (first
        | assumption
        )); done)
        )) ; (focus (first | rfl | assumption | omega)) ; (focus (first | rfl | assumption)) ; (try dsimp only))
        | (with_reducible refine SliceW.of ?_)
        ))
        )
      all_goals (conv => whnf)
      all_goals (try dsimp only)
      refine loop_by (α := Nat) (fun a => [(0, .rsl idr gr 0 xs.length none), (6, .int .i64 m), (7, .rsl id gen 0 (ns m) none), (8, .int .i64 a)]) (fun a => σ1)
        (fun a => a ≤ ns m) (fun a => ns m - a) ?_ 0 (by omega) (by simp [hel]) rfl
      intro k hk
      repeat' (first
        | ((with_reducible refine Side.intro ?_) <;> (first
        | omega
        ))
        | ((conv => whnf) <;> (first
        | (with_reducible refine and_same ?_)
        | (with_reducible refine and_side ?_ ?_)
        | ((with_reducible apply Br.yes) ; (focus omega))
        | (with_reducible refine Br.mk (fun _ => ?_) (fun _ => ?_))
        | ((with_reducible apply blkAt_step) ; (focus (first
        | ((repeat (first
        | assumption
        )); done)
        )) ; (focus (first | rfl | assumption | omega)) ; (focus (first | rfl | assumption)) ; (try dsimp only))
        | (with_reducible refine IaW.of ?_)
        | (with_reducible refine nthR_z ?_)
        | (with_reducible refine lenR_rsl ?_)
        ))
        )
      all_goals (conv => whnf)
      all_goals (try dsimp only)
      · refine nthR_intro (x := [.int .u8 (((m : Int) + 1) % 256)]) (by rw [hall]; simp [allOf, List.getElem?_replicate]; omega) ?_
        repeat' (first
          | ((conv => whnf) <;> (first
          | (with_reducible refine and_same ?_)
          | ((with_reducible apply Br.yes) ; (focus omega))
          | ((with_reducible apply Br.no) ; (focus omega))
          ))
          )
        all_goals (conv => whnf)
        all_goals (try dsimp only)
        exact ⟨k + 1, rfl, rfl, by omega, by omega⟩
      · exact ⟨m + 1, rfl, rfl, hml, by omega⟩
  · exact h _ hI.els
theorem Els.refl (σ : AH) (xs : List AV) : Els σ σ xs := ⟨Nat.le_refl _, fun _ _ h _ => h⟩
/-- The state while rooms are shown one after another. -/
structure RvI (σ σ1 : AH) (xs : List AV) (k : Nat) : Prop where
  els : Els σ σ1 xs
  full : ∀ (j : Nat) (x : AV), xs[j]? = some x → j < k → ∃ els, els.length ≤ 9223372036854775807 ∧ OwnF σ1 x els
  rest : ∀ (j : Nat) (x : AV), xs[j]? = some x → k ≤ j → ∃ rows, Own σ1 1 x rows
theorem Owned_own (σ : AH) (xs : List AV) (idr gr : Nat) (pu wr fu : Bool) (hr : σ[idr]? = some { sz := 1, els := xs.map fun x => [x], gen := gr, wr := wr, pure := pu, full := fu })
    (ho : ∀ (j : Nat) (x : AV), xs[j]? = some x → ∃ rows, Own σ 1 x rows)
    (hd : ∀ (j k : Nat) (x y : AV), xs[j]? = some x → xs[k]? = some y → j ≠ k → x.bid = none ∨ x.bid ≠ y.bid) (hd0 : ∀ (j : Nat) (x : AV), xs[j]? = some x → x.bid ≠ some idr) (hl : xs.length ≤ 4611686018427)
    (Q : AV → AH → Prop) (h : ∀ σ', Els σ σ' xs → Q (.bool true) σ') : CallS Try.prog F.joistlaw01_Owned [.rsl idr gr 0 xs.length none] σ Q := by
  have key : ∀ (m k : Nat) (σ1 : AH), m = xs.length - k → k ≤ xs.length → RvI σ σ1 xs k → CallS Try.prog F.joistlaw01_Owned [.rsl idr gr 0 xs.length none] σ1 Q := by
    intro m
    induction m with
    | zero =>
      intro k σ1 hm hk hI
      have hkl : k = xs.length := by omega
      have hch : ∀ j : Nat, ∃ n : Nat, ∀ x, xs[j]? = some x → n ≤ 9223372036854775807 ∧ ∃ els, els.length = n ∧ OwnF σ1 x els := by
        intro j
        cases hj : xs[j]? with
        | none => exact ⟨0, fun x hx => by cases hx⟩
        | some x =>
          obtain ⟨els, h1, h2⟩ := hI.full j x hj (by rw [hkl]; exact (List.getElem?_eq_some_iff.1 hj).1)
          exact ⟨els.length, fun y hy => by cases hy; exact ⟨h1, els, rfl, h2⟩⟩
      obtain ⟨ns, hns⟩ := Classical.axiomOfChoice hch
      refine Owned_val σ1 xs idr gr pu wr fu (hI.els.2 _ _ hr hd0) ns (fun j x hj => (hns j x hj).2) hd hd0 hl (fun j hj => (hns j _ (List.getElem?_eq_getElem hj)).1) Q ?_
      intro σ' hσ'
      exact h σ' ⟨Nat.le_trans hI.els.1 hσ'.1, fun id b hb hn => hσ'.2 id b (hI.els.2 id b hb hn) hn⟩
    | succ m ih =>
      intro k σ1 hm hk hI
      have hkl : k < xs.length := by omega
      have hxk : xs[k]? = some xs[k] := List.getElem?_eq_getElem hkl
      obtain ⟨rows, hrow⟩ := hI.rest k _ hxk (Nat.le_refl _)
      rcases hrow with ⟨hx, rfl⟩ | ⟨id, gen, sp, hx, hb⟩
      · refine ih (k + 1) σ1 (by omega) (by omega) ⟨hI.els, ?_, fun j x hj hkj => hI.rest j x hj (by omega)⟩
        intro j x hj hlt
        by_cases e : j = k
        · subst e
          rw [hxk] at hj; cases hj
          exact ⟨[], by simp, .inl ⟨hx, rfl⟩⟩
        · exact hI.full j x hj (by omega)
      · refine CallS.reveal (bodied_of fc_joistlaw01_Owned_ok) hb fun n hn hone => ih (k + 1) _ (by omega) (by omega) ⟨⟨by simpa using hI.els.1, ?_⟩, ?_, ?_⟩
        · intro i b hbi hne
          exact get_set_ne (fun e => hne k _ hxk (by rw [hx, ← e]; rfl)) (hI.els.2 i b hbi hne)
        · intro j x hj hlt
          by_cases e : j = k
          · subst e
            rw [hxk] at hj; cases hj
            refine ⟨_, ?_, .inr ⟨id, gen, _, hx, ?_, ?_, get_set hb⟩⟩
            · simp only [List.length_append, List.length_replicate] at hn ⊢; omega
            · simp
            · intro r hr
              rcases List.mem_append.1 hr with q | q
              · exact hone r q
              · rw [(List.mem_replicate.1 q).2]; rfl
          · obtain ⟨els, h1, h2⟩ := hI.full j x hj (by omega)
            refine ⟨els, h1, h2.set ?_ _⟩
            rcases hd j k _ _ hj hxk e with q | q
            · rw [q]; simp
            · rw [hx] at q; exact q
        · intro j x hj hkj
          obtain ⟨rows', h2⟩ := hI.rest j x hj (by omega)
          refine ⟨rows', h2.keep (Gr.set _ _ _) ?_⟩
          rcases hd j k _ _ hj hxk (by omega) with q | q
          · exact .inl q
          · rw [hx] at q; exact .inr fun e => q e.symm
  exact key _ 0 σ rfl (Nat.zero_le _) ⟨Els.refl _ _, fun j x hj hlt => by omega, fun j x hj _ => ho j x hj⟩
/-- What stands behind it. -/
theorem Own.els {σ σ' : AH} {xs : List AV} (h : Els σ σ' xs) {sz : Nat} {x : AV} {rows : List (List AV)} (ho : Own σ sz x rows) (hd : ∀ (j : Nat) (y : AV), xs[j]? = some y → x.bid = none ∨ y.bid ≠ x.bid) : Own σ' sz x rows := by
  rcases ho with ⟨rfl, h'⟩ | ⟨id, gen, sp, rfl, hb⟩
  · exact .inl ⟨rfl, h'⟩
  · refine .inr ⟨id, gen, sp, rfl, h.2 _ _ hb fun j y hj e => ?_⟩
    rcases hd j y hj with q | q
    · cases q
    · exact q e
end Go.Proofs.Ythakanioekmhbaa
