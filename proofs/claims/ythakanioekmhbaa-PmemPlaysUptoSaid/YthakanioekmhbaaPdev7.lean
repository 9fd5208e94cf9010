import Derived.Test.YthakanioekmhbaaPdev6
namespace Go.Proofs.Ythakanioekmhbaa
open Go Go.Proofs.Ythakanioekmhbaa.V
set_option maxRecDepth 20000
attribute [local irreducible] CallS AOK AOKn ALoop Side Ref.ok
def bls (l : List Bool) : List (List AV) := l.map fun b => [.bool b]
theorem bls_length (l : List Bool) : (bls l).length = l.length := by simp [bls]
theorem nthR_bls1 {l : List Bool} {n : Nat} {K : List AV → Prop} {b : Bool} (h : l[n]? = some b) (hk : K [.bool b]) : nthR (bls l) n K := nthR_intro (x := [.bool b]) (by simp [bls, h]) hk
/-- Bools, by value or in a block of one's own. -/
inductive BoolR (σ : AH) (x : AV) (l : List Bool) : Prop
  | sl (fr : Bool) (h : x = .sl 1 (bls l) fr)
  | own (h : Own σ 1 x (bls l))
theorem BoolR.keepP {σ σ' : AH} {x : AV} {l : List Bool} {X : Nat → Prop} (h : BoolR σ x l) (hg : GrP σ σ' X) (hx : ∀ id, X id → x.bid ≠ some id) : BoolR σ' x l := by
  rcases h with ⟨fr, rfl⟩ | h
  · exact .sl fr rfl
  · exact .own (Own.keepP h hg hx)
def keptAt (keep : List Bool) (i : Nat) : Bool := keep[i]?.getD false
def crashS (keep : List Bool) (d : Dv) (p : Int × Nat) : Dv := if keptAt keep p.2 = true then { d with L := lastL d.L d.S p.1.toNat } else d
def crashL (keep : List Bool) (d : Dv) : Dv := ((srt (d.es.map ME.key)).zipIdx).foldl (crashS keep) d
def crashD (keep : List Bool) (d : Dv) : Dv := { crashL keep d with S := (crashL keep d).L, es := [], armed := 0, down := false }
/-- What a crash's steps keep. -/
structure DvC (d0 d : Dv) : Prop where
  ok : DvOk d
  es : d.es = d0.es
  L : d.L.length = d0.L.length
  S : d.S = d0.S
  clock : d.clock = d0.clock
theorem DvC.refl {d : Dv} (h : DvOk d) : DvC d d := ⟨h, rfl, rfl, rfl, rfl⟩
theorem DvC.trans {d0 d1 d2 : Dv} (h : DvC d0 d1) (k : DvC d1 d2) : DvC d0 d2 := ⟨k.ok, k.es.trans h.es, k.L.trans h.L, k.S.trans h.S, k.clock.trans h.clock⟩
theorem DvOk.lastC {d : Dv} (h : DvOk d) {k : Int} (hk : 0 ≤ k ∧ 64 * k + 64 ≤ d.L.length) : DvC d { d with L := lastL d.L d.S k.toNat } := by
  have hl : (lastL d.L d.S k.toNat).length = d.L.length := lastL_length h.len (by omega)
  exact ⟨⟨h.map, h.vals, fun e he => by dsimp only; rw [hl]; exact h.rng e he, by dsimp only; rw [hl]; exact h.len, by dsimp only; rw [hl]; exact h.le, by dsimp only; rw [hl]; exact h.al, h.arm⟩, rfl, hl, rfl, rfl⟩
theorem DvOk.crashC {keep : List Bool} : ∀ {l : List (Int × Nat)} {d : Dv}, DvOk d → (∀ p, p ∈ l → 0 ≤ p.1 ∧ 64 * p.1 + 64 ≤ d.L.length) → DvC d (l.foldl (crashS keep) d)
  | [], d, h, _ => .refl h
  | p :: r, d, h, hk => by
    have h1 : DvC d (crashS keep d p) := by
      unfold crashS
      split
      · exact h.lastC (hk p (by simp))
      · exact .refl h
    exact h1.trans (DvOk.crashC h1.ok fun p' hp' => by rw [h1.L]; exact hk p' (by simp [hp']))
theorem Crash_ok {σ : AH} {a : DA} {d : Dv} (h : DevH σ a d) (hd : DvOk d) {x : AV} {keep : List Bool} (hx : BoolR σ x keep) (hkl : keep.length ≤ 1048576) (hbx : ∀ id, a.has id → x.bid ≠ some id) (Q : AV → AH → Prop)
    (hQ : ∀ σ', DevH σ' a (crashD keep d) → GrP σ σ' a.has → Q (.tup []) σ') : CallS Try.prog F.pmem_Device_Crash [.ptr a.i 0 0 0, x] σ Q := by
  have hle := hd.le
  have hlen := hd.len
  refine call_of_body mixed fc_pmem_Device_Crash_ok (by simp [fc_pmem_Device_Crash]) ?_
  skip
  all_goals (conv => whnf)
  all_goals (try dsimp only)
  refine Dirty_ok h hd.map hd.few _ fun y σ2 hg2 ho hy => ?_
  have h2 := h.keepN hg2
  have hkeys : ∀ k, k ∈ srt (d.es.map ME.key) → 0 ≤ k ∧ 64 * k + 64 ≤ d.L.length := fun k hk => hd.keysIn hk
  have hl : (srt (d.es.map ME.key)).length ≤ 4096 := by rw [srt_length, List.length_map]; exact hd.few
  have hil := is_length (srt (d.es.map ME.key))
  have hbl := bls_length keep
  have hgg : GrP σ σ2 a.has := .of hg2 _
  have hyn : ∀ id, a.has id → y.bid ≠ some id := fun id q r => by
    have := h.lt id q
    have := hy id r
    omega
  have hx2 := hx.keepP hgg hbx
  have hcr : crashL keep d = ((srt (d.es.map ME.key)).zipIdx).foldl (crashS keep) d := rfl
  generalize srt (d.es.map ME.key) = l at *
  repeat' (first
    | ((conv => whnf) <;> (first
    | ((with_reducible apply lenR_own) ; (focus assumption))
    ))
    )
  all_goals (conv => whnf)
  all_goals (try dsimp only)
  refine loop_at (α := Nat × AH) (fun q => [(9, .int .i64 q.1)]) (fun q => q.2) (fun q => q.1 ≤ l.length ∧ DevH q.2 a ((l.zipIdx.take q.1).foldl (crashS keep) d) ∧ Own q.2 1 y (is l) ∧ GrP σ q.2 a.has ∧ BoolR q.2 x keep) (fun q => l.length - q.1) (0, σ2) ⟨Nat.zero_le _, h2, ho, hgg, hx2⟩ rfl rfl ?_
  rintro ⟨i, τ⟩ ⟨hi, hD, hO, hG, hX⟩
  dsimp only at hi hD hO hG hX ⊢
  by_cases hlt : i < l.length
  · obtain ⟨k, hk, hk'⟩ := getN hlt
    have hz : l.zipIdx[i]? = some (k, i) := by simp [List.getElem?_zipIdx, hk']
    have hdi := (DvOk.crashC (keep := keep) (l := l.zipIdx.take i) hd fun p hp => by
      obtain ⟨j, hj⟩ := List.getElem?_of_mem (List.mem_of_mem_take hp)
      rw [List.getElem?_zipIdx] at hj
      obtain ⟨k', hk1, hk2⟩ := Option.map_eq_some_iff.1 hj
      rw [← hk2]
      exact hkeys k' (List.mem_of_getElem? hk1))
    have et : l.zipIdx.take (i + 1) = l.zipIdx.take i ++ [(k, i)] := by rw [List.take_add_one, hz]; rfl
    have ef : (l.zipIdx.take (i + 1)).foldl (crashS keep) d = crashS keep ((l.zipIdx.take i).foldl (crashS keep) d) (k, i) := by rw [et, List.foldl_append]; rfl
    have hkr := hkeys k (List.mem_of_getElem? hk')
    generalize (l.zipIdx.take i).foldl (crashS keep) d = di at *
    obtain ⟨kn, rfl⟩ := Int.eq_ofNat_of_zero_le hkr.1
    have hdL := hdi.L
    have hle1 := hdi.ok.le
    have hno : keptAt keep i = false → crashS keep di (kn, i) = di := fun q => if_neg (by dsimp only; rw [q]; simp)
    by_cases hik : i < keep.length
    · obtain ⟨b, hb, hb'⟩ := getN hik
      have hka : keptAt keep i = b := by simp [keptAt, hb']
      cases b with
      | false =>
        rw [hno hka] at ef
        rcases id hX with ⟨fr, rfl⟩ | hXo
        · repeat' (first
            | ((with_reducible refine Side.intro ?_) <;> (first
            | omega
            ))
            | ((conv => whnf) <;> (first
            | (with_reducible refine and_same ?_)
            | ((with_reducible apply Br.yes) ; (focus omega))
            | ((with_reducible apply blkAt_step) ; (focus (first
            | ((repeat (first
            | assumption
            )); done)
            )) ; (focus (first | rfl | assumption | omega)) ; (focus (first | rfl | assumption)) ; (try dsimp only))
            | ((with_reducible apply nthR_bls1) ; (focus assumption))
            | ((with_reducible apply nthR_is1) ; (focus assumption))
            | ((with_reducible apply ia_own) ; (focus assumption))
            | (with_reducible refine ia_sl ?_ ?_)
            | (with_reducible refine nthR_z ?_)
            | ((with_reducible apply nthR_left) ; (focus (first | omega | (simp only [List.length_append, List.length_cons, List.length_nil, List.length_take, List.length_drop, bs_length]; omega))))
            | (with_reducible refine lenR_sl ?_)
            | (with_reducible intro _)
            ))
            )
          all_goals (conv => whnf)
          all_goals (try dsimp only)
          exact ⟨(i + 1, τ), rfl, rfl, ⟨by dsimp only; omega, by dsimp only; rw [ef]; exact hD, hO, hG, hX⟩, by dsimp only; omega⟩
        · repeat' (first
            | ((with_reducible refine Side.intro ?_) <;> (first
            | omega
            ))
            | ((conv => whnf) <;> (first
            | (with_reducible refine and_same ?_)
            | ((with_reducible apply Br.yes) ; (focus omega))
            | ((with_reducible apply blkAt_step) ; (focus (first
            | ((repeat (first
            | assumption
            )); done)
            )) ; (focus (first | rfl | assumption | omega)) ; (focus (first | rfl | assumption)) ; (try dsimp only))
            | ((with_reducible apply nthR_bls1) ; (focus assumption))
            | ((with_reducible apply nthR_is1) ; (focus assumption))
            | ((with_reducible apply lenR_own) ; (focus assumption))
            | ((with_reducible apply ia_own) ; (focus assumption))
            | (with_reducible refine nthR_z ?_)
            | ((with_reducible apply nthR_left) ; (focus (first | omega | (simp only [List.length_append, List.length_cons, List.length_nil, List.length_take, List.length_drop, bs_length]; omega))))
            | (with_reducible intro _)
            ))
            )
          all_goals (conv => whnf)
          all_goals (try dsimp only)
          exact ⟨(i + 1, τ), rfl, rfl, ⟨by dsimp only; omega, by dsimp only; rw [ef]; exact hD, hO, hG, hX⟩, by dsimp only; omega⟩
      | true =>
        have ef' : crashS keep di (kn, i) = { di with L := lastL di.L di.S kn } := if_pos (by dsimp only; rw [hka])
        rw [ef'] at ef
        have fin : ∀ τ1, DevH τ1 a { di with L := lastL di.L di.S kn } → GrP τ τ1 a.has → ((l.zipIdx.take (i + 1)).foldl (crashS keep) d = { di with L := lastL di.L di.S kn }) → (i + 1 ≤ l.length ∧ DevH τ1 a ((l.zipIdx.take (i + 1)).foldl (crashS keep) d) ∧ Own τ1 1 y (is l) ∧ GrP σ τ1 a.has ∧ BoolR τ1 x keep) := fun τ1 q1 q2 q3 => ⟨hlt, by rw [q3]; exact q1, Own.keepP hO q2 hyn, hG.trans q2, hX.keepP q2 hbx⟩
        rcases id hX with ⟨fr, rfl⟩ | hXo
        · repeat' (first
            | ((with_reducible refine Side.intro ?_) <;> (first
            | omega
            ))
            | ((conv => whnf) <;> (first
            | (with_reducible refine and_same ?_)
            | ((with_reducible apply Br.yes) ; (focus omega))
            | ((with_reducible apply blkAt_step) ; (focus (first
            | ((repeat (first
            | assumption
            )); done)
            )) ; (focus (first | rfl | assumption | omega)) ; (focus (first | rfl | assumption)) ; (try dsimp only))
            | ((with_reducible apply nthR_bls1) ; (focus assumption))
            | ((with_reducible apply nthR_is1) ; (focus assumption))
            | ((with_reducible apply ia_own) ; (focus assumption))
            | (with_reducible refine ia_sl ?_ ?_)
            | (with_reducible refine nthR_z ?_)
            | ((with_reducible apply nthR_left) ; (focus (first | omega | (simp only [List.length_append, List.length_cons, List.length_nil, List.length_take, List.length_drop, bs_length]; omega))))
            | (with_reducible refine lenR_sl ?_)
            | (with_reducible intro _)
            ))
            )
          all_goals (conv => whnf)
          all_goals (try dsimp only)
          refine last_ok hD (by omega) hdi.ok.len kn (by omega) _ fun τ1 hD1 hG1 => ?_
          repeat' (first
            | ((conv => whnf) <;> (first
            | (with_reducible refine and_same ?_)
            | ((with_reducible apply Br.yes) ; (focus omega))
            ))
            )
          all_goals (conv => whnf)
          all_goals (try dsimp only)
          exact ⟨(i + 1, τ1), rfl, rfl, fin τ1 hD1 hG1 ef, by dsimp only; omega⟩
        · repeat' (first
            | ((with_reducible refine Side.intro ?_) <;> (first
            | omega
            ))
            | ((conv => whnf) <;> (first
            | (with_reducible refine and_same ?_)
            | ((with_reducible apply Br.yes) ; (focus omega))
            | ((with_reducible apply blkAt_step) ; (focus (first
            | ((repeat (first
            | assumption
            )); done)
            )) ; (focus (first | rfl | assumption | omega)) ; (focus (first | rfl | assumption)) ; (try dsimp only))
            | ((with_reducible apply nthR_bls1) ; (focus assumption))
            | ((with_reducible apply nthR_is1) ; (focus assumption))
            | ((with_reducible apply lenR_own) ; (focus assumption))
            | ((with_reducible apply ia_own) ; (focus assumption))
            | (with_reducible refine nthR_z ?_)
            | ((with_reducible apply nthR_left) ; (focus (first | omega | (simp only [List.length_append, List.length_cons, List.length_nil, List.length_take, List.length_drop, bs_length]; omega))))
            | (with_reducible intro _)
            ))
            )
          all_goals (conv => whnf)
          all_goals (try dsimp only)
          refine last_ok hD (by omega) hdi.ok.len kn (by omega) _ fun τ1 hD1 hG1 => ?_
          repeat' (first
            | ((conv => whnf) <;> (first
            | (with_reducible refine and_same ?_)
            | ((with_reducible apply Br.yes) ; (focus omega))
            ))
            )
          all_goals (conv => whnf)
          all_goals (try dsimp only)
          exact ⟨(i + 1, τ1), rfl, rfl, fin τ1 hD1 hG1 ef, by dsimp only; omega⟩
    · have hka : keptAt keep i = false := by simp [keptAt, List.getElem?_eq_none (Nat.le_of_not_lt hik)]
      rw [hno hka] at ef
      rcases id hX with ⟨fr, rfl⟩ | hXo
      · repeat' (first
          | ((with_reducible refine Side.intro ?_) <;> (first
          | omega
          ))
          | ((conv => whnf) <;> (first
          | (with_reducible refine and_same ?_)
          | ((with_reducible apply Br.yes) ; (focus omega))
          | ((with_reducible apply Br.no) ; (focus omega))
          | ((with_reducible apply blkAt_step) ; (focus (first
          | ((repeat (first
          | assumption
          )); done)
          )) ; (focus (first | rfl | assumption | omega)) ; (focus (first | rfl | assumption)) ; (try dsimp only))
          | ((with_reducible apply nthR_is1) ; (focus assumption))
          | ((with_reducible apply ia_own) ; (focus assumption))
          | (with_reducible refine nthR_z ?_)
          | ((with_reducible apply nthR_left) ; (focus (first | omega | (simp only [List.length_append, List.length_cons, List.length_nil, List.length_take, List.length_drop, bs_length]; omega))))
          | (with_reducible refine lenR_sl ?_)
          | (with_reducible intro _)
          ))
          )
        all_goals (conv => whnf)
        all_goals (try dsimp only)
        exact ⟨(i + 1, τ), rfl, rfl, ⟨by dsimp only; omega, by dsimp only; rw [ef]; exact hD, hO, hG, hX⟩, by dsimp only; omega⟩
      · repeat' (first
          | ((with_reducible refine Side.intro ?_) <;> (first
          | omega
          ))
          | ((conv => whnf) <;> (first
          | (with_reducible refine and_same ?_)
          | ((with_reducible apply Br.yes) ; (focus omega))
          | ((with_reducible apply Br.no) ; (focus omega))
          | ((with_reducible apply blkAt_step) ; (focus (first
          | ((repeat (first
          | assumption
          )); done)
          )) ; (focus (first | rfl | assumption | omega)) ; (focus (first | rfl | assumption)) ; (try dsimp only))
          | ((with_reducible apply nthR_is1) ; (focus assumption))
          | ((with_reducible apply lenR_own) ; (focus assumption))
          | ((with_reducible apply ia_own) ; (focus assumption))
          | (with_reducible refine nthR_z ?_)
          | ((with_reducible apply nthR_left) ; (focus (first | omega | (simp only [List.length_append, List.length_cons, List.length_nil, List.length_take, List.length_drop, bs_length]; omega))))
          | (with_reducible intro _)
          ))
          )
        all_goals (conv => whnf)
        all_goals (try dsimp only)
        exact ⟨(i + 1, τ), rfl, rfl, ⟨by dsimp only; omega, by dsimp only; rw [ef]; exact hD, hO, hG, hX⟩, by dsimp only; omega⟩
  · have ei : i = l.length := by omega
    subst ei
    rw [List.take_of_length_le (by simp), ← hcr] at hD
    have hdc : DvC d (crashL keep d) := by
      rw [hcr]
      refine DvOk.crashC hd fun p hp => ?_
      obtain ⟨j, hj⟩ := List.getElem?_of_mem hp
      rw [List.getElem?_zipIdx] at hj
      obtain ⟨k', hk1, hk2⟩ := Option.map_eq_some_iff.1 hj
      rw [← hk2]
      exact hkeys k' (List.mem_of_getElem? hk1)
    unfold crashD at hQ
    generalize crashL keep d = dc at *
    obtain ⟨box, lasts, seen, map, ne⟩ := id hD
    repeat' (first
      | ((with_reducible refine Side.intro ?_) <;> (first
      | exact Nat.le_of_ble_eq_true rfl
      | (simp only [bs_length, List.length_append, List.length_cons, List.length_nil, List.length_take, List.length_drop, List.length_set, List.length_replicate]; omega)
      | exact rfl
      ))
      | ((conv => whnf) <;> (first
      | (with_reducible refine and_same ?_)
      | (with_reducible refine and_side ?_ ?_)
      | ((with_reducible apply Br.no) ; (focus omega))
      | ((with_reducible apply blkAt_step) ; (focus (first
      | ((repeat (first
      | assumption
      | with_reducible apply get_set
      | (apply get_set_ne; (focus (first | omega | (simp only [newB_length, List.length_set, List.length_append, List.length_singleton, List.length_nil]; omega))))
      )); done)
      )) ; (focus (first | rfl | assumption | omega)) ; (focus (first | rfl | assumption)) ; (try dsimp only))
      | ((with_reducible apply mapW_step) ; (focus (first
      | ((repeat (first
      | assumption
      | (apply get_set_ne; (focus (first | omega | (simp only [newB_length, List.length_set, List.length_append, List.length_singleton, List.length_nil]; omega))))
      )); done)
      )) ; (try dsimp only))
      | (with_reducible refine CopyW.of ?_)
      | (with_reducible refine rowsR_rsl ?_)
      ))
      )
    all_goals (conv => whnf)
    all_goals (try dsimp only)
    have hSL := hdc.ok.len
    rw [cpy (by omega) (by omega)]
    have e : List.take 0 dc.S ++ List.take (min dc.L.length dc.S.length) (List.drop 0 dc.L) ++ List.drop (0 + min dc.L.length dc.S.length) dc.S = dc.L := by
      rw [show min dc.L.length dc.S.length = dc.L.length by omega, show List.drop (0 + dc.L.length) dc.S = [] from List.drop_of_length_le (by omega)]
      simp
    rw [e, hSL]
    have h1 := hD.setS dc.L hSL.symm
    have h2 := h1.setM [] dc.clock
    have h3 := (h2.setBox dc.armed false).setBox 0 false
    exact hQ _ h3 (((((GrP.setT hG (.inr (.inr (.inl rfl))) _)).setT (.inr (.inr (.inr rfl))) _).setT (.inl rfl) _).setT (.inl rfl) _)
end Go.Proofs.Ythakanioekmhbaa
