import Derived.Test.YthakanioekmhbaaPref03e
import Derived.Test.YthakanioekmhbaaPlaw01
import Derived.Test.YthakanioekmhbaaPref01
import Derived.Test.YthakanioekmhbaaPlaws03b
namespace Go.Proofs.Ythakanioekmhbaa
open Go Go.Proofs.Ythakanioekmhbaa.V
set_option maxRecDepth 20000
attribute [local irreducible] CallS AOK AOKn ALoop Side Ref.ok
theorem Els.grN {σ0 σ σ' : AH} {xs : List AV} (h : Els σ σ' xs) (hg : Gr σ0 σ none) (hn : ∀ (j : Nat) (x : AV), xs[j]? = some x → New σ0 x) : Gr σ0 σ' none :=
  ⟨Nat.le_trans hg.1 h.1, fun id b hb _ => h.2 id b (hg.2 id b hb (by simp)) fun j x hx e => by
    have q1 := hn j x hx id e
    have q2 := (List.getElem?_eq_some_iff.1 hb).1
    omega⟩
theorem all1 {x : AV} {p : AV → Prop} (hx : p x) : ∀ (j : Nat) (a : AV), [x][j]? = some a → p a := by
  rintro j a h
  match j with
  | 0 => simp at h; subst h; exact hx
  | j + 1 => simp at h
theorem all2 {x y : AV} {p : AV → Prop} (hx : p x) (hy : p y) : ∀ (j : Nat) (a : AV), [x, y][j]? = some a → p a := by
  rintro j a h
  match j with
  | 0 => simp at h; subst h; exact hx
  | 1 => simp at h; subst h; exact hy
  | j + 2 => simp at h
theorem disj1 {x : AV} : ∀ (j k : Nat) (a b : AV), [x][j]? = some a → [x][k]? = some b → j ≠ k → a.bid = none ∨ a.bid ≠ b.bid := by
  rintro j k a b h1 h2 hn
  have := (List.getElem?_eq_some_iff.1 h1).1
  have := (List.getElem?_eq_some_iff.1 h2).1
  simp only [List.length_singleton] at *
  omega
theorem disj2 {x y : AV} (h : x.bid = none ∨ x.bid ≠ y.bid) : ∀ (j k : Nat) (a b : AV), [x, y][j]? = some a → [x, y][k]? = some b → j ≠ k → a.bid = none ∨ a.bid ≠ b.bid := by
  rintro j k a b h1 h2 hn
  match j, k with
  | 0, 0 => exact absurd rfl hn
  | 1, 1 => exact absurd rfl hn
  | 0, 1 => simp at h1 h2; subst h1; subst h2; exact h
  | 1, 0 => simp at h1 h2; subst h1; subst h2; exact disj_symm h
  | j + 2, _ => simp at h1
  | _, k + 2 => simp at h2
theorem Owned_one {σ : AH} {x : AV} {rows : List (List AV)} {idr : Nat} {pu wr fu : Bool} (hr : σ[idr]? = some { sz := 1, els := [[x]], gen := 0, wr := wr, pure := pu, full := fu }) (ho : Own σ 1 x rows) (hd : x.bid ≠ some idr)
    (Q : AV → AH → Prop) (h : ∀ σ', GrP σ σ' (fun id => x.bid = some id) → Q (.bool true) σ') : CallS Try.prog F.joistlaw01_Owned [.rsl idr 0 0 1 none] σ Q :=
  Owned_own σ [x] idr 0 pu wr fu hr (all1 ⟨_, ho⟩) disj1 (all1 hd) (by simp) Q fun σ' hE => h σ' ⟨hE.1, fun id b hb hn => hE.2 id b hb (all1 hn)⟩
theorem bid_ne {σ : AH} {sz : Nat} {x : AV} {rows : List (List AV)} (hx : Own σ sz x rows) {id : Nat} (h : σ.length ≤ id) : x.bid ≠ some id := fun e => by
  have := hx.lt e
  omega
theorem New.upTo {σ σ' : AH} {x : AV} (h : New σ' x) (hl : σ.length ≤ σ'.length) : New σ x := fun id e => Nat.le_trans hl (h id e)
theorem allOk_gr {σ σ' : AH} (hg : Gr σ σ' none) {p : Prop} (h : p) : ∀ rs : List Ref, V.allOk σ σ' rs p
  | [] => h
  | r :: rs => ⟨by have := hg.side r; unfold Side at this; exact this, allOk_gr hg h rs⟩
theorem untagLL_is (s : List Int) : untagLL (is s) = is s := by
  induction s with
  | nil => rfl
  | cons x s ih => simp only [is, List.map_cons, untagLL, untagL, V.untag] at ih ⊢; rw [ih]
theorem Looks.ownis {σ : AH} {x : AV} {s : List Int} (h : Own σ 1 x (is s)) : Looks σ x (.sl 1 (is s) false) := by
  have := Looks.own h
  rwa [untagLL_is] at this
theorem disj_flip {x y : AV} (h : x.bid = none ∨ x.bid ≠ y.bid) : y.bid = none ∨ x.bid ≠ y.bid := by
  rcases h with h | h
  · cases hy : y.bid with
    | none => exact .inl rfl
    | some a => right; rw [h]; simp
  · exact .inr h
theorem is_setL {s : List Int} {i : Nat} (hi : i < s.length) (b : Int) (sp : List (List AV)) : (is s ++ sp).set i [.int .i64 b] = is (s.set i b) ++ sp := by
  rw [List.set_append_left _ _ (by rw [is_length]; exact hi), is_set]
theorem tells_ok {σ : AH} {a : DA} {ra : RA} {d : Dv} {r : Rv} (hD : DevH σ a d) (hd : DvR d) (hR : RefH σ ra r) (hr : RD d r) (Q : AV → AH → Prop) (hQ : ∀ σ', Gr σ σ' none → Q (.bool true) σ') : CallS Try.prog F.joistlaw03_tells [.ptr a.i 0 0 0, .ptr ra.i 0 0 0] σ Q := by
  have hdir := hr.dirty hd.ok
  have hrl := hr.dl
  have hle := hd.ok.le
  have hln := hd.ok.len
  obtain ⟨rL, rS, rD, rF, rA, rW⟩ := r
  obtain ⟨e1, e2, e3, e4, _, _, _⟩ := hr
  dsimp only at e1 e2 e3 e4 hdir hrl
  subst e1 e2 e3 e4
  refine call_of_body mixed fc_joistlaw03_tells_ok (by simp [fc_joistlaw03_tells]) ?_
  have tt : ¬ (true ≠ true) := by simp
  skip
  all_goals (conv => whnf)
  all_goals (try dsimp only)
  refine Image_ok hD (by omega) _ fun y1 σ1 hg1 ho1 hn1 => ?_
  have hD1 := hD.keepN hg1
  have hR1 := hR.keepN hg1
  skip
  all_goals (conv => whnf)
  all_goals (try dsimp only)
  refine View_ok hD1 (by omega) _ fun y2 σ2 hg2 ho2 hn2 => ?_
  have hD2 := hD1.keepN hg2
  have hR2 := hR1.keepN hg2
  have ho12 := ho1.keepN hg2
  skip
  all_goals (conv => whnf)
  all_goals (try dsimp only)
  refine Dirty_ok hD2 hd.ok.map hd.ok.few _ fun y3 σ3 hg3 ho3 hn3 => ?_
  have hD3 := hD2.keepN hg3
  have hR3 := hR2.keepN hg3
  have ho13 := ho12.keepN hg3
  have ho23 := ho2.keepN hg3
  have hd12 := disj_new ho1 hn2
  have hd13 := disj_new ho12 hn3
  have hd23 := disj_new ho2 hn3
  clear ho1 ho2 ho12
  repeat' (first
    | ((conv => whnf) <;> (first
    | ((with_reducible apply rowsR_own) ; (focus assumption))
    | ((with_reducible apply bytesR_intro) ; (focus (first | rfl | (simp only [bs_take, bs_drop, bs_append]; rfl))))
    ))
    )
  all_goals (conv => whnf)
  all_goals (try dsimp only)
  refine RImage_ok hR3 (by dsimp only; omega) _ fun y4 σ4 hg4 ho4 hn4 => ?_
  have hD4 := hD3.keepN hg4
  have hR4 := hR3.keepN hg4
  have ho14 := ho13.keepN hg4
  have ho24 := ho23.keepN hg4
  have ho34 := ho3.keepN hg4
  clear ho13 ho23 ho3
  skip
  all_goals (conv => whnf)
  all_goals (try dsimp only)
  refine allOk_gr hg4 ?_ _
  repeat' (first
    | ((conv => whnf) <;> (first
    | (with_reducible refine Br.yes rfl ?_)
    | ((with_reducible apply rowsR_own) ; (focus assumption))
    | ((with_reducible apply bytesR_intro) ; (focus (first | rfl | (simp only [bs_take, bs_drop, bs_append]; rfl))))
    ))
    )
  all_goals (conv => whnf)
  all_goals (try dsimp only)
  refine RView_ok hR4 (by dsimp only; omega) _ fun y5 σ5 hg5 ho5 hn5 => ?_
  have hD5 := hD4.keepN hg5
  have hR5 := hR4.keepN hg5
  have ho15 := ho14.keepN hg5
  have ho25 := ho24.keepN hg5
  have ho35 := ho34.keepN hg5
  clear ho14 ho24 ho34
  skip
  all_goals (conv => whnf)
  all_goals (try dsimp only)
  refine allOk_gr hg5 ?_ _
  repeat' (first
    | ((conv => whnf) <;> (first
    | (with_reducible refine Br.yes rfl ?_)
    | ((with_reducible apply rowsR_own) ; (focus assumption))
    | ((with_reducible apply bytesR_intro) ; (focus (first | rfl | (simp only [bs_take, bs_drop, bs_append]; rfl))))
    ))
    )
  all_goals (conv => whnf)
  all_goals (try dsimp only)
  refine RDirty_ok hR5 (by dsimp only; omega) _ fun y6 σ6 hg6 ho6 hn6 => ?_
  have hD6 := hD5.keepN hg6
  have hR6 := hR5.keepN hg6
  have ho16 := ho15.keepN hg6
  have ho26 := ho25.keepN hg6
  have ho36 := ho35.keepN hg6
  clear ho15 ho25 ho35
  dsimp only at ho6
  rw [hdir] at ho6
  have hl : (srt (d.es.map ME.key)).length ≤ 4096 := by rw [srt_length, List.length_map]; exact hd.ok.few
  generalize srt (d.es.map ME.key) = l at *
  skip
  all_goals (conv => whnf)
  all_goals (try dsimp only)
  have hS := Same_ok l l (by omega) (by omega)
  rw [decide_eq_true rfl] at hS
  refine call_one hS (.cons (Looks.ownis ho36) (.cons (Looks.ownis ho6) .nil)) rfl fun σ7 hg7 => ?_
  have hD7 := hD6.keepN hg7
  have hR7 := hR6.keepN hg7
  have ho17 := ho16.keepN hg7
  have ho27 := ho26.keepN hg7
  have ho37 := ho36.keepN hg7
  obtain ⟨c1, k1, m1⟩ := ho17.one
  obtain ⟨c2, k2, m2⟩ := ho27.one
  clear ho16 ho26 ho36 ho6
  repeat' (first
    | ((with_reducible refine Side.intro ?_) <;> (first
    | omega
    | exact Nat.le_of_ble_eq_true rfl
    ))
    | ((conv => whnf) <;> (first
    | (with_reducible refine and_side ?_ ?_)
    ))
    )
  all_goals (conv => whnf)
  all_goals (try dsimp only)
  rw [c1, c2]
  have g7 : Gr σ σ7 none := (((((hg1.trans hg2).trans hg3).trans hg4).trans hg5).trans hg6).trans hg7
  have hb1 : New σ y2 := hn2.upTo hg1.1
  refine Owned_own (newB σ7 1 (List.map (fun x => [x]) [y1, y2]) _) [y1, y2] σ7.length 0 _ true false get_new (all2 ⟨_, ho17.keepN (by (repeat (first
        | exact Gr.refl _ _
        | refine Gr.addN ?_ _
        )))⟩ ⟨_, ho27.keepN (by (repeat (first
        | exact Gr.refl _ _
        | refine Gr.addN ?_ _
        )))⟩) (disj2 hd12) (all2 (bid_ne ho17 (Nat.le_refl _)) (bid_ne ho27 (Nat.le_refl _))) (by simp) _ ?_
  intro σ8 hE
  have hg8 : Gr σ σ8 none := hE.grN (Gr.newN g7 _ _ _) (all2 hn1 hb1)
  have hD8 := hD.keepN hg8
  have hR8 := hR.keepN hg8
  have hn13 : New σ1 y3 := hn3.upTo hg2.1
  have ho38 : Own σ8 1 y3 (is l) := Own.els hE (ho37.keepN (show Gr σ7 (newB σ7 1 (List.map (fun x => [x]) [y1, y2]) _) none by (repeat (first
        | exact Gr.refl _ _
        | refine Gr.addN ?_ _
        )))) (all2 (disj_flip hd13) (disj_flip hd23))
  have hb3 : New σ y3 := hn13.upTo hg1.1
  clear ho17 ho27 ho37
  skip
  all_goals (conv => whnf)
  all_goals (try dsimp only)
  refine loop_at (α := Nat × List Int × AH) (fun q => [(9, .int .i64 q.1)]) (fun q => q.2.2) (fun q => q.1 ≤ l.length ∧ q.2.1.length = l.length ∧ Own q.2.2 1 y3 (is q.2.1) ∧ Gr σ q.2.2 none) (fun q => l.length - q.1) (0, l, σ8) ⟨Nat.zero_le _, rfl, ho38, hg8⟩ rfl rfl ?_
  rintro ⟨k, m, τ⟩ ⟨hk, hm, hO, hG⟩
  dsimp only at hk hm hO hG ⊢
  have him := is_length m
  by_cases hlt : k < l.length
  · have hne : is m ≠ [] := by intro e; rw [e] at him; simp at him; omega
    obtain ⟨id, gen, sp, e, hb⟩ := hO.ne hne
    obtain ⟨v, hv, _⟩ := getN (show k < m.length by omega)
    have eI := is_setL (show k < m.length by omega) (-7) sp
    have eK : 0 + ((k : Nat) : Int).toNat = k := by omega
    have hid := hb3 id (by rw [e]; rfl)
    subst e
    clear hO
    repeat' (first
      | ((with_reducible refine Side.intro ?_) <;> (first
      | omega
      | exact Nat.le_of_ble_eq_true rfl
      | exact rfl
      ))
      | ((conv => whnf) <;> (first
      | (with_reducible refine and_same ?_)
      | (with_reducible refine and_side ?_ ?_)
      | ((with_reducible apply Br.yes) ; (focus omega))
      | ((with_reducible apply blkAt_step) ; (focus (first
      | ((repeat (first
      | assumption
      )); done)
      )) ; (focus (first | rfl | assumption | omega)) ; (focus (first | rfl | assumption)) ; (try dsimp only))
      | ((with_reducible apply nthR_is1) ; (focus assumption))
      | (with_reducible refine IaW.of ?_)
      | (with_reducible refine nthR_z ?_)
      | ((with_reducible apply nthR_left) ; (focus (first | omega | (simp only [List.length_append, List.length_cons, List.length_nil, List.length_take, List.length_drop, bs_length]; omega))))
      | (with_reducible refine lenR_rsl ?_)
      ))
      )
    all_goals (conv => whnf)
    all_goals (try dsimp only)
    refine ⟨(k + 1, m.set k (-7), _), rfl, rfl, ⟨by dsimp only; omega, by simp [hm], ?_, hG.setNew hid _⟩, by dsimp only; omega⟩
    dsimp only
    rw [eK, eI]
    exact Own.mk' (sp := sp) (get_set hb) (by simp [is_length]) rfl
  · have hDt := hD.keepN hG
    have hRt := hR.keepN hG
    repeat' (first
      | ((conv => whnf) <;> (first
      | (with_reducible refine and_same ?_)
      | ((with_reducible apply Br.no) ; (focus omega))
      | ((with_reducible apply lenR_own) ; (focus assumption))
      ))
      )
    all_goals (conv => whnf)
    all_goals (try dsimp only)
    refine Down_ok hDt _ ?_
    skip
    all_goals (conv => whnf)
    all_goals (try dsimp only)
    refine RDown_ok hRt _ ?_
    repeat' (first
      | ((conv => whnf) <;> (first
      | (with_reducible refine Br.yes rfl ?_)
      ))
      )
    all_goals (conv => whnf)
    all_goals (try dsimp only)
    refine Lines_ok hDt (by omega) _ ?_
    skip
    all_goals (conv => whnf)
    all_goals (try dsimp only)
    refine RLines_ok hRt _ ?_
    repeat' (first
      | ((conv => whnf) <;> (first
      | (with_reducible refine and_same ?_)
      | ((with_reducible apply Br.yes) ; (focus omega))
      ))
      )
    all_goals (conv => whnf)
    all_goals (try dsimp only)
    exact hQ _ hG
theorem Side.sh {σ σ' : AH} {id : Nat} {b : Blk} (h : σ[id]? = some b) (h' : σ'[id]? = some b) : Side (Ref.ok σ σ' (.sh id)) := by
  unfold Side Ref.ok
  intro b' q
  rw [h] at q; cases q
  exact ⟨b, h', rfl, rfl, rfl, rfl, rfl⟩
theorem Side.co {σ σ' : AH} {id : Nat} {b : Blk} (h : σ[id]? = some b) (h' : σ'[id]? = some b) : Side (Ref.ok σ σ' (.co id)) := by
  unfold Side Ref.ok
  intro b' q
  rw [h] at q; cases q
  exact ⟨b, h', rfl, rfl, rfl, rfl, rfl⟩
theorem Lent_call {σ : AH} (s : List UInt8) (fr : Bool) (hs : s.length ≤ 4611686018427) (Q : AV → AH → Prop) (h : ∀ σ' id, Gr σ σ' none → σ.length ≤ id → σ'[id]? = some { sz := 1, els := bs (s ++ [77]), gen := 0, wr := true, pure := true } → Q (.rsl id 0 0 s.length none) σ') : CallS Try.prog F.joistlaw01_Lent [.sl 1 (bs s) fr] σ Q :=
  Lent_val _ s fr hs Q (h _ _ (Gr.append _ _) (Nat.le_refl _) get_new)
/-- Device and reference side by side. -/
structure TwoD (σ : AH) (a : DA) (ra : RA) (d : Dv) (r : Rv) (n : Nat) : Prop where
  hD : DevH σ a d
  hd : DvR d
  hR : RefH σ ra r
  hr : RD d r
  ap : ∀ id, a.has id → ¬ ra.has id
  len : d.L.length = n
theorem TwoD.keepN {σ σ' : AH} {a : DA} {ra : RA} {d : Dv} {r : Rv} {n : Nat} (h : TwoD σ a ra d r n) (hg : Gr σ σ' none) : TwoD σ' a ra d r n := ⟨h.hD.keepN hg, h.hd, h.hR.keepN hg, h.hr, h.ap, h.len⟩
theorem TwoD.keepP {σ σ' : AH} {a : DA} {ra : RA} {d : Dv} {r : Rv} {n : Nat} (h : TwoD σ a ra d r n) {X : Nat → Prop} (hg : GrP σ σ' X) (h1 : ∀ id, id < σ.length → a.has id ∨ ra.has id → ¬ X id) : TwoD σ' a ra d r n := ⟨h.hD.keep hg fun id q => h1 id (h.hD.lt id q) (.inl q), h.hd, h.hR.keep hg fun id q => h1 id (h.hR.lt id q) (.inr q), h.hr, h.ap, h.len⟩
theorem TwoD.lt {σ : AH} {a : DA} {ra : RA} {d : Dv} {r : Rv} {n : Nat} (h : TwoD σ a ra d r n) {id : Nat} (hx : a.has id ∨ ra.has id) : id < σ.length := hx.elim (h.hD.lt id) (h.hR.lt id)
set_option maxHeartbeats 8000000 in
theorem PmemPlays_ok (s : List UInt8) (ac : List ActV) (hs : s.length ≤ 4611686018) (hac : ac.length ≤ 4611686018 ∧ ∀ c, c ∈ ac → c.B.length ≤ 1048576 ∧ c.K.length ≤ 1048576 ∧ c.N ≤ 9223372036854775807) : AOKn Try.prog F.joistlaw03_PmemPlays [.sl 1 (bs s) false, .sl 5 (acR ac) false] fun y => y = .bool true := by
  obtain ⟨ha1, ha2⟩ := hac
  have hns := bs_length s
  have hna := acR_length ac
  have ntt : ¬ (true ≠ true) := by simp
  have nff : ¬ (false ≠ false) := by simp
  refine AOKn.by_steps mixed fc_joistlaw03_PmemPlays_ok (by simp [fc_joistlaw03_PmemPlays]) ?_
  skip
  all_goals (conv => whnf)
  all_goals (try dsimp only)
  refine call_one small_ok .nil rfl fun σ1 hg1 => ?_
  by_cases h1 : 2048 < (s.length : Int) ∧ (s.length : Int) ≤ 262144
  · repeat' (first
      | ((with_reducible refine Side.intro ?_) <;> (first
      | (simp only [List.append_nil, List.nil_append, List.map_nil]; first | exact List.nodup_nil | exact nodup_bid1 _ | exact nodup_bid2 (by assumption))
      | ((first | refine fresh_tup ?_ | skip); (repeat (first |  exact FreshA.sl _ _ FreshA_bs | exact FreshA.sl _ _ FreshA_is | exact FreshA.nils | exact FreshA.nilp | exact FreshA.int _ _ | exact FreshA.bool _ | exact FreshA.str _ | exact fresh_nil | refine fresh_cons ?_ ?_ | with_reducible refine fresh_aggR ?_ | with_reducible refine fresh_agg ?_ | with_reducible exact fresh_nilA | with_reducible refine fresh_consA ?_ ?_)); done)
      ))
      | ((conv => whnf) <;> (first
      | (with_reducible refine and_same ?_)
      | (with_reducible refine and_side ?_ ?_)
      | ((with_reducible apply Br.yes) ; (focus omega))
      | (with_reducible refine NOut.lit ?_)
      | (with_reducible refine lenR_sl ?_)
      ))
      )
    all_goals (conv => whnf)
    all_goals (try dsimp only)
    exact ret_bool rfl
  by_cases h2 : 262144 < (s.length : Int)
  · repeat' (first
      | ((conv => whnf) <;> (first
      | (with_reducible refine and_same ?_)
      | ((with_reducible apply Br.yes) ; (focus omega))
      | ((with_reducible apply Br.no) ; (focus omega))
      | (with_reducible refine lenR_sl ?_)
      ))
      )
    all_goals (conv => whnf)
    all_goals (try dsimp only)
    refine Lent_val _ s false (by omega) _ ?_
    have hblk : (σ1 ++ [{ sz := 1, els := bs (s ++ [77]), gen := 0, wr := true, pure := true }])[σ1.length]? = some ({ sz := 1, els := bs (s ++ [77]), gen := 0, wr := true, pure := true } : Blk) := get_new
    generalize hσ2 : σ1 ++ [({ sz := 1, els := bs (s ++ [77]), gen := 0, wr := true, pure := true } : Blk)] = σ2 at *
    have hl2 : σ2.length = σ1.length + 1 := by rw [← hσ2]; simp
    have hin : Own σ2 1 (.rsl σ1.length 0 0 s.length none) (bs s) := Own.mk' (sp := bs [77]) hblk (by rw [bs_length]) (by rw [bs_append])
    have hbx : BytR σ2 (.rsl σ1.length 0 0 s.length none) s := .own hin
    skip
    all_goals (conv => whnf)
    all_goals (try dsimp only)
    refine New_ok (s := s) hbx hs _ (fun hG => absurd hG.2.2 (by have := hG.2.1; omega)) ?_
    · intro hG σ3 hg3
      have hblk3 := hg3.2 _ _ hblk (by simp)
      have hin3 := hin.keepN hg3
      skip
      all_goals (conv => whnf)
      all_goals (try dsimp only)
      refine Kept_val _ s _ _ [] false (by omega) hblk3 _ ?_
      repeat' (first
        | ((with_reducible refine Side.intro ?_) <;> (first
        | omega
        | exact Nat.le_of_ble_eq_true rfl
        | exact rfl
        ))
        | ((conv => whnf) <;> (first
        | (with_reducible refine and_side ?_ ?_)
        ))
        )
      all_goals (conv => whnf)
      all_goals (try dsimp only)
      refine Owned_one get_new (hin3.keepN (by (repeat (first
            | exact Gr.refl _ _
            | refine Gr.addN ?_ _
            )))) (bid_ne hin3 (Nat.le_refl _)) _ fun σ4 hg4 => ?_
      skip
      all_goals (conv => whnf)
      all_goals (try dsimp only)
      refine RNew_ok (s := s) (.sl false rfl) hs _ (fun q => absurd q hG) fun _ σ5 hg5 => ?_
      repeat' (first
        | ((with_reducible refine Side.intro ?_) <;> (first
        | (simp only [List.append_nil, List.nil_append, List.map_nil]; first | exact List.nodup_nil | exact nodup_bid1 _ | exact nodup_bid2 (by assumption))
        | ((first | refine fresh_tup ?_ | skip); (repeat (first |  exact FreshA.sl _ _ FreshA_bs | exact FreshA.sl _ _ FreshA_is | exact FreshA.nils | exact FreshA.nilp | exact FreshA.int _ _ | exact FreshA.bool _ | exact FreshA.str _ | exact fresh_nil | refine fresh_cons ?_ ?_ | with_reducible refine fresh_aggR ?_ | with_reducible refine fresh_agg ?_ | with_reducible exact fresh_nilA | with_reducible refine fresh_consA ?_ ?_)); done)
        ))
        | ((conv => whnf) <;> (first
        | (with_reducible refine and_same ?_)
        | (with_reducible refine and_side ?_ ?_)
        | ((with_reducible apply Br.yes) ; (focus omega))
        | ((with_reducible apply Br.no) ; (focus omega))
        | ((with_reducible apply Br.no) ; (focus assumption))
        | (with_reducible refine NOut.lit ?_)
        ))
        )
      all_goals (conv => whnf)
      all_goals (try dsimp only)
      exact ret_bool rfl
  have h3 : (s.length : Int) ≤ 2048 := by omega
  clear h1 h2
  repeat' (first
    | ((conv => whnf) <;> (first
    | (with_reducible refine and_same ?_)
    | ((with_reducible apply Br.no) ; (focus omega))
    | (with_reducible refine lenR_sl ?_)
    ))
    )
  all_goals (conv => whnf)
  all_goals (try dsimp only)
  refine Lent_val _ s false (by omega) _ ?_
  have hblk : (σ1 ++ [{ sz := 1, els := bs (s ++ [77]), gen := 0, wr := true, pure := true }])[σ1.length]? = some ({ sz := 1, els := bs (s ++ [77]), gen := 0, wr := true, pure := true } : Blk) := get_new
  generalize hσ2 : σ1 ++ [({ sz := 1, els := bs (s ++ [77]), gen := 0, wr := true, pure := true } : Blk)] = σ2 at *
  have hl2 : σ2.length = σ1.length + 1 := by rw [← hσ2]; simp
  have hin : Own σ2 1 (.rsl σ1.length 0 0 s.length none) (bs s) := Own.mk' (sp := bs [77]) hblk (by rw [bs_length]) (by rw [bs_append])
  have hbx : BytR σ2 (.rsl σ1.length 0 0 s.length none) s := .own hin
  skip
  all_goals (conv => whnf)
  all_goals (try dsimp only)
  refine New_ok (s := s) hbx hs _ ?_ ?_
  · intro hG a σ3 hg3 hD3 hn3
    have hR := DvR.new hG
    have hblk3 := hg3.2 _ _ hblk (by simp)
    have hin3 := hin.keepN hg3
    skip
    all_goals (conv => whnf)
    all_goals (try dsimp only)
    refine Kept_val _ s _ _ [] false (by omega) hblk3 _ ?_
    repeat' (first
      | ((with_reducible refine Side.intro ?_) <;> (first
      | omega
      | exact Nat.le_of_ble_eq_true rfl
      | exact rfl
      ))
      | ((conv => whnf) <;> (first
      | (with_reducible refine and_side ?_ ?_)
      ))
      )
    all_goals (conv => whnf)
    all_goals (try dsimp only)
    refine Owned_one get_new (hin3.keepN (by (repeat (first
          | exact Gr.refl _ _
          | refine Gr.addN ?_ _
          )))) (bid_ne hin3 (Nat.le_refl _)) _ fun σ4 hg4 => ?_
    have hD4 : DevH σ4 a ⟨s, s, [], 0, 0, false⟩ := (hD3.keepN (show Gr σ3 (newB σ3 1 [[.rsl σ1.length 0 0 s.length none]] _) none by (repeat (first
          | exact Gr.refl _ _
          | refine Gr.addN ?_ _
          )))).keep hg4 fun id q e => by
      have := hn3 id q
      cases e
      omega
    have l4 : σ3.length ≤ σ4.length := Nat.le_trans (by simp [newB]) hg4.1
    clear hg4
    skip
    all_goals (conv => whnf)
    all_goals (try dsimp only)
    refine RNew_ok (s := s) (.sl false rfl) hs _ ?_ (fun q => absurd hG q)
    intro _ ra σ5 hg5 hR5 hn5
    have h5 : TwoD σ5 a ra ⟨s, s, [], 0, 0, false⟩ ⟨s, s, List.replicate (s.length / 64) false, List.replicate (s.length / 64) false, 0, false⟩ s.length := by
      obtain ⟨g1, g2, g3⟩ := hG
      refine ⟨hD4.keepN hg5, hR, hR5, ⟨rfl, rfl, rfl, rfl, by dsimp only; rw [List.length_replicate]; omega, by simp, fun k hk => ?_⟩, fun id q r => ?_, rfl⟩
      · dsimp only at hk ⊢
        rw [List.length_replicate] at hk
        rw [List.getElem?_replicate, if_pos hk]
        exact ⟨rfl, rfl⟩
      · have := hD4.lt id q
        have := hn5 id r
        omega
    have hs0 : 0 < s.length := by have := hG.1; omega
    have box5 := h5.hD.box
    dsimp only at box5
    clear hblk3 hin3 hblk hin hbx hD3 hD4 hg3 hn3 hR hg1 hR5 hn5 hσ2
    repeat' (first
      | ((conv => whnf) <;> (first
      | (with_reducible refine and_same ?_)
      | ((with_reducible apply Br.no) ; (focus omega))
      | ((with_reducible apply blkAt_step) ; (focus (first
      | ((repeat (first
      | assumption
      )); done)
      )) ; (focus (first | rfl | assumption | omega)) ; (focus (first | rfl | assumption)) ; (try dsimp only))
      ))
      )
    all_goals (conv => whnf)
    all_goals (try dsimp only)
    clear box5
    refine loop_at (α := Nat × Dv × RA × Rv × AH) (fun q => [(12, .int .i64 q.1)]) (fun q => q.2.2.2.2) (fun q => q.1 ≤ ac.length ∧ TwoD q.2.2.2.2 a q.2.2.1 q.2.1 q.2.2.2.1 s.length ∧ q.2.2.1.i = ra.i) (fun q => ac.length - q.1) (0, ⟨s, s, [], 0, 0, false⟩, ra, ⟨s, s, List.replicate (s.length / 64) false, List.replicate (s.length / 64) false, 0, false⟩, σ5) ⟨Nat.zero_le _, h5, rfl⟩ rfl rfl ?_
    clear h5
    rintro ⟨i, d, rb, r, τ⟩ ⟨hi, h5, hri⟩
    dsimp only at hi h5 hri ⊢
    by_cases hlt : i < ac.length ∧ i < 60
    · obtain ⟨c, hc, hc'⟩ := getN hlt.1
      obtain ⟨hcB, hcK, hcN⟩ := ha2 c (List.mem_of_getElem? hc')
      obtain ⟨hlt1, hlt2⟩ := hlt
      obtain ⟨Do, At, N, B, K⟩ := c
      dsimp only at hcB hcK hcN
      have hnB := bs_length B
      have hlt5 : ∀ id, a.has id ∨ rb.has id → id < τ.length := fun id q => h5.lt q
      by_cases hB4 : 4096 < (B.length : Int)
      · repeat' (first
          | ((with_reducible refine Side.intro ?_) <;> (first
          | omega
          | exact Nat.le_of_ble_eq_true rfl
          | (simp only [List.append_nil, List.nil_append, List.map_nil]; first | exact List.nodup_nil | exact nodup_bid1 _ | exact nodup_bid2 (by assumption))
          | ((first | refine fresh_tup ?_ | skip); (repeat (first |  exact FreshA.sl _ _ FreshA_bs | exact FreshA.sl _ _ FreshA_is | exact FreshA.nils | exact FreshA.nilp | exact FreshA.int _ _ | exact FreshA.bool _ | exact FreshA.str _ | exact fresh_nil | refine fresh_cons ?_ ?_ | with_reducible refine fresh_aggR ?_ | with_reducible refine fresh_agg ?_ | with_reducible exact fresh_nilA | with_reducible refine fresh_consA ?_ ?_)); done)
          | exact rfl
          ))
          | ((conv => whnf) <;> (first
          | (with_reducible refine and_same ?_)
          | (with_reducible refine and_side ?_ ?_)
          | ((with_reducible apply Br.yes) ; (focus omega))
          | ((with_reducible apply blkAt_step) ; (focus (first
          | ((repeat (first
          | exact get_new
          | exact get_set get_new
          )); done)
          )) ; (focus (first | rfl | assumption | omega)) ; (focus (first | rfl | assumption)) ; (try dsimp only))
          | ((with_reducible apply nthR_act) ; (focus assumption))
          | (with_reducible refine ia_sl ?_ ?_)
          | (with_reducible refine NOut.lit ?_)
          | (with_reducible refine lenR_sl ?_)
          ))
          )
        all_goals (conv => whnf)
        all_goals (try dsimp only)
        exact ret_bool rfl
      have hle := h5.hd.ok.le
      have hln := h5.hd.ok.len
      have hrS := h5.hr.S
      rw [← hri]
      by_cases d0 : Do = 0
      · subst d0
        by_cases hk : askD d At N = 0
        · repeat' (first
            | ((with_reducible refine Side.intro ?_) <;> (first
            | omega
            | exact Nat.le_of_ble_eq_true rfl
            | exact rfl
            ))
            | ((conv => whnf) <;> (first
            | (with_reducible refine and_same ?_)
            | (with_reducible refine and_side ?_ ?_)
            | (with_reducible refine Br.yes rfl ?_)
            | ((with_reducible apply Br.yes) ; (focus omega))
            | ((with_reducible apply Br.no) ; (focus omega))
            | ((with_reducible apply blkAt_step) ; (focus (first
            | ((repeat (first
            | exact get_new
            | exact get_set get_new
            )); done)
            )) ; (focus (first | rfl | assumption | omega)) ; (focus (first | rfl | assumption)) ; (try dsimp only))
            | ((with_reducible apply nthR_act) ; (focus assumption))
            | (with_reducible refine ia_sl ?_ ?_)
            | (with_reducible refine lenR_sl ?_)
            ))
            )
          all_goals (conv => whnf)
          all_goals (try dsimp only)
          refine Load_ok (h5.hD.keepN (by (repeat (first
                | exact Gr.refl _ _
                | refine Gr.setNew ?_ (by first | exact Nat.le_refl _ | (simp only [newB_length, List.length_set, List.length_append, List.length_singleton]; omega) | omega) _
                | refine Gr.addN ?_ _
                )))) (by omega) At N _ (fun _ y σ6 hg6 ho6 hn6 => ?_) (fun q => absurd hk q)
          have g6 : Gr τ σ6 none := Gr.trans (by (repeat (first
                | exact Gr.refl _ _
                | refine Gr.setNew ?_ (by first | exact Nat.le_refl _ | (simp only [newB_length, List.length_set, List.length_append, List.length_singleton]; omega) | omega) _
                | refine Gr.addN ?_ _
                ))) hg6
          have vb6 := hg6.2 τ.length _ (get_set get_new) (by simp)
          replace hn6 : New τ y := hn6.upTo (by simp [newB])
          replace h5 := h5.keepN g6
          repeat' (first
            | ((conv => whnf) <;> (first
            | ((with_reducible apply blkAt_step) ; (focus (first
            | ((repeat (first
            | assumption
            )); done)
            )) ; (focus (first | rfl | assumption | omega)) ; (focus (first | rfl | assumption)) ; (try dsimp only))
            ))
            )
          all_goals (conv => whnf)
          all_goals (try dsimp only)
          refine RLoad_ok h5.hR (by rw [hrS]; omega) At N _ (fun _ z σ7 hg7 ho7 hn7 => ?_) (fun q => absurd ((h5.hr.ask At N).trans hk) q)
          rw [hrS] at ho7
          replace ho6 := ho6.keepN hg7
          replace h5 := h5.keepN hg7
          obtain ⟨c1, k1, m1⟩ := ho6.one
          repeat' (first
            | ((with_reducible refine Side.intro ?_) <;> (first
            | omega
            | exact Nat.le_of_ble_eq_true rfl
            ))
            | ((conv => whnf) <;> (first
            | (with_reducible refine and_side ?_ ?_)
            | (with_reducible refine Br.yes rfl ?_)
            | ((with_reducible apply rowsR_own) ; (focus assumption))
            | ((with_reducible apply bytesR_intro) ; (focus (first | rfl | (simp only [bs_take, bs_drop, bs_append]; rfl))))
            ))
            )
          all_goals (conv => whnf)
          all_goals (try dsimp only)
          rw [c1]
          refine Owned_one get_new (ho6.keepN (by (repeat (first
                | exact Gr.refl _ _
                | refine Gr.addN ?_ _
                )))) (bid_ne ho6 (Nat.le_refl _)) _ fun σ8 hg8 => ?_
          have h8 : TwoD σ8 a rb d r s.length := (h5.keepN (show Gr σ7 (newB σ7 1 [[y]] _) none by (repeat (first
                | exact Gr.refl _ _
                | refine Gr.addN ?_ _
                )))).keepP hg8 fun id _ q e => by
            have := hlt5 id q
            have := hn6 id e
            omega
          clear hg8 ho6 ho7 h5 hg7 hg6 vb6
          repeat' (first
            | ((conv => whnf) <;> (first
            | (with_reducible refine and_same ?_)
            | ((with_reducible apply Br.no) ; (focus omega))
            ))
            )
          all_goals (conv => whnf)
          all_goals (try dsimp only)
          refine tells_ok h8.hD h8.hd h8.hR h8.hr _ fun σ11 hg11 => ?_
          replace h8 := h8.keepN hg11
          skip
          all_goals (conv => whnf)
          all_goals (try dsimp only)
          refine tells_ok h8.hD h8.hd h8.hR h8.hr _ fun σ12 hg12 => ?_
          replace h8 := h8.keepN hg12
          repeat' (first
            | ((conv => whnf) <;> (first
            | (with_reducible refine and_same ?_)
            | ((with_reducible apply Br.yes) ; (focus omega))
            ))
            )
          all_goals (conv => whnf)
          all_goals (try dsimp only)
          exact ⟨(i + 1, d, rb, r, σ12), rfl, rfl, ⟨by dsimp only; omega, h8, rfl⟩, by dsimp only; omega⟩
        · have hkR : askR r At N ≠ 0 := by rw [h5.hr.ask]; exact hk
          have hkE := h5.hr.ask At N
          repeat' (first
            | ((with_reducible refine Side.intro ?_) <;> (first
            | omega
            | exact Nat.le_of_ble_eq_true rfl
            | exact rfl
            ))
            | ((conv => whnf) <;> (first
            | (with_reducible refine and_same ?_)
            | (with_reducible refine and_side ?_ ?_)
            | (with_reducible refine Br.yes rfl ?_)
            | ((with_reducible apply Br.yes) ; (focus omega))
            | ((with_reducible apply Br.no) ; (focus omega))
            | ((with_reducible apply blkAt_step) ; (focus (first
            | ((repeat (first
            | exact get_new
            | exact get_set get_new
            )); done)
            )) ; (focus (first | rfl | assumption | omega)) ; (focus (first | rfl | assumption)) ; (try dsimp only))
            | ((with_reducible apply nthR_act) ; (focus assumption))
            | (with_reducible refine ia_sl ?_ ?_)
            | (with_reducible refine lenR_sl ?_)
            ))
            )
          all_goals (conv => whnf)
          all_goals (try dsimp only)
          refine Load_ok (h5.hD.keepN (by (repeat (first
                | exact Gr.refl _ _
                | refine Gr.setNew ?_ (by first | exact Nat.le_refl _ | (simp only [newB_length, List.length_set, List.length_append, List.length_singleton]; omega) | omega) _
                | refine Gr.addN ?_ _
                )))) (by omega) At N _ (fun q => absurd q hk) (fun _ => ?_)
          generalize askD d At N = ek at *
          repeat' (first
            | ((conv => whnf) <;> (first
            | ((with_reducible apply blkAt_step) ; (focus (first
            | ((repeat (first
            | exact get_set get_new
            )); done)
            )) ; (focus (first | rfl | assumption | omega)) ; (focus (first | rfl | assumption)) ; (try dsimp only))
            ))
            )
          all_goals (conv => whnf)
          all_goals (try dsimp only)
          refine RLoad_ok (h5.hR.keepN (by (repeat (first
                | exact Gr.refl _ _
                | refine Gr.setNew ?_ (by first | exact Nat.le_refl _ | (simp only [newB_length, List.length_set, List.length_append, List.length_singleton]; omega) | omega) _
                | refine Gr.addN ?_ _
                )))) (by rw [hrS]; omega) At N _ (fun q => absurd q hkR) (fun _ => ?_)
          rw [hkE]
          repeat' (first
            | ((conv => whnf) <;> (first
            | (with_reducible refine rowsR_nils ?_)
            ))
            )
          all_goals (conv => whnf)
          all_goals (try dsimp only)
          refine bytesR_intro (s := []) rfl ?_
          repeat' (first
            | ((conv => whnf) <;> (first
            | (with_reducible refine rowsR_nils ?_)
            ))
            )
          all_goals (conv => whnf)
          all_goals (try dsimp only)
          refine bytesR_intro (s := []) rfl ?_
          repeat' (first
            | ((with_reducible refine Side.intro ?_) <;> (first
            | omega
            | exact Nat.le_of_ble_eq_true rfl
            | exact rfl
            ))
            | ((conv => whnf) <;> (first
            | (with_reducible refine and_side ?_ ?_)
            | (with_reducible refine Br.yes rfl ?_)
            ))
            )
          all_goals (conv => whnf)
          all_goals (try dsimp only)
          refine Owned_one get_new (Own.nil _ _) (by simp [AV.bid]) _ fun σ8 hg8 => ?_
          have h8 : TwoD σ8 a rb d r s.length := (h5.keepN (by (repeat (first
                | exact Gr.refl _ _
                | refine Gr.setNew ?_ (by first | exact Nat.le_refl _ | (simp only [newB_length, List.length_set, List.length_append, List.length_singleton]; omega) | omega) _
                | refine Gr.addN ?_ _
                )))).keepP hg8 fun id _ q e => by cases e
          clear hg8 h5
          repeat' (first
            | ((conv => whnf) <;> (first
            | (with_reducible refine and_same ?_)
            | ((with_reducible apply Br.no) ; (focus omega))
            ))
            )
          all_goals (conv => whnf)
          all_goals (try dsimp only)
          refine tells_ok h8.hD h8.hd h8.hR h8.hr _ fun σ11 hg11 => ?_
          replace h8 := h8.keepN hg11
          skip
          all_goals (conv => whnf)
          all_goals (try dsimp only)
          refine tells_ok h8.hD h8.hd h8.hR h8.hr _ fun σ12 hg12 => ?_
          replace h8 := h8.keepN hg12
          repeat' (first
            | ((conv => whnf) <;> (first
            | (with_reducible refine and_same ?_)
            | ((with_reducible apply Br.yes) ; (focus omega))
            ))
            )
          all_goals (conv => whnf)
          all_goals (try dsimp only)
          exact ⟨(i + 1, d, rb, r, σ12), rfl, rfl, ⟨by dsimp only; omega, h8, rfl⟩, by dsimp only; omega⟩
      by_cases d1 : Do = 1
      · subst d1
        repeat' (first
          | ((with_reducible refine Side.intro ?_) <;> (first
          | omega
          | exact Nat.le_of_ble_eq_true rfl
          | exact rfl
          ))
          | ((conv => whnf) <;> (first
          | (with_reducible refine and_same ?_)
          | (with_reducible refine and_side ?_ ?_)
          | (with_reducible refine Br.yes rfl ?_)
          | ((with_reducible apply Br.yes) ; (focus omega))
          | ((with_reducible apply Br.no) ; (focus omega))
          | ((with_reducible apply blkAt_step) ; (focus (first
          | ((repeat (first
          | exact get_new
          | exact get_set get_new
          )); done)
          )) ; (focus (first | rfl | assumption | omega)) ; (focus (first | rfl | assumption)) ; (try dsimp only))
          | ((with_reducible apply nthR_act) ; (focus assumption))
          | (with_reducible refine ia_sl ?_ ?_)
          | (with_reducible refine lenR_sl ?_)
          ))
          )
        all_goals (conv => whnf)
        all_goals (try dsimp only)
        refine Lent_call B false (by omega) _ fun σ6 il hg6 hil hb6 => ?_
        have g6 : Gr τ σ6 none := Gr.trans (by (repeat (first
              | exact Gr.refl _ _
              | refine Gr.setNew ?_ (by first | exact Nat.le_refl _ | (simp only [newB_length, List.length_set, List.length_append, List.length_singleton]; omega) | omega) _
              | refine Gr.addN ?_ _
              ))) hg6
        have vb6 := hg6.2 τ.length _ (get_set get_new) (by simp)
        have hil0 : τ.length + 1 ≤ il := by simpa [newB] using hil
        replace h5 := h5.keepN g6
        have hin : Own σ6 1 (.rsl il 0 0 B.length none) (bs B) := Own.mk' (sp := bs [77]) hb6 (by rw [bs_length]) (by rw [bs_append])
        repeat' (first
          | ((conv => whnf) <;> (first
          | ((with_reducible apply blkAt_step) ; (focus (first
          | ((repeat (first
          | assumption
          )); done)
          )) ; (focus (first | rfl | assumption | omega)) ; (focus (first | rfl | assumption)) ; (try dsimp only))
          ))
          )
        all_goals (conv => whnf)
        all_goals (try dsimp only)
        refine Store_ok h5.hD (by omega) h5.hd.ok.arm At (.own hin) (fun id q e => by cases e; have := hlt5 _ (.inl q); omega) hcB _ fun σ7 hD7 hg7 => ?_
        have hb7 := hg7.2 _ _ hb6 fun q => by have := hlt5 _ (.inl q); omega
        have vb7 := hg7.2 _ _ vb6 fun q => by have := hlt5 _ (.inl q); omega
        have hR7 := h5.hR.keep hg7 fun id q r => h5.ap id r q
        have hin7 : Own σ7 1 (.rsl il 0 0 B.length none) (bs B) := Own.mk' (sp := bs [77]) hb7 (by rw [bs_length]) (by rw [bs_append])
        repeat' (first
          | ((conv => whnf) <;> (first
          | ((with_reducible apply blkAt_step) ; (focus (first
          | ((repeat (first
          | assumption
          )); done)
          )) ; (focus (first | rfl | assumption | omega)) ; (focus (first | rfl | assumption)) ; (try dsimp only))
          ))
          )
        all_goals (conv => whnf)
        all_goals (try dsimp only)
        refine Kept_val _ B il 0 [] false (by omega) hb7 _ ?_
        repeat' (first
          | ((with_reducible refine Side.intro ?_) <;> (first
          | omega
          | exact Nat.le_of_ble_eq_true rfl
          | exact rfl
          ))
          | ((conv => whnf) <;> (first
          | (with_reducible refine and_side ?_ ?_)
          ))
          )
        all_goals (conv => whnf)
        all_goals (try dsimp only)
        refine Owned_one get_new (hin7.keepN (by (repeat (first
              | exact Gr.refl _ _
              | refine Gr.addN ?_ _
              )))) (bid_ne hin7 (Nat.le_refl _)) _ fun σ8 hg8 => ?_
        have q78 : Gr σ7 (newB σ7 1 [[.rsl il 0 0 B.length none]] false) none := by (repeat (first
              | exact Gr.refl _ _
              | refine Gr.addN ?_ _
              ))
        have hD8 := (hD7.keepN q78).keep hg8 fun id q e => by
          have := hlt5 _ (.inl q); cases e; omega
        have hR8 := (hR7.keepN q78).keep hg8 fun id q e => by
          have := hlt5 _ (.inr q); cases e; omega
        have vb8 := hg8.2 _ _ (q78.2 _ _ vb7 (by simp)) fun e => by cases e; omega
        clear hg8 hin hin7 hb7 hb6 hD7 hR7 vb6 vb7
        repeat' (first
          | ((conv => whnf) <;> (first
          | ((with_reducible apply blkAt_step) ; (focus (first
          | ((repeat (first
          | assumption
          )); done)
          )) ; (focus (first | rfl | assumption | omega)) ; (focus (first | rfl | assumption)) ; (try dsimp only))
          ))
          )
        all_goals (conv => whnf)
        all_goals (try dsimp only)
        refine RStore_ok hR8 h5.hr h5.hd At (.sl _ rfl) (fun _ _ q => by cases q) hcB _ fun σ9 r9 hR9 hr9 hg9 => ?_
        have h9 : TwoD σ9 a rb (storeD d At B).2 r9 s.length := ⟨hD8.keep hg9 (fun id q r => h5.ap id q r), h5.hd.store At B, hR9, hr9, h5.ap, by rw [store_len]; exact h5.len⟩
        clear hR9 hD8 hR8 hg9 vb8
        repeat' (first
          | ((conv => whnf) <;> (first
          | (with_reducible refine and_same ?_)
          | ((with_reducible apply Br.no) ; (focus omega))
          ))
          )
        all_goals (conv => whnf)
        all_goals (try dsimp only)
        refine tells_ok h9.hD h9.hd h9.hR h9.hr _ fun σ11 hg11 => ?_
        replace h9 := h9.keepN hg11
        skip
        all_goals (conv => whnf)
        all_goals (try dsimp only)
        refine tells_ok h9.hD h9.hd h9.hR h9.hr _ fun σ12 hg12 => ?_
        replace h9 := h9.keepN hg12
        repeat' (first
          | ((conv => whnf) <;> (first
          | (with_reducible refine and_same ?_)
          | ((with_reducible apply Br.yes) ; (focus omega))
          ))
          )
        all_goals (conv => whnf)
        all_goals (try dsimp only)
        exact ⟨(i + 1, (storeD d At B).2, rb, r9, σ12), rfl, rfl, ⟨by dsimp only; omega, h9, rfl⟩, by dsimp only; omega⟩
      by_cases d2 : Do = 2
      · subst d2
        repeat' (first
          | ((with_reducible refine Side.intro ?_) <;> (first
          | omega
          | exact Nat.le_of_ble_eq_true rfl
          | exact rfl
          ))
          | ((conv => whnf) <;> (first
          | (with_reducible refine and_same ?_)
          | (with_reducible refine and_side ?_ ?_)
          | (with_reducible refine Br.yes rfl ?_)
          | ((with_reducible apply Br.yes) ; (focus omega))
          | ((with_reducible apply Br.no) ; (focus omega))
          | ((with_reducible apply blkAt_step) ; (focus (first
          | ((repeat (first
          | exact get_new
          | exact get_set get_new
          )); done)
          )) ; (focus (first | rfl | assumption | omega)) ; (focus (first | rfl | assumption)) ; (try dsimp only))
          | ((with_reducible apply nthR_act) ; (focus assumption))
          | (with_reducible refine ia_sl ?_ ?_)
          | (with_reducible refine lenR_sl ?_)
          ))
          )
        all_goals (conv => whnf)
        all_goals (try dsimp only)
        refine Flush_ok (h5.hD.keepN (by (repeat (first
              | exact Gr.refl _ _
              | refine Gr.setNew ?_ (by first | exact Nat.le_refl _ | (simp only [newB_length, List.length_set, List.length_append, List.length_singleton]; omega) | omega) _
              | refine Gr.addN ?_ _
              )))) (by omega) h5.hd.ok.arm At N _ fun σ7 hD7 hg7 => ?_
        have vb7 := hg7.2 τ.length _ (get_set get_new) fun q => by have := hlt5 _ (.inl q); omega
        have hR7 := (h5.hR.keepN (by (repeat (first
              | exact Gr.refl _ _
              | refine Gr.setNew ?_ (by first | exact Nat.le_refl _ | (simp only [newB_length, List.length_set, List.length_append, List.length_singleton]; omega) | omega) _
              | refine Gr.addN ?_ _
              )))).keep hg7 fun id q r => h5.ap id r q
        repeat' (first
          | ((conv => whnf) <;> (first
          | (with_reducible refine and_side ?_ ?_)
          ))
          )
        all_goals (conv => whnf)
        all_goals (try dsimp only)
        any_goals exact Side.sh (get_set get_new) vb7
        any_goals exact Side.co (get_set get_new) vb7
        refine RFlush_ok hR7 h5.hr h5.hd At N _ fun σ9 r9 hR9 hr9 hg9 => ?_
        have h9 : TwoD σ9 a rb ((flushD d At N).2) (r9) s.length := ⟨hD7.keep hg9 (fun id q r => h5.ap id q r), h5.hd.flush At N, hR9, hr9, h5.ap, by rw [flush_len]; exact h5.len⟩
        clear hR9 hD7 hg9 vb7
        repeat' (first
          | ((conv => whnf) <;> (first
          | (with_reducible refine and_same ?_)
          | ((with_reducible apply Br.no) ; (focus omega))
          ))
          )
        all_goals (conv => whnf)
        all_goals (try dsimp only)
        refine tells_ok h9.hD h9.hd h9.hR h9.hr _ fun σ11 hg11 => ?_
        replace h9 := h9.keepN hg11
        skip
        all_goals (conv => whnf)
        all_goals (try dsimp only)
        refine tells_ok h9.hD h9.hd h9.hR h9.hr _ fun σ12 hg12 => ?_
        replace h9 := h9.keepN hg12
        repeat' (first
          | ((conv => whnf) <;> (first
          | (with_reducible refine and_same ?_)
          | ((with_reducible apply Br.yes) ; (focus omega))
          ))
          )
        all_goals (conv => whnf)
        all_goals (try dsimp only)
        exact ⟨(i + 1, (flushD d At N).2, rb, r9, σ12), rfl, rfl, ⟨by dsimp only; omega, h9, rfl⟩, by dsimp only; omega⟩
      by_cases d3 : Do = 3
      · subst d3
        repeat' (first
          | ((with_reducible refine Side.intro ?_) <;> (first
          | omega
          | exact Nat.le_of_ble_eq_true rfl
          | exact rfl
          ))
          | ((conv => whnf) <;> (first
          | (with_reducible refine and_same ?_)
          | (with_reducible refine and_side ?_ ?_)
          | (with_reducible refine Br.yes rfl ?_)
          | ((with_reducible apply Br.yes) ; (focus omega))
          | ((with_reducible apply Br.no) ; (focus omega))
          | ((with_reducible apply blkAt_step) ; (focus (first
          | ((repeat (first
          | exact get_new
          | exact get_set get_new
          )); done)
          )) ; (focus (first | rfl | assumption | omega)) ; (focus (first | rfl | assumption)) ; (try dsimp only))
          | ((with_reducible apply nthR_act) ; (focus assumption))
          | (with_reducible refine ia_sl ?_ ?_)
          | (with_reducible refine lenR_sl ?_)
          ))
          )
        all_goals (conv => whnf)
        all_goals (try dsimp only)
        refine Fence_ok (h5.hD.keepN (by (repeat (first
              | exact Gr.refl _ _
              | refine Gr.setNew ?_ (by first | exact Nat.le_refl _ | (simp only [newB_length, List.length_set, List.length_append, List.length_singleton]; omega) | omega) _
              | refine Gr.addN ?_ _
              )))) h5.hd.ok _ fun σ7 hD7 hg7 => ?_
        have vb7 := hg7.2 τ.length _ (get_set get_new) fun q => by have := hlt5 _ (.inl q); omega
        have hR7 := (h5.hR.keepN (by (repeat (first
              | exact Gr.refl _ _
              | refine Gr.setNew ?_ (by first | exact Nat.le_refl _ | (simp only [newB_length, List.length_set, List.length_append, List.length_singleton]; omega) | omega) _
              | refine Gr.addN ?_ _
              )))).keep hg7 fun id q r => h5.ap id r q
        skip
        all_goals (conv => whnf)
        all_goals (try dsimp only)
        refine RFence_ok hR7 h5.hr h5.hd _ fun σ9 r9 hR9 hr9 hg9 => ?_
        have h9 : TwoD σ9 a rb ((fenceD d).2) (r9) s.length := ⟨hD7.keep hg9 (fun id q r => h5.ap id q r), h5.hd.fence, hR9, hr9, h5.ap, by rw [fence_len h5.hd]; exact h5.len⟩
        clear hR9 hD7 hg9 vb7
        repeat' (first
          | ((conv => whnf) <;> (first
          | (with_reducible refine and_same ?_)
          | ((with_reducible apply Br.no) ; (focus omega))
          ))
          )
        all_goals (conv => whnf)
        all_goals (try dsimp only)
        refine tells_ok h9.hD h9.hd h9.hR h9.hr _ fun σ11 hg11 => ?_
        replace h9 := h9.keepN hg11
        skip
        all_goals (conv => whnf)
        all_goals (try dsimp only)
        refine tells_ok h9.hD h9.hd h9.hR h9.hr _ fun σ12 hg12 => ?_
        replace h9 := h9.keepN hg12
        repeat' (first
          | ((conv => whnf) <;> (first
          | (with_reducible refine and_same ?_)
          | ((with_reducible apply Br.yes) ; (focus omega))
          ))
          )
        all_goals (conv => whnf)
        all_goals (try dsimp only)
        exact ⟨(i + 1, (fenceD d).2, rb, r9, σ12), rfl, rfl, ⟨by dsimp only; omega, h9, rfl⟩, by dsimp only; omega⟩
      by_cases d4 : Do = 4
      · subst d4
        repeat' (first
          | ((with_reducible refine Side.intro ?_) <;> (first
          | omega
          | exact Nat.le_of_ble_eq_true rfl
          | exact rfl
          ))
          | ((conv => whnf) <;> (first
          | (with_reducible refine and_same ?_)
          | (with_reducible refine and_side ?_ ?_)
          | (with_reducible refine Br.yes rfl ?_)
          | ((with_reducible apply Br.yes) ; (focus omega))
          | ((with_reducible apply Br.no) ; (focus omega))
          | ((with_reducible apply blkAt_step) ; (focus (first
          | ((repeat (first
          | exact get_new
          | exact get_set get_new
          )); done)
          )) ; (focus (first | rfl | assumption | omega)) ; (focus (first | rfl | assumption)) ; (try dsimp only))
          | ((with_reducible apply nthR_act) ; (focus assumption))
          | (with_reducible refine ia_sl ?_ ?_)
          | (with_reducible refine lenR_sl ?_)
          ))
          )
        all_goals (conv => whnf)
        all_goals (try dsimp only)
        refine Arm_ok (h5.hD.keepN (by (repeat (first
              | exact Gr.refl _ _
              | refine Gr.setNew ?_ (by first | exact Nat.le_refl _ | (simp only [newB_length, List.length_set, List.length_append, List.length_singleton]; omega) | omega) _
              | refine Gr.addN ?_ _
              )))) N _ fun σ7 hD7 hg7 => ?_
        have vb7 := hg7.2 τ.length _ (get_set get_new) fun q => by have := hlt5 _ (.inl q); omega
        have hR7 := (h5.hR.keepN (by (repeat (first
              | exact Gr.refl _ _
              | refine Gr.setNew ?_ (by first | exact Nat.le_refl _ | (simp only [newB_length, List.length_set, List.length_append, List.length_singleton]; omega) | omega) _
              | refine Gr.addN ?_ _
              )))).keep hg7 fun id q r => h5.ap id r q
        repeat' (first
          | ((conv => whnf) <;> (first
          | ((with_reducible apply blkAt_step) ; (focus (first
          | ((repeat (first
          | assumption
          )); done)
          )) ; (focus (first | rfl | assumption | omega)) ; (focus (first | rfl | assumption)) ; (try dsimp only))
          ))
          )
        all_goals (conv => whnf)
        all_goals (try dsimp only)
        refine RArm_ok hR7 N _ fun σ9 hR9 hg9 => ?_
        have hr9 : RD { d with armed := max N 0 } { r with armed := max N 0 } := ⟨h5.hr.L, h5.hr.S, rfl, h5.hr.down, h5.hr.dl, h5.hr.fl, h5.hr.at'⟩
        have h9 : TwoD σ9 a rb ({ d with armed := max N 0 }) ({ r with armed := max N 0 }) s.length := ⟨hD7.keep hg9 (fun id q r => h5.ap id q r), h5.hd.arm hcN, hR9, hr9, h5.ap, h5.len⟩
        clear hR9 hD7 hg9 vb7
        skip
        all_goals (conv => whnf)
        all_goals (try dsimp only)
        refine tells_ok h9.hD h9.hd h9.hR h9.hr _ fun σ11 hg11 => ?_
        replace h9 := h9.keepN hg11
        skip
        all_goals (conv => whnf)
        all_goals (try dsimp only)
        refine tells_ok h9.hD h9.hd h9.hR h9.hr _ fun σ12 hg12 => ?_
        replace h9 := h9.keepN hg12
        repeat' (first
          | ((conv => whnf) <;> (first
          | (with_reducible refine and_same ?_)
          | ((with_reducible apply Br.yes) ; (focus omega))
          ))
          )
        all_goals (conv => whnf)
        all_goals (try dsimp only)
        exact ⟨(i + 1, { d with armed := max N 0 }, rb, { r with armed := max N 0 }, σ12), rfl, rfl, ⟨by dsimp only; omega, h9, rfl⟩, by dsimp only; omega⟩
      by_cases d5 : Do = 5
      · subst d5
        repeat' (first
          | ((with_reducible refine Side.intro ?_) <;> (first
          | omega
          | exact Nat.le_of_ble_eq_true rfl
          | exact rfl
          ))
          | ((conv => whnf) <;> (first
          | (with_reducible refine and_same ?_)
          | (with_reducible refine and_side ?_ ?_)
          | (with_reducible refine Br.yes rfl ?_)
          | ((with_reducible apply Br.yes) ; (focus omega))
          | ((with_reducible apply Br.no) ; (focus omega))
          | ((with_reducible apply blkAt_step) ; (focus (first
          | ((repeat (first
          | exact get_new
          | exact get_set get_new
          )); done)
          )) ; (focus (first | rfl | assumption | omega)) ; (focus (first | rfl | assumption)) ; (try dsimp only))
          | ((with_reducible apply nthR_act) ; (focus assumption))
          | (with_reducible refine ia_sl ?_ ?_)
          | (with_reducible refine lenR_sl ?_)
          ))
          )
        all_goals (conv => whnf)
        all_goals (try dsimp only)
        refine Crash_ok (h5.hD.keepN (by (repeat (first
              | exact Gr.refl _ _
              | refine Gr.setNew ?_ (by first | exact Nat.le_refl _ | (simp only [newB_length, List.length_set, List.length_append, List.length_singleton]; omega) | omega) _
              | refine Gr.addN ?_ _
              )))) h5.hd.ok (.sl _ rfl) hcK (fun _ _ q => by cases q) _ fun σ7 hD7 hg7 => ?_
        have vb7 := hg7.2 τ.length _ (get_set get_new) fun q => by have := hlt5 _ (.inl q); omega
        have hR7 := (h5.hR.keepN (by (repeat (first
              | exact Gr.refl _ _
              | refine Gr.setNew ?_ (by first | exact Nat.le_refl _ | (simp only [newB_length, List.length_set, List.length_append, List.length_singleton]; omega) | omega) _
              | refine Gr.addN ?_ _
              )))).keep hg7 fun id q r => h5.ap id r q
        repeat' (first
          | ((conv => whnf) <;> (first
          | ((with_reducible apply blkAt_step) ; (focus (first
          | ((repeat (first
          | assumption
          )); done)
          )) ; (focus (first | rfl | assumption | omega)) ; (focus (first | rfl | assumption)) ; (try dsimp only))
          ))
          )
        all_goals (conv => whnf)
        all_goals (try dsimp only)
        refine RCrash_ok hR7 h5.hr h5.hd (fun e => by have := h5.len; rw [e] at this; simp at this; omega) (.sl _ rfl) hcK (fun _ _ q => by cases q) _ fun σ9 rc r9 hi9 hn9 hR9 hr9 hg9 => ?_
        have hap9 : ∀ id, a.has id → ¬ rc.has id := fun id q r => by
          rcases hn9 id r with w | w
          · exact h5.ap id q w
          · have := hD7.lt id q
            omega
        have h9 : TwoD σ9 a rc (crashD K d) (r9) s.length := ⟨hD7.keep hg9 (fun id q r => h5.ap id q r), h5.hd.crash K, hR9, hr9, hap9, by rw [crash_len h5.hd]; exact h5.len⟩
        clear hR9 hD7 hg9 vb7
        skip
        all_goals (conv => whnf)
        all_goals (try dsimp only)
        rw [← hi9]
        refine tells_ok h9.hD h9.hd h9.hR h9.hr _ fun σ11 hg11 => ?_
        replace h9 := h9.keepN hg11
        skip
        all_goals (conv => whnf)
        all_goals (try dsimp only)
        refine tells_ok h9.hD h9.hd h9.hR h9.hr _ fun σ12 hg12 => ?_
        replace h9 := h9.keepN hg12
        repeat' (first
          | ((conv => whnf) <;> (first
          | (with_reducible refine and_same ?_)
          | ((with_reducible apply Br.yes) ; (focus omega))
          ))
          )
        all_goals (conv => whnf)
        all_goals (try dsimp only)
        exact ⟨(i + 1, crashD K d, rc, r9, σ12), rfl, rfl, ⟨by dsimp only; omega, h9, rfl⟩, by dsimp only; omega⟩
      · repeat' (first
          | ((with_reducible refine Side.intro ?_) <;> (first
          | omega
          | exact Nat.le_of_ble_eq_true rfl
          | exact rfl
          ))
          | ((conv => whnf) <;> (first
          | (with_reducible refine and_same ?_)
          | (with_reducible refine and_side ?_ ?_)
          | ((with_reducible apply Br.yes) ; (focus omega))
          | ((with_reducible apply Br.no) ; (focus omega))
          | ((with_reducible apply blkAt_step) ; (focus (first
          | ((repeat (first
          | exact get_new
          | exact get_set get_new
          )); done)
          )) ; (focus (first | rfl | assumption | omega)) ; (focus (first | rfl | assumption)) ; (try dsimp only))
          | ((with_reducible apply nthR_act) ; (focus assumption))
          | (with_reducible refine ia_sl ?_ ?_)
          | (with_reducible refine lenR_sl ?_)
          ))
          )
        all_goals (conv => whnf)
        all_goals (try dsimp only)
        refine tells_ok (h5.hD.keepN (by (repeat (first
              | exact Gr.refl _ _
              | refine Gr.setNew ?_ (by first | exact Nat.le_refl _ | (simp only [newB_length, List.length_set, List.length_append, List.length_singleton]; omega) | omega) _
              | refine Gr.addN ?_ _
              )))) h5.hd (h5.hR.keepN (by (repeat (first
              | exact Gr.refl _ _
              | refine Gr.setNew ?_ (by first | exact Nat.le_refl _ | (simp only [newB_length, List.length_set, List.length_append, List.length_singleton]; omega) | omega) _
              | refine Gr.addN ?_ _
              )))) h5.hr _ fun σ11 hg11 => ?_
        have h9 := h5.keepN (Gr.trans (by (repeat (first
              | exact Gr.refl _ _
              | refine Gr.setNew ?_ (by first | exact Nat.le_refl _ | (simp only [newB_length, List.length_set, List.length_append, List.length_singleton]; omega) | omega) _
              | refine Gr.addN ?_ _
              ))) hg11)
        skip
        all_goals (conv => whnf)
        all_goals (try dsimp only)
        refine tells_ok h9.hD h9.hd h9.hR h9.hr _ fun σ12 hg12 => ?_
        replace h9 := h9.keepN hg12
        repeat' (first
          | ((conv => whnf) <;> (first
          | (with_reducible refine and_same ?_)
          | ((with_reducible apply Br.yes) ; (focus omega))
          ))
          )
        all_goals (conv => whnf)
        all_goals (try dsimp only)
        exact ⟨(i + 1, d, rb, r, σ12), rfl, rfl, ⟨by dsimp only; omega, h9, rfl⟩, by dsimp only; omega⟩
    · have hlt' : ac.length ≤ i ∨ 60 ≤ i := by omega
      repeat' (first
        | ((with_reducible refine Side.intro ?_) <;> (first
        | (simp only [List.append_nil, List.nil_append, List.map_nil]; first | exact List.nodup_nil | exact nodup_bid1 _ | exact nodup_bid2 (by assumption))
        | ((first | refine fresh_tup ?_ | skip); (repeat (first |  exact FreshA.sl _ _ FreshA_bs | exact FreshA.sl _ _ FreshA_is | exact FreshA.nils | exact FreshA.nilp | exact FreshA.int _ _ | exact FreshA.bool _ | exact FreshA.str _ | exact fresh_nil | refine fresh_cons ?_ ?_ | with_reducible refine fresh_aggR ?_ | with_reducible refine fresh_agg ?_ | with_reducible exact fresh_nilA | with_reducible refine fresh_consA ?_ ?_)); done)
        ))
        | ((conv => whnf) <;> (first
        | (with_reducible refine and_same ?_)
        | (with_reducible refine and_side ?_ ?_)
        | ((with_reducible apply Br.no) ; (focus omega))
        | (with_reducible refine Br.mk (fun _ => ?_) (fun _ => ?_))
        | (with_reducible refine NOut.lit ?_)
        | (with_reducible refine lenR_sl ?_)
        ))
        )
      all_goals (conv => whnf)
      all_goals (try dsimp only)
      all_goals exact ret_bool rfl
  · intro hG σ3 hg3
    have hblk3 := hg3.2 _ _ hblk (by simp)
    have hin3 := hin.keepN hg3
    skip
    all_goals (conv => whnf)
    all_goals (try dsimp only)
    refine Kept_val _ s _ _ [] false (by omega) hblk3 _ ?_
    repeat' (first
      | ((with_reducible refine Side.intro ?_) <;> (first
      | omega
      | exact Nat.le_of_ble_eq_true rfl
      | exact rfl
      ))
      | ((conv => whnf) <;> (first
      | (with_reducible refine and_side ?_ ?_)
      ))
      )
    all_goals (conv => whnf)
    all_goals (try dsimp only)
    refine Owned_one get_new (hin3.keepN (by (repeat (first
          | exact Gr.refl _ _
          | refine Gr.addN ?_ _
          )))) (bid_ne hin3 (Nat.le_refl _)) _ fun σ4 hg4 => ?_
    skip
    all_goals (conv => whnf)
    all_goals (try dsimp only)
    refine RNew_ok (s := s) (.sl false rfl) hs _ (fun q => absurd q hG) fun _ σ5 hg5 => ?_
    repeat' (first
      | ((with_reducible refine Side.intro ?_) <;> (first
      | (simp only [List.append_nil, List.nil_append, List.map_nil]; first | exact List.nodup_nil | exact nodup_bid1 _ | exact nodup_bid2 (by assumption))
      | ((first | refine fresh_tup ?_ | skip); (repeat (first |  exact FreshA.sl _ _ FreshA_bs | exact FreshA.sl _ _ FreshA_is | exact FreshA.nils | exact FreshA.nilp | exact FreshA.int _ _ | exact FreshA.bool _ | exact FreshA.str _ | exact fresh_nil | refine fresh_cons ?_ ?_ | with_reducible refine fresh_aggR ?_ | with_reducible refine fresh_agg ?_ | with_reducible exact fresh_nilA | with_reducible refine fresh_consA ?_ ?_)); done)
      ))
      | ((conv => whnf) <;> (first
      | (with_reducible refine and_same ?_)
      | (with_reducible refine and_side ?_ ?_)
      | ((with_reducible apply Br.yes) ; (focus omega))
      | ((with_reducible apply Br.no) ; (focus omega))
      | ((with_reducible apply Br.no) ; (focus assumption))
      | (with_reducible refine NOut.lit ?_)
      ))
      )
    all_goals (conv => whnf)
    all_goals (try dsimp only)
    exact ret_bool rfl
end Go.Proofs.Ythakanioekmhbaa
