import Derived.Test.YtlhogahibillpaaPref04
import Derived.Test.YtlhogahibillpaaPnest
namespace Go.Proofs.Ytlhogahibillpaa
open Go Go.Proofs.Ytlhogahibillpaa.V
set_option maxRecDepth 20000
attribute [local irreducible] CallS AOK AOKn ALoop Side Ref.ok
/-! Changes that stand as the call's own memory. -/
def crow (L : List Int) (xs : List AV) : List (List AV) := List.zipWith (fun n x => [.int .i64 n, x]) L xs
theorem crow_length {L : List Int} {xs : List AV} (h : xs.length = L.length) : (crow L xs).length = L.length := by simp [crow, h]
theorem crow_snoc {L : List Int} {xs : List AV} {n : Int} {x : AV} (h : xs.length = L.length) : crow (L ++ [n]) (xs ++ [x]) = crow L xs ++ [[.int .i64 n, x]] := by
  unfold crow
  rw [List.zipWith_append h.symm]
  rfl
theorem crow_get {L : List Int} {xs : List AV} {j : Nat} {n : Int} {x : AV} (h1 : L[j]? = some n) (h2 : xs[j]? = some x) : (crow L xs)[j]? = some [.int .i64 n, x] := by
  unfold crow
  rw [List.getElem?_zipWith, h1, h2]
theorem crow_mem {L : List Int} {xs : List AV} {r : List AV} (h : r ∈ crow L xs) : ∃ n x, x ∈ xs ∧ r = [.int .i64 n, x] := by
  unfold crow at h
  obtain ⟨j, hj⟩ := List.mem_iff_getElem?.1 h
  rw [List.getElem?_zipWith] at hj
  cases h1 : L[j]? <;> cases h2 : xs[j]? <;> rw [h1, h2] at hj <;> simp at hj
  exact ⟨_, _, List.mem_of_getElem? h2, hj.symm⟩
def dfB (s t : List UInt8) : Bool := decide (s.length ≠ t.length ∨ s.length % 64 ≠ 0)
def dfL (s t : List UInt8) : List (Int × List UInt8) := if dfB s t then [] else diffs s t (s.length / 64)
def dfE (s t : List UInt8) : Int := if dfB s t then 1 else 0
/-- What Diff answers. -/
def DfH (s t : List UInt8) (y : AV) (τ : AH) : Prop := ∃ a xs, y = .tup [a, .int .i64 (dfE s t)] ∧ NestR τ 2 a (crow ((dfL s t).map (·.1)) xs) ∧ Sep τ xs ((dfL s t).map (·.2)) ∧ Off a xs
theorem DfH.bad {s t : List UInt8} (h : s.length ≠ t.length ∨ s.length % 64 ≠ 0) (τ : AH) : DfH s t (.tup [.nils, .int .i64 1]) τ := by
  have e : dfB s t = true := decide_eq_true h
  have e1 : dfL s t = [] := by rw [dfL, e]; rfl
  exact ⟨.nils, [], by rw [dfE, e]; rfl, by rw [e1]; exact NestR.nil _ _, by rw [e1]; exact Sep.nil _, fun y hy => by simp at hy⟩
theorem crow_set {L : List Int} {xs : List AV} {i : Nat} {n : Int} {x : AV} (hl : xs.length = L.length) (h : xs[i]? = some x) : (crow L xs).set i [.int .i64 n, x] = crow (L.set i n) xs := by
  have hi := (List.getElem?_eq_some_iff.1 h).1
  apply List.ext_getElem?
  intro j
  by_cases e : i = j
  · subst e
    rw [List.getElem?_set_self (by rw [crow_length hl]; omega), crow_get (List.getElem?_set_self (by omega)) h]
  · rw [List.getElem?_set_ne e]
    unfold crow
    rw [List.getElem?_zipWith, List.getElem?_zipWith, List.getElem?_set_ne e]
theorem crow_sh (n : Nat) (L : List Int) (xs : List AV) : (crow L xs).map (fun r => r.map (shA n)) = crow L (xs.map (shA n)) := by
  unfold crow
  rw [List.map_zipWith, List.zipWith_map_right]
  rfl
theorem crow_fs {L : List Int} {xs : List AV} (h : ∀ x, x ∈ xs → FreshS x) : ∀ r, r ∈ crow L xs → ∀ x, x ∈ r → FreshS x := by
  intro r hr x hx
  obtain ⟨n, y, hy, rfl⟩ := crow_mem hr
  simp only [List.mem_cons, List.not_mem_nil, or_false] at hx
  rcases hx with rfl | rfl
  · exact .fresh (.int _ _)
  · exact h _ hy
theorem looks_crow {σ : AH} : ∀ {L : List (Int × List UInt8)} {xs : List AV}, xs.length = L.length → (∀ (j : Nat) (x : AV) (d : List UInt8), xs[j]? = some x → (L.map (·.2))[j]? = some d → Own σ 1 x (bs d)) → LooksVL σ (crow (L.map (·.1)) xs).flatten (chg false L).flatten
  | [], [], _, _ => .nil
  | [], d :: D, h, _ => by cases h
  | x :: xs, [], h, _ => by cases h
  | p :: L, x :: xs, h, ho => by
    have e1 : (crow ((p :: L).map (·.1)) (x :: xs)).flatten = .int .i64 p.1 :: x :: (crow (L.map (·.1)) xs).flatten := rfl
    have e2 : (chg false (p :: L)).flatten = .int .i64 p.1 :: .sl 1 (bs p.2) false :: (chg false L).flatten := rfl
    rw [e1, e2]
    refine .cons (.flat (Looks.int _ _ _) rfl) (.cons (.sl (.ownbs (ho 0 x p.2 rfl rfl))) (looks_crow (by simpa using h) fun j y e h1 h2 => ho (j + 1) y e (by simpa using h1) (by simpa using h2)))
theorem NestR.looksC {σ : AH} {a : AV} {xs : List AV} {L : List (Int × List UInt8)} (h : NestR σ 2 a (crow (L.map (·.1)) xs)) (hs : Sep σ xs (L.map (·.2))) : Looks σ a (.sl 2 (chg false L) false) := by
  have hl : xs.length = L.length := by rw [hs.len, List.length_map]
  refine NestR.looks h (by rw [chg_length, crow_length (by rw [hl, List.length_map]), List.length_map]) ?_ (looks_crow hl hs.own)
  intro r hr
  simp only [chg, List.mem_map] at hr
  obtain ⟨p, _, rfl⟩ := hr
  rfl
theorem nthR_row {rows : List (List AV)} {i : Nat} {r : List AV} {K : List AV → Prop} (h : rows[i]? = some r) (hk : K r) : nthR rows (0 + (i : Int).toNat) K := nthR_intro (x := r) (by simpa using h) hk
theorem Diff_h (s t : List UInt8) (hs : s.length ≤ 4611686018427) (ht : t.length ≤ 4611686018427) : CallS Try.prog F.lines_Diff [.sl 1 (bs s) false, .sl 1 (bs t) false] [] (DfH s t) := by
  have hn := bs_length s
  have hm := bs_length t
  refine call_of_body mixed fc_lines_Diff_ok (by simp [fc_lines_Diff]) ?_
  repeat' (first
    | ((with_reducible refine Side.intro ?_) <;> (first
    | omega
    ))
    | ((conv => whnf) <;> (first
    | (with_reducible refine and_same ?_)
    | (with_reducible refine and_side ?_ ?_)
    | ((with_reducible apply Br.yes) ; (focus omega))
    | (with_reducible refine Br.mk (fun _ => ?_) (fun _ => ?_))
    | (with_reducible refine lenR_sl ?_)
    ))
    )
  all_goals (conv => whnf)
  all_goals (try dsimp only)
  · exact DfH.bad (.inl (by omega)) _
  · exact DfH.bad (.inr (by omega)) _
  · have hb : dfB s t = false := decide_eq_false (by omega)
    refine loop_at (α := Nat × AH × AV × List AV) (fun a => [(6, a.2.2.1), (23, .int .i64 a.1)]) (fun a => a.2.1)
      (fun a => a.1 ≤ s.length/64 ∧ NestR a.2.1 2 a.2.2.1 (crow ((diffs s t a.1).map (·.1)) a.2.2.2) ∧ Sep a.2.1 a.2.2.2 ((diffs s t a.1).map (·.2)) ∧ Off a.2.2.1 a.2.2.2) (fun a => s.length/64 - a.1) (0, [], .nils, []) ⟨by omega, NestR.nil _ _, Sep.nil _, fun y hy => by simp at hy⟩ rfl rfl ?_
    rintro ⟨i, σ, acc, xs⟩ ⟨hi, hacc, hsp, hoff⟩
    dsimp only at hi hacc hsp hoff ⊢
    have e1 : ((i : Int) * 64).toNat = i * 64 := by omega
    have e2 : (((i : Int) + 1) * 64).toNat = (i + 1) * 64 := by omega
    repeat' (first
      | ((conv => whnf) <;> (first
      | (with_reducible refine and_same ?_)
      | (with_reducible refine Br.mk (fun _ => ?_) (fun _ => ?_))
      ))
      )
    all_goals (conv => whnf)
    all_goals (try dsimp only)
    · refine line_val _ t false i (by omega) (by omega) (by omega) _ ?_
      skip
      all_goals (conv => whnf)
      all_goals (try dsimp only)
      refine line_val _ s false i (by omega) (by omega) (by omega) _ ?_
      skip
      all_goals (conv => whnf)
      all_goals (try dsimp only)
      refine bytes_Equal_val _ _ _ _ _ _ (fun he => ?_) (fun he => ?_)
      · repeat' (first
          | ((conv => whnf) <;> (first
          | (with_reducible refine and_same ?_)
          | ((with_reducible apply Br.yes) ; (focus omega))
          ))
          )
        all_goals (conv => whnf)
        all_goals (try dsimp only)
        refine ⟨(i + 1, σ, acc, xs), rfl, rfl, ⟨by omega, ?_⟩, by omega⟩
        rw [e1, e2] at he
        have he' : ln s i = ln t i := he
        dsimp only
        rw [diffs_succ, if_neg (by simpa using he'), List.append_nil]
        exact ⟨hacc, hsp, hoff⟩
      · skip
        all_goals (conv => whnf)
        all_goals (try dsimp only)
        refine (bytes_Clone_ok _ (by simp only [List.length_drop, List.length_take]; omega)).call (.cons (.bs _ _ _) .nil) ?_
        rintro _ x σ1 rfl hg hG
        obtain ⟨hx, hxb⟩ := hG.sl_inv
        rw [e1, e2] at hx he
        have hlt : (diffs s t i).length ≤ i := diffs_le s t i
        have hcl := crow_length (L := (diffs s t i).map (·.1)) (xs := xs) (by rw [hsp.len, List.length_map, List.length_map])
        rw [List.length_map] at hcl
        obtain ⟨ox1, ox2, ox3⟩ := hx.one
        have raw : UseRaw := ⟨⟩
        repeat' (first
          | ((with_reducible refine Side.intro ?_) <;> (first
          | omega
          | exact Nat.le_of_ble_eq_true rfl
          | exact rfl
          ))
          | ((conv => whnf) <;> (first
          | (with_reducible refine and_same ?_)
          | (with_reducible refine and_side ?_ ?_)
          | ((with_reducible apply blkAt_intro) ; (focus (first
          | ((repeat (first
          | exact get_new
          )); done)
          )) ; (focus (first | rfl | assumption | omega)) ; (try dsimp only))
          | ((with_reducible apply AppC.raw) ; (focus assumption))
          | (with_reducible refine rowsR_rsl ?_)
          ))
          )
        all_goals (conv => whnf)
        all_goals (try dsimp only)
        rotate_left
        · rw [ox1]; exact Side.intro rfl
        rw [ox1]
        have hxa : x.bid = none ∨ x.bid ≠ acc.bid := hacc.apart hxb
        have hl1 := (hg : Gr σ σ1 none).1
        have hrow : (AV.agg (lay (lay [AV.int IntKind.i64 0, AV.nils] 0 (AV.int IntKind.i64 ↑i).cells) 1 [x])).cells = [AV.int .i64 i, x] := rfl
        rw [hrow]
        generalize allFlatL ((List.replicate 1 [AV.int IntKind.i64 0, AV.nils]).set 0 [AV.int .i64 i, x]) = fl
        have hnew1 : Gr σ1 (newB σ1 2 [[AV.int .i64 i, x]] fl) none := Gr.append _ _
        have hnew : Gr σ (newB σ1 2 [[AV.int .i64 i, x]] fl) none := hg.trans hnew1
        refine NestR.append (row := [AV.int .i64 i, x]) (NestR.keepN hnew hacc) (by rw [hcl]; omega) (fun y hy => ?_) ?_
        · simp only [List.mem_cons, List.not_mem_nil, or_false] at hy
          rcases hy with rfl | rfl
          · exact ⟨fun id h => (by cases h), .inl rfl⟩
          · exact ⟨fun id h => (by have := hx.lt h; simp only [newB_length]; omega), hxa⟩
        intro acc' σ' ho' hg' hb'
        repeat' (first
          | ((conv => whnf) <;> (first
          | (with_reducible refine and_same ?_)
          | ((with_reducible apply Br.yes) ; (focus omega))
          ))
          )
        all_goals (conv => whnf)
        all_goals (try dsimp only)
        refine ⟨(i + 1, σ', acc', xs ++ [x]), rfl, rfl, ⟨by omega, ?_⟩, by omega⟩
        dsimp only
        have hdd : diffs s t (i + 1) = diffs s t i ++ [(Int.ofNat i, ln t i)] := by rw [diffs_succ, if_pos (by exact he)]
        rw [hdd, List.map_append, List.map_append]
        refine ⟨?_, ?_, ?_⟩
        · show NestR σ' 2 acc' (crow ((diffs s t i).map (·.1) ++ [Int.ofNat i]) (xs ++ [x]))
          rw [crow_snoc (by rw [hsp.len, List.length_map, List.length_map])]
          exact ho'
        · refine Sep.snoc ?_ ?_ ?_
          · exact Sep.keep (Sep.keepN hnew hsp) hg' hoff.keepd
          · exact Own.keep hg' (hx.keepN hnew1) (by rcases hxa with q | q; exact .inl q; exact .inr fun e => q e.symm)
          · exact hsp.apart hxb
        · rcases hb' with q | q
          · exact (hoff.snoc hxa).same q
          · refine Off.snoc (Off.new hsp q (by simp only [newB_length]; omega)) ?_
            rw [q]
            cases hb : x.bid with
            | none => exact .inl rfl
            | some a =>
              right
              intro e
              cases e
              have := hx.lt hb
              simp only [newB_length] at this
              omega
    · have hi' : i = s.length / 64 := by omega
      subst hi'
      exact ⟨acc, xs, by rw [dfE, hb]; rfl, by rw [dfL, hb]; exact hacc, by rw [dfL, hb]; exact hsp, hoff⟩
theorem Diff_call (s t : List UInt8) (hs : s.length ≤ 4611686018427) (ht : t.length ≤ 4611686018427) {σ : AH} {x y : AV} (hx : Looks σ x (.sl 1 (bs s) false)) (hy : Looks σ y (.sl 1 (bs t) false)) {Q : AV → AH → Prop}
    (h : ∀ σ' a xs, Gr σ σ' none → NestR σ' 2 a (crow ((dfL s t).map (·.1)) xs) → Sep σ' xs ((dfL s t).map (·.2)) → Off a xs → (∀ id, a.bid = some id → σ.length ≤ id) → (∀ y, y ∈ xs → ∀ id, y.bid = some id → σ.length ≤ id) → Q (.tup [a, .int .i64 (dfE s t)]) σ') : CallS Try.prog F.lines_Diff [x, y] σ Q := by
  refine CallS.lift (vs := [.sl 1 (bs s) false, .sl 1 (bs t) false]) (.cons hx (.cons hy .nil)) ((Diff_h s t hs ht).mono ?_)
  rintro _ τ ⟨a, xs, rfl, ha, hsp, ho⟩
  refine ⟨?_, fun τ' hh => ?_⟩
  · intro y hy
    simp only [List.mem_cons, List.not_mem_nil, or_false] at hy
    rcases hy with rfl | rfl
    · exact ha.fs
    · exact .fresh (.int _ _)
  · refine h (σ ++ τ') (shA σ.length a) (xs.map (shA σ.length)) (Gr.append _ _) ?_ (Sep.handed hh hsp) (ho.sh _) (shA_new _ _) ?_
    · rw [← crow_sh]
      exact NestR.handed hh ha (crow_fs hsp.fs)
    · intro y hy
      obtain ⟨z, _, rfl⟩ := List.mem_map.1 hy
      exact shA_new _ z
theorem Spoil_call {σ : AH} {a : AV} {L : List Int} {xs : List AV} {D : List (List UInt8)} (hb : L.length ≤ 4611686018427) (hl : xs.length = L.length) (ha : NestR σ 2 a (crow L xs)) (hs : Sep σ xs D) (Q : AV → AH → Prop) (h : ∀ σ', Q (.tup []) σ') : CallS Try.prog F.joistlaw04_Spoil [a] σ Q := by
  have hcl := crow_length hl
  refine call_of_body mixed fc_joistlaw04_Spoil_ok (by simp [fc_joistlaw04_Spoil]) ?_
  rcases ha with ⟨rfl, _⟩ | ⟨ia, ga, p, rfl, hbk, hne⟩
  · skip
    all_goals (conv => whnf)
    all_goals (try dsimp only)
    refine loop_at (α := Unit) (fun a => [(2, .int .i64 0)]) (fun a => σ) (fun a => True) (fun a => 0) () trivial rfl rfl ?_
    rintro ⟨⟩ _
    repeat' (first
      | ((conv => whnf) <;> (first
      | (with_reducible refine and_same ?_)
      | ((with_reducible apply Br.no) ; (focus omega))
      | (with_reducible refine lenR_nils ?_)
      ))
      )
    all_goals (conv => whnf)
    all_goals (try dsimp only)
    exact h _
  · have hne' : ∀ x, x ∈ xs → x.bid ≠ some ia := fun x hx => by
      obtain ⟨j, hj⟩ := List.mem_iff_getElem?.1 hx
      have hjl : j < L.length := by rw [← hl]; exact (List.getElem?_eq_some_iff.1 hj).1
      exact hne _ (List.mem_of_getElem? (crow_get (List.getElem?_eq_getElem hjl) hj)) x (by simp)
    skip
    all_goals (conv => whnf)
    all_goals (try dsimp only)
    refine loop_at (α := Nat × AH × List Int × Bool) (fun a => [(2, .int .i64 a.1)]) (fun a => a.2.1) (fun a => a.1 ≤ L.length ∧ a.2.2.1.length = L.length ∧ a.2.1[ia]? = some { sz := 2, els := crow a.2.2.1 xs, gen := ga, wr := true, pure := a.2.2.2 } ∧ ∀ (j : Nat) (x : AV), xs[j]? = some x → a.1 ≤ j → ∃ rows, Own a.2.1 1 x rows) (fun a => L.length - a.1)
      (0, σ, L, p) ⟨by omega, rfl, hbk, fun j x hj _ => by obtain ⟨d, _, ho⟩ := hs.row hj; exact ⟨_, ho⟩⟩ rfl rfl ?_
    rintro ⟨i, σ1, L1, p1⟩ ⟨hi, hL1, hb1, ho1⟩
    dsimp only at hi hL1 hb1 ho1 ⊢
    rw [hcl]
    have hcl1 := crow_length (L := L1) (xs := xs) (by rw [hl, hL1])
    by_cases hlt : i < L.length
    · obtain ⟨n, hn, hn'⟩ := getN (l := L1) (k := i) (by omega)
      obtain ⟨x, hx, hx'⟩ := getN (l := xs) (k := i) (by omega)
      have hrow := crow_get hn' hx'
      obtain ⟨rows, hxo⟩ := ho1 i x hx' (Nat.le_refl _)
      obtain ⟨ox1, ox2, ox3⟩ := hxo.one
      have hxia : x.bid ≠ some ia := hne' x (List.mem_of_getElem? hx')
      have hial := (List.getElem?_eq_some_iff.1 hb1).1
      repeat' (first
        | ((with_reducible refine Side.intro ?_) <;> (first
        | omega
        | exact Nat.le_of_ble_eq_true rfl
        ))
        | ((conv => whnf) <;> (first
        | (with_reducible refine and_same ?_)
        | (with_reducible refine and_side ?_ ?_)
        | ((with_reducible apply Br.yes) ; (focus omega))
        | ((with_reducible apply blkAt_intro) ; (focus (first
        | ((repeat (first
        | assumption
        )); done)
        )) ; (focus (first | rfl | assumption | omega)) ; (try dsimp only))
        | ((with_reducible apply nthR_row) ; (focus assumption))
        | (with_reducible refine IaW.of ?_)
        | (with_reducible refine lenR_rsl ?_)
        ))
        )
      all_goals (conv => whnf)
      all_goals (try dsimp only)
      rw [ox1]
      have hnew : Gr σ1 (newB σ1 1 ((List.replicate 1 [AV.nils]).set 0 [x]) (allFlatL ((List.replicate 1 [AV.nils]).set 0 [x]))) none := Gr.append _ _
      refine Owned_own _ [x] σ1.length 0 _ true false get_new ?_ ?_ ?_ (by simp) _ ?_
      · intro j z hj
        match j, hj with
        | 0, hj => simp at hj; subst hj; exact ⟨_, hxo.keepN hnew⟩
      · intro j k z w hj hk hjk
        match j, k, hj, hk with
        | 0, 0, _, _ => omega
      · intro j z hj
        match j, hj with
        | 0, hj =>
          simp at hj; subst hj
          intro e
          have := hxo.lt e
          omega
      intro σ2 hE
      have hb2 : σ2[ia]? = some { sz := 2, els := crow L1 xs, gen := ga, wr := true, pure := p1 } := by
        refine hE.2 _ _ (hnew.2 _ _ hb1 (by simp)) fun j z hj e => ?_
        match j, hj with
        | 0, hj => simp at hj; subst hj; exact hxia e
      have ho2 : ∀ (j : Nat) (z : AV), xs[j]? = some z → i + 1 ≤ j → ∃ rows, Own σ2 1 z rows := fun j z hj hij => by
        obtain ⟨rz, hz⟩ := ho1 j z hj (by omega)
        refine ⟨rz, Own.els hE (hz.keepN hnew) fun k w hk => ?_⟩
        match k, hk with
        | 0, hk =>
          simp at hk; subst hk
          rcases hs.dis j i z x hj hx' (by omega) with q | q
          · exact .inl q
          · exact .inr fun e => q e.symm
      repeat' (first
        | ((with_reducible refine Side.intro ?_) <;> (first
        | omega
        | exact Nat.le_of_ble_eq_true rfl
        | exact rfl
        ))
        | ((conv => whnf) <;> (first
        | (with_reducible refine and_same ?_)
        | (with_reducible refine and_side ?_ ?_)
        | ((with_reducible apply Br.yes) ; (focus omega))
        | ((with_reducible apply blkAt_intro) ; (focus (first
        | ((repeat (first
        | assumption
        )); done)
        )) ; (focus (first | rfl | assumption | omega)) ; (try dsimp only))
        | ((with_reducible apply nthR_row) ; (focus assumption))
        | (with_reducible refine IaW.of ?_)
        ))
        )
      all_goals (conv => whnf)
      all_goals (try dsimp only)
      refine ⟨(i + 1, _, L1.set i (-7), p1 && allFlat (AV.int IntKind.i64 (-7)).cells), rfl, rfl, ⟨by omega, by rw [List.length_set]; exact hL1, ?_, fun j z hj hij => ?_⟩, by omega⟩
      · dsimp only
        rw [get_set hb2, show 0 + (i : Int).toNat = i from by omega, crow_set (by rw [hl, hL1]) hx']
      · dsimp only at hij ⊢
        obtain ⟨rz, hz⟩ := ho2 j z hj hij
        exact ⟨rz, hz.keep (Gr.set _ _ _) (.inr fun e => hne' z (List.mem_of_getElem? hj) e.symm)⟩
    · repeat' (first
        | ((conv => whnf) <;> (first
        | (with_reducible refine and_same ?_)
        | ((with_reducible apply Br.no) ; (focus omega))
        | ((with_reducible apply blkAt_intro) ; (focus (first
        | ((repeat (first
        | assumption
        )); done)
        )) ; (focus (first | rfl | assumption | omega)) ; (try dsimp only))
        | (with_reducible refine lenR_rsl ?_)
        ))
        )
      all_goals (conv => whnf)
      all_goals (try dsimp only)
      exact h _
end Go.Proofs.Ytlhogahibillpaa
