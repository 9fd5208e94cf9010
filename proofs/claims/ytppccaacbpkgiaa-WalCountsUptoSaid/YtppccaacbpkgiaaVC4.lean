/-
  VC4: all read-only instructions together.
-/
import Derived.Test.YtppccaacbpkgiaaVC3
namespace Go.Proofs.Ytppccaacbpkgiaa.V
open Go Go.RowKit
variable [Zone]
set_option linter.unusedSimpArgs false
set_option linter.unusedVariables false

section
variable {P : Program} {w : World} {E : Env} {σ : AH} {fr : Fr} {a : Act} {K : AV → Prop}

omit [Zone] in
theorem fldT_run {s : TypeId} {f off n : Nat} {t : TypeId} (h : fldT P s f = some (off, n, t)) : ∃ fs d, P.underlying s = some (.struct fs) ∧ fs[f]? = some d ∧ d.offset = off ∧ d.type = t ∧ szT P t = some n := by
  unfold fldT at h
  split at h
  · rename_i fs hu
    split at h
    · rename_i d hd
      obtain ⟨m, hm, he⟩ := Option.map_eq_some_iff.1 h
      cases he
      exact ⟨fs, d, hu, hd, rfl, rfl, hm⟩
    · cases h
  · cases h

theorem bytesOf_vals {w : World} {W : Nat → Prop} : ∀ {l : List (List AV)} {s : List UInt8} {cs : List Value}, bytesOf l = some s → RepVL w W cs l.flatten →
    ∃ ns : List Int, cs = ns.map (Value.int .u8) ∧ s = ns.map (fun n => UInt8.ofNat n.toNat)
  | [], s, cs, h, hr => by
    simp [bytesOf] at h; subst h
    cases hr; exact ⟨[], rfl, rfl⟩
  | row :: r, s, cs, h, hr => by
    unfold bytesOf at h
    split at h
    · rename_i hq; cases hq
    · rename_i n r' hq
      cases hq
      obtain ⟨s', hs', rfl⟩ := Option.map_eq_some_iff.1 h
      simp only [List.flatten_cons, List.singleton_append] at hr
      cases hr with
      | cons hv ht =>
        cases hv
        obtain ⟨ns, rfl, rfl⟩ := bytesOf_vals hs' ht
        exact ⟨n :: ns, rfl, rfl⟩
    · cases h

theorem bytesOf_valsL {w : World} {E : Env} : ∀ {l : List (List AV)} {s : List UInt8} {cs : List Value}, bytesOf l = some s → RepL w E cs l.flatten →
    ∃ ns : List Int, cs = ns.map (Value.int .u8) ∧ s = ns.map (fun n => UInt8.ofNat n.toNat)
  | [], s, cs, h, hr => by
    simp [bytesOf] at h; subst h
    cases hr; exact ⟨[], rfl, rfl⟩
  | row :: r, s, cs, h, hr => by
    unfold bytesOf at h
    split at h
    · rename_i hq; cases hq
    · rename_i n r' hq
      cases hq
      obtain ⟨s', hs', rfl⟩ := Option.map_eq_some_iff.1 h
      simp only [List.flatten_cons, List.singleton_append] at hr
      cases hr with
      | cons hv ht =>
        have := hv.int_inv
        subst this
        obtain ⟨ns, rfl, rfl⟩ := bytesOf_valsL hs' ht
        exact ⟨n :: ns, rfl, rfl⟩
    · cases h

omit [Zone] in
theorem push_fold (ns : List Int) : ∀ (r : ByteArray), (ns.foldl (fun r n => r.push (UInt8.ofNat n.toNat)) r).data.toList = r.data.toList ++ ns.map (fun n => UInt8.ofNat n.toNat) := by
  induction ns with
  | nil => intro r; simp
  | cons n ns ih =>
    intro r
    rw [List.foldl_cons, ih]
    simp [ByteArray.push]

omit [Zone] in
theorem b2s_run {ad : Addr} {n cap : Nat} {ns : List Int} (hn : ns.length = n) (hs : Shows w ad (ns.map (Value.int .u8))) (w' : World) (ho : Old w w') :
    ∃ b : ByteArray, b.data.toList = ns.map (fun n => UInt8.ofNat n.toNat) ∧ (Conv.bytesToString (.slice (some ad) n cap)).run P w' = .ok (.string (ns.foldl (fun r n => r.push (UInt8.ofNat n.toNat)) ByteArray.empty)) w' ∧ b = ns.foldl (fun r n => r.push (UInt8.ofNat n.toNat)) ByteArray.empty := by
  have h := run_loadCells_list (P := P) w' ad _ (hs.old ho)
  rw [List.length_map, hn] at h
  refine ⟨_, ?_, run_bytesToString w' ad n cap ns h, rfl⟩
  rw [push_fold]; rfl

/-- The rows that a slice shows, in the machine. -/
theorem rows_run (hr : Rel σ E w) {sz : Nat} {x : AV} {v : Value} (hv : Rep w E v x) {K : Bool → List (List AV) → Prop} (h : rowsR σ sz x K) :
    ∃ ad cap p l cs, v = .slice ad l.length cap ∧ (ad = none → cap = 0) ∧ K p l ∧ (∀ r, r ∈ l → r.length = sz) ∧ cs.length = l.length * sz ∧ (∀ q, ad = some q → CellsAt w E q l.flatten cs) ∧ (ad = none → cs = [] ∧ l = []) ∧ (p = true → RepVL w (EW E) cs l.flatten) := by
  unfold rowsR at h
  split at h
  · exact ⟨none, 0, true, [], [], hv.nils_inv, fun _ => rfl, h, by simp, by simp, (fun q hq => by cases hq), (fun _ => ⟨rfl, rfl⟩), fun _ => .nil⟩
  · rename_i sz' l nn
    obtain ⟨rfl, h⟩ := h
    rcases hv.sl_inv with ⟨e1, rfl⟩ | ⟨ad, cap, cs, e1, h1, h2, h3, h4, h5, h6, _⟩
    · exact ⟨none, 0, true, [], [], e1, fun _ => rfl, h, by simp, by simp, (fun q hq => by cases hq), (fun _ => ⟨rfl, rfl⟩), fun _ => .nil⟩
    · exact ⟨some ad, cap, true, l, cs, e1, (fun q => by cases q), h, h3, by rw [h4.rep.length, flatten_len h3], (fun q hq => by cases hq; exact h4), (fun q => by cases q), fun _ => h6⟩
  · rename_i sz' l
    obtain ⟨rfl, h⟩ := h
    rcases hv.slx_inv with ⟨e1, rfl⟩ | ⟨ad, cs, e1, h2, h3, h4, h5, h6⟩
    · exact ⟨none, 0, true, [], [], e1, fun _ => rfl, h, by simp, by simp, (fun q hq => by cases hq), (fun _ => ⟨rfl, rfl⟩), fun _ => .nil⟩
    · exact ⟨some ad, l.length, true, l, cs, e1, (fun q => by cases q), h, h3, by rw [h4.rep.length, flatten_len h3], (fun q hq => by cases hq; exact h4), (fun q => by cases q), fun _ => h6⟩
  · rename_i id gen off len cap
    obtain ⟨b, m, hb, hm, hok, hg1, hg2, hbe, rfl, hle, hk⟩ := blkAt_elim hr h
    have hs := hv.rsl_inv hm hg2 hok.pos
    have hlen : ((b.els.drop off).take len).length = len := by rw [List.length_take, List.length_drop]; omega
    have hrow : ∀ r, r ∈ (b.els.drop off).take len → r.length = b.sz := fun r hr' => hok.2.2.2.2.1 r (List.mem_of_mem_drop (List.mem_of_mem_take hr'))
    unfold RslOk at hs
    split at hs
    · rename_i hpl
      obtain ⟨h1, rfl, rfl, _⟩ := hs
      have hnil : (b.els.drop 0).take 0 = [] := by simp
      rw [hnil] at hk
      rcases h1 with h1 | ⟨q, h1⟩
      · exact ⟨none, 0, b.pure, [], [], h1, fun _ => rfl, hk, by simp, by simp, (fun q hq => by cases hq), (fun _ => ⟨rfl, rfl⟩), fun _ => .nil⟩
      · exact ⟨some q, 0, b.pure, [], [], h1, (fun q => by cases q), hk, by simp, by simp, (fun q hq => ⟨fun j u hj => by simp at hj, by simp, .nil⟩), (fun q => by cases q), fun _ => .nil⟩
    · rename_i g c hpl
      obtain ⟨ad, k, e1, h1, h2, h3, _⟩ := hs
      obtain ⟨cs, hcs, hpure⟩ := blk_rows hok hpl off len hle
      have hcl : cs.length = ((b.els.drop off).take len).length * b.sz := by rw [hcs.rep.length, flatten_len hrow]
      refine ⟨some ad, k, b.pure, _, cs, by rw [hlen]; exact e1, (fun q => by cases q), hk, hrow, hcl, ?_, (fun q => by cases q), hpure⟩
      intro q hq
      cases hq
      by_cases hk0 : k = 0
      · have hl0 : len = 0 := by omega
        subst hl0
        have hcn : cs = [] := List.length_eq_zero_iff.1 (by rw [hcl, hlen]; omega)
        subst hcn
        exact ⟨fun j u hj => by simp at hj, by simp, by simpa using hcs.rep⟩
      · rw [h3 hk0, hok.2.1]; exact hcs
  · exact h.elim

theorem opdO_run (hf : FrOk w E fr a) {x : Option Operand} {y : Option Opd} (hc : cOpdO x = some y) {d : Int} {K : Int → Prop} (h : intOR fr y d K) : ∃ n, K n ∧ ((x.map a.eval = none ∧ n = d ∧ y = none) ∨ ∃ k, x.map a.eval = some (.int k n) ∧ ∃ q, y = some q) := by
  cases x with
  | none => simp [cOpdO] at hc; subst hc; exact ⟨d, h, .inl ⟨rfl, rfl, rfl⟩⟩
  | some x =>
    simp only [cOpdO] at hc
    obtain ⟨y', hy', rfl⟩ := Option.map_eq_some_iff.1 hc
    obtain ⟨k, n, e, hk⟩ := intR_ok hf hy' h
    exact ⟨n, hk, .inr ⟨k, by simp [e], y', rfl⟩⟩

omit [Zone] in
theorem index_run {t e : TypeId} {sz : Nat} (hu : P.underlying t = some (.slice e)) (hs : szT P e = some sz) (ad : Addr) (len cap : Nat) (k : IntKind) (i : Int) (h0 : 0 ≤ i) (h1 : i < len) (w' : World) :
    (Instr.indexAt t (.slice (some ad) len cap) (.int k i)).run P w' = .ok (.pointer (some (ad.add (i.toNat * sz)))) w' := by
  simp [Instr.indexAt, asIntOf, Sem.run_bind, run_underlying hu, h0, h1, szT_run hs]

omit [Zone] in
theorem indexA_run {t e : TypeId} {sz m : Nat} (hu : P.underlying t = some (.array m e)) (hs : szT P e = some sz) (ad : Addr) (k : IntKind) (i : Int) (h0 : 0 ≤ i) (h1 : i < m) (w' : World) :
    (Instr.indexAt t (.pointer (some ad)) (.int k i)).run P w' = .ok (.pointer (some (ad.add (i.toNat * sz)))) w' := by
  simp [Instr.indexAt, asIntOf, Sem.run_bind, run_underlying hu, h0, h1, szT_run hs, Instr.sureAddr]

theorem vptr_add {ad : Addr} {row : List AV} {cs : List Value} (hc : CellsAt w E ad row cs) (hW : row ≠ [] → ¬ EW E ad.block) (hp : RepVL w (EW E) cs row) (off : Nat) : Rep w E (.pointer (some (ad.add off))) (.vptr row off) :=
  .vptr ad row off cs hW hc.shows hc.one hp


omit [Zone] in
theorem cOpds_two {l : List Operand} {x y : Opd} (h : cOpds l = some [x, y]) : ∃ a b, l = [a, b] ∧ cOpd a = some x ∧ cOpd b = some y := by
  match l, h with
  | [], h => simp [cOpds] at h
  | [a], h =>
    simp only [cOpds] at h
    cases ha : cOpd a <;> simp [ha] at h
  | [a, b], h =>
    simp only [cOpds] at h
    cases ha : cOpd a <;> cases hb : cOpd b <;> simp [ha, hb] at h
    exact ⟨a, b, rfl, by rw [ha, h.1], by rw [hb, h.2]⟩
  | a :: b :: c :: r, h =>
    simp only [cOpds] at h
    cases ha : cOpd a <;> cases hb : cOpd b <;> cases hc : cOpd c <;> cases hr : cOpds r <;> simp [ha, hb, hc, hr] at h

theorem zeroT_val {t : TypeId} {z : List AV} (h : zeroT P t = some z) : ∃ v, (P.info? t).bind (·.zero) = some v ∧ RepL w E v.cells.toList z ∧ ∀ u, u ∈ v.cells.toList → u.oneCell' = true := by
  unfold zeroT at h
  split at h
  · rename_i v hv
    split at h
    · rename_i x hx
      split at h
      · rename_i hok
        cases h
        obtain ⟨h1, h2⟩ := (absV_rep w E hx).cells hok
        exact ⟨v, hv, h1, h2⟩
      · cases h
    · cases h
  · cases h

omit [Zone] in
theorem fill_fold (off : Nat) : ∀ (vs : List Value) (j0 : Nat) (cs : Array Value), off + j0 + vs.length ≤ cs.size →
    ((vs.zipIdx j0).foldl (fun cs (c, j) => cs.setIfInBounds (off + j) c) cs).toList = cs.toList.take (off + j0) ++ vs ++ cs.toList.drop (off + j0 + vs.length)
  | [], j0, cs, h => by simp
  | v :: vs, j0, cs, h => by
    simp only [List.length_cons] at h
    rw [List.zipIdx_cons, List.foldl_cons]
    rw [fill_fold off vs (j0 + 1) _ (by simp only [Array.size_setIfInBounds]; omega)]
    simp only [Array.toList_setIfInBounds, List.length_cons]
    have hlt : off + j0 < cs.toList.length := by rw [Array.length_toList]; omega
    rw [List.set_eq_take_append_cons_drop, if_pos hlt]
    have e1 : (cs.toList.take (off + j0)).length = off + j0 := by rw [List.length_take]; omega
    have e2 : (cs.toList.take (off + j0) ++ v :: cs.toList.drop (off + j0 + 1)).take (off + (j0 + 1)) = cs.toList.take (off + j0) ++ [v] := by
      rw [List.take_append, e1, List.take_of_length_le (by omega), show off + (j0 + 1) - (off + j0) = 1 from by omega]
      simp
    have e3 : (cs.toList.take (off + j0) ++ v :: cs.toList.drop (off + j0 + 1)).drop (off + (j0 + 1) + vs.length) = cs.toList.drop (off + j0 + (vs.length + 1)) := by
      rw [List.drop_append, e1, List.drop_eq_nil_of_le (by omega), show off + (j0 + 1) + vs.length - (off + j0) = vs.length + 1 from by omega]
      simp only [List.nil_append, List.drop_succ_cons, List.drop_drop]
      congr 1; omega
    rw [e2, e3]; simp

theorem build_fill (hf : FrOk w E fr a) {pl : Places} : ∀ {parts : List (Nat × Operand)} {ps : List (Nat × Nat × Opd)}, cParts pl parts = some ps → ∀ (cs : List Value) (l : List AV), RepL w E cs l → (∀ u, u ∈ cs → u.oneCell' = true) → ∀ {K : List AV → Prop}, buildR fr l ps K →
    ∃ cells : List Value, Instr.fill pl.at cs.toArray (parts.map fun (i, x) => (i, a.eval x)) = some cells.toArray ∧ ∃ l', RepL w E cells l' ∧ (∀ u, u ∈ cells → u.oneCell' = true) ∧ K l'
  | [], ps, hp, cs, l, hr, h1, K, h => by
    simp [cParts] at hp; subst hp
    exact ⟨cs, by simp [Instr.fill], l, hr, h1, h⟩
  | (i, x) :: r, ps, hp, cs, l, hr, h1, K, h => by
    simp only [cParts] at hp
    split at hp
    · rename_i off n y ys ha hx hys
      cases hp
      simp only [buildR] at h
      split at h
      · rename_i v hv
        obtain ⟨hok, hn, hle, h⟩ := h
        obtain ⟨hc, hc1⟩ := (ev_ok hf hx hv).cells hok
        have hl1 := hc.length
        have hl2 := hr.length
        have hsz : (a.eval x).cells.size = n := by rw [← Array.length_toList, hl1, hn]
        have hfold := fill_fold off (a.eval x).cells.toList 0 cs.toArray (by simp [hsz]; omega)
        have hrep : RepL w E (cs.take off ++ (a.eval x).cells.toList ++ cs.drop (off + n)) (lay l off v.cells) := by
          unfold lay; rw [hn]
          exact ((hr.take off).append hc).append (hr.drop (off + n))
        obtain ⟨cells, q1, l', q2, q3, q4⟩ := build_fill hf hys _ _ hrep (by
          intro u hu
          simp only [List.mem_append] at hu
          rcases hu with (hu | hu) | hu
          · exact h1 u (List.mem_of_mem_take hu)
          · exact hc1 u hu
          · exact h1 u (List.mem_of_mem_drop hu)) h
        refine ⟨cells, ?_, l', q2, q3, q4⟩
        rw [List.map_cons, Instr.fill, ha]
        simp only [hsz]
        rw [if_neg (by simp; omega), ← q1]
        congr 1
        apply Array.ext'
        rw [← Array.foldl_toList, Array.toList_zipIdx]
        simpa [hsz] using hfold
      · exact h.elim
    · cases hp

theorem bind_value {s : Sem Value} {o : Oper} (h : Yields P w E s K) (e : execOp a.eval o = (do pure (.value (← s)))) :
    ∃ v x, Rep w E v x ∧ K x ∧ ∀ w', Old w w' → (execOp a.eval o).run P w' = .ok (.value v) w' := by
  obtain ⟨v, x, h1, h2, h3⟩ := h
  refine ⟨v, x, h1, h2, fun w' ho => ?_⟩
  rw [e]
  simp only [Sem.run_bind, h3 w' ho, Result.andThen_ok, Sem.run_pure]

theorem builtin_value {b : Builtin} {ts : Array TypeId} {args : Array Operand} {o : Oper} (ho : o.op = .call { callee := .builtin b, args := args, argTypes := ts }) {s : Sem Value}
    (hb : ∀ c, builtin b ts o.type c (args.map a.eval) = (do pure (.value (← s)))) (h : Yields P w E s K) :
    ∃ v x, Rep w E v x ∧ K x ∧ ∀ w', Old w w' → (execOp a.eval o).run P w' = .ok (.value v) w' := by
  obtain ⟨v, x, h1, h2, h3⟩ := h
  refine ⟨v, x, h1, h2, fun w' hw => ?_⟩
  unfold execOp
  simp only [ho, resolve, invoke, Sem.run_bind, Sem.run_pure, Result.andThen_ok, hb, h3 w' hw]

theorem ri_sound {o : Oper} {i : RI} (hc : cRI P o.op = some i) (hf : FrOk w E fr a) (hr : Rel σ E w) (h : roI σ fr i K) :
    ∃ v x, Rep w E v x ∧ K x ∧ ∀ w', Old w w' → (execOp a.eval o).run P w' = .ok (.value v) w' := by
  unfold cRI at hc
  split at hc
  case h_1 x ho =>
    obtain ⟨y, hy, rfl⟩ := Option.map_eq_some_iff.1 hc
    obtain ⟨z, hz, hk⟩ := evR_ok hf hy h
    exact ⟨_, z, hz, hk, fun w' _ => by unfold execOp; simp only [ho]; rfl⟩
  case h_2 x ho =>
    obtain ⟨y, hy, rfl⟩ := Option.map_eq_some_iff.1 hc
    obtain ⟨z, hz, hk⟩ := evR_ok hf hy h
    exact ⟨_, z, hz, hk, fun w' _ => by unfold execOp; simp only [ho]; rfl⟩
  case h_3 c x y ho =>
    split at hc
    · rename_i c' x' y' h1 h2 h3
      cases hc
      simp only [roI] at h
      obtain ⟨z, hz, h⟩ := evR_ok hf h1 h
      split at h
      · rename_i t
        have e := hz.bool_inv
        cases t
        · obtain ⟨u, hu, hk⟩ := evR_ok hf h3 h
          exact ⟨_, u, hu, hk, fun w' _ => by unfold execOp; simp only [ho, e, asBool, Sem.run_bind, Sem.run_pure, Result.andThen_ok]; rfl⟩
        · obtain ⟨u, hu, hk⟩ := evR_ok hf h2 h
          exact ⟨_, u, hu, hk, fun w' _ => by unfold execOp; simp only [ho, e, asBool, Sem.run_bind, Sem.run_pure, Result.andThen_ok]; rfl⟩
      · exact h.elim
    · cases hc
  case h_4 op t x y yt ho =>
    refine bind_value (bin_yields hc hf hr h) ?_
    unfold execOp; simp only [ho]
  case h_5 op t x ho =>
    obtain ⟨y, hy, rfl⟩ := Option.map_eq_some_iff.1 hc
    simp only [roI] at h
    obtain ⟨z, hz, h⟩ := evR_ok hf hy h
    refine bind_value (s := Op.unary op (a.eval x)) ?_ (by unfold execOp; simp only [ho])
    unfold unR at h
    split at h
    · rw [hz.int_inv]; exact .of (rep_int _ _) (arithR_elim h) fun w' _ => by simp [Op.unary, Op.intArith]
    · rw [hz.int_inv]; exact .of (rep_int _ _) h fun w' _ => by simp [Op.unary, Op.intBits]
    · rw [hz.bool_inv]; exact .of (rep_bool _) h fun w' _ => by simp [Op.unary]
    · exact h.elim
  case h_6 s d x ho =>
    refine bind_value (s := convert s d (a.eval x)) ?_ (by unfold execOp; simp only [ho])
    unfold cConv at hc
    split at hc
    · rename_i k1 k2 x' u1 u2 hx
      cases hc
      simp only [roI] at h
      obtain ⟨z, hz, h⟩ := evR_ok hf hx h
      split at h
      · rw [hz.int_inv]; exact .of (rep_int _ _) (arithR_elim h) fun w' _ => by simp [convert, Sem.run_bind, run_underlying u1, run_underlying u2, Conv.intToInt]
      · exact h.elim
    · rename_i e x' u1 u2 hx
      split at hc
      · rename_i u3 hsz
        cases hc
        simp only [roI] at h
        obtain ⟨z, hz, h⟩ := evR_ok hf hx h
        obtain ⟨ad, cap, p, l, cs, e1, e2, hk, hrow, hcl, hcs, hnil, hpure⟩ := rows_run hr hz h.ok
        replace hk := hk.ok
        unfold bytesR at hk
        split at hk
        · rename_i s' hs'
          rw [e1]
          cases ad with
          | none =>
            obtain ⟨_, rfl⟩ := hnil rfl
            simp [bytesOf] at hs'; subst hs'
            refine .of (v := .string .empty) (.pure (.str _ _ rfl)) hk fun w' _ => ?_
            simp [convert, Sem.run_bind, run_underlying u1, run_underlying u2, run_underlying u3, Conv.bytesToString]
          | some q =>
            have hc' := hcs q rfl
            obtain ⟨ns, rfl, rfl⟩ : ∃ ns : List Int, cs = ns.map (Value.int .u8) ∧ s' = ns.map (fun n => UInt8.ofNat n.toNat) := by
              by_cases hp : p = true
              · exact bytesOf_vals hs' (hpure hp)
              · exact bytesOf_valsL hs' hc'.rep
            have hlen : ns.length = l.length := by simpa using hcl
            obtain ⟨b, hb, _, hb2⟩ := b2s_run (P := P) (cap := cap) hlen hc'.shows w (Old.refl w)
            refine .of (v := .string b) (.pure (.str b _ hb)) hk fun w' ho => ?_
            obtain ⟨_, _, hb3, _⟩ := b2s_run (P := P) (cap := cap) hlen hc'.shows w' ho
            simp [convert, Sem.run_bind, run_underlying u1, run_underlying u2, run_underlying u3, hb3, hb2]
        · exact hk.elim
      · cases hc
    · cases hc
  case h_7 s x f ho =>
    split at hc
    · rename_i off n t x' hfl hx
      obtain ⟨g, hg, rfl⟩ := Option.map_eq_some_iff.1 hc
      obtain ⟨fs, d, hu, hd, rfl, rfl, hsz⟩ := fldT_run hfl
      simp only [roI] at h
      obtain ⟨z, hz, h⟩ := evR_ok hf hx h
      split at h
      · obtain ⟨cs, e1, h1, hrep⟩ := hz.agg_inv
        obtain ⟨v, y, hv, hk, hrun⟩ := part_yields hsz hg h1 hrep h
        refine bind_value (s := Instr.field s (a.eval x) f) ⟨v, y, hv, hk, fun w' hw => ?_⟩ (by unfold execOp; simp only [ho])
        rw [e1]
        simp [Instr.field, Sem.run_bind, run_underlying hu, hd, asAgg, hrun w' hw]
      · exact h.elim
    · cases hc
  case h_8 s x f ho =>
    split at hc
    · rename_i off n t x' hfl hx
      split at hc
      · cases hc
      · rename_i hn0
        cases hc
        obtain ⟨fs, d, hu, hd, rfl, rfl, hsz⟩ := fldT_run hfl
        have run : ∀ ad w', (Instr.fieldAt s (.pointer (some ad)) f).run P w' = .ok (.pointer (some (ad.add d.offset))) w' := by
          intro ad w'
          simp [Instr.fieldAt, Sem.run_bind, run_underlying hu, hd, Instr.sureAddr, fieldPlace, szT_run hsz, hn0]
        simp only [roI] at h
        obtain ⟨z, hz, h⟩ := evR_ok hf hx h
        refine bind_value (s := Instr.fieldAt s (a.eval x) f) ?_ (by unfold execOp; simp only [ho])
        split at h
        · rename_i id gen idx o'
          obtain ⟨b, m, hb, hm, hok, hg1, hg2, hbe, h⟩ := blkAt_elim hr h
          obtain ⟨g, c, hpl, e1⟩ := hz.ptr_inv hm hg2
          rw [e1]
          refine .of (v := .pointer (some ⟨g, idx * m.sz + (o' + d.offset), none⟩)) (.ptr m rfl hm (Nat.le_of_eq hg2.symm) fun _ => ⟨g, c, hpl, rfl⟩) h fun w' _ => ?_
          rw [run, add_lit, Nat.add_assoc]
        · obtain ⟨ad, cs, e1, hcs, hW, hpv⟩ := hz.vptr_inv
          rw [e1]
          exact .of (vptr_add hcs hW hpv _) h fun w' _ => by rw [run, add_add]
        · exact h.elim
    · cases hc
  case h_9 t x ix ho =>
    split at hc
    · rename_i e x' i' hu hx hi
      obtain ⟨sz, hsz, rfl⟩ := Option.map_eq_some_iff.1 hc
      simp only [roI] at h
      obtain ⟨z, hz, h⟩ := evR_ok hf hx h
      obtain ⟨k, n, en, h⟩ := intR_ok hf hi h
      refine bind_value (s := Instr.indexAt t (a.eval x) (a.eval ix)) ?_ (by unfold execOp; simp only [ho])
      rw [en]
      replace h := h.ok
      unfold iaddrR at h
      split at h
      · rename_i sz' l nn _q
        obtain ⟨rfl, h0, h⟩ := h
        obtain ⟨h1, h⟩ := nthR_elim h
        replace h1 : n < l.length := by omega
        rcases hz.sl_inv with ⟨_, rfl⟩ | ⟨ad, cap, cs, e1, hle, hcap, hrow, hcs, hW, hpv, _⟩
        · simp at h1; omega
        · have hlt : n.toNat < l.length := by omega
          have hget := List.getElem?_eq_getElem hlt
          have e2 := flatten_row hrow hget
          have hc2 := (hcs.drop (n.toNat * sz)).take sz
          rw [e2] at hc2
          have hp2 : RepVL w (EW E) ((cs.drop (n.toNat * sz)).take sz) l[n.toNat] := by
            have := (hpv.drop (n.toNat * sz)).take sz
            rwa [e2] at this
          have hW2 : l[n.toNat] ≠ [] → ¬ EW E (ad.add (n.toNat * sz)).block := by
            intro hne; rw [add_block]; refine hW fun q => hne ?_
            rw [← e2, q]; simp
          rw [e1]
          refine .of (vptr_add hc2 hW2 hp2 0) (h _ hget) fun w' _ => ?_
          rw [index_run hu hsz ad l.length cap k n h0 h1, show (ad.add (n.toNat * sz)).add 0 = ad.add (n.toNat * sz) from by rw [add_add, Nat.add_zero]]
      · rename_i id gen off len cap _q
        obtain ⟨b, m, hb, hm, hok, hg1, hg2, hbe, rfl, h0, h1, h⟩ := blkAt_elim hr h
        have hs := hz.rsl_inv hm hg2 hok.pos
        unfold RslOk at hs
        split at hs
        · obtain ⟨_, rfl, _⟩ := hs; simp at h1; omega
        · rename_i g c hpl
          obtain ⟨ad, kk, e1, k1, k2, k3, _⟩ := hs
          have had := k3 (by omega)
          rw [e1]
          refine .of (v := .pointer (some ⟨g, (off + n.toNat) * m.sz + 0, none⟩)) (.ptr m rfl hm (Nat.le_of_eq hg2.symm) fun _ => ⟨g, c, hpl, rfl⟩) h fun w' _ => ?_
          rw [index_run hu hsz ad len kk k n h0 h1, had, add_lit, hok.2.1]
          simp [Nat.add_mul]
      · exact h.elim
    · rename_i m e x' i' hu hx hi
      obtain ⟨sz, hsz, rfl⟩ := Option.map_eq_some_iff.1 hc
      simp only [roI] at h
      obtain ⟨z, hz, h⟩ := evR_ok hf hx h
      obtain ⟨k, n, en, h0, h1, h⟩ := intR_ok hf hi h
      refine bind_value (s := Instr.indexAt t (a.eval x) (a.eval ix)) ?_ (by unfold execOp; simp only [ho])
      rw [en]
      split at h
      · rename_i id gen idx o' _q
        obtain ⟨b, mm, hb, hm, hok, hg1, hg2, hbe, h⟩ := blkAt_elim hr h
        obtain ⟨g, c, hpl, e1⟩ := hz.ptr_inv hm hg2
        rw [e1]
        refine .of (v := .pointer (some ⟨g, idx * mm.sz + (o' + n.toNat * sz), none⟩)) (.ptr mm rfl hm (Nat.le_of_eq hg2.symm) fun _ => ⟨g, c, hpl, rfl⟩) h fun w' _ => ?_
        rw [indexA_run hu hsz _ k n h0 h1, add_lit, Nat.add_assoc]
      · obtain ⟨ad, cs, e1, hcs, hW, hpv⟩ := hz.vptr_inv
        rw [e1]
        exact .of (vptr_add hcs hW hpv _) h fun w' _ => by rw [indexA_run hu hsz _ k n h0 h1, add_add]
      · exact h.elim
    · cases hc
  case h_10 t x ix ho =>
    split at hc
    · rename_i m e x' i' hu hx hi
      split at hc
      · rename_i sz g hsz hg
        split at hc
        · cases hc
          simp only [roI] at h
          obtain ⟨z, hz, h⟩ := evR_ok hf hx h
          obtain ⟨k, n, en, h⟩ := intR_ok hf hi h
          split at h
          · obtain ⟨h0, h1, h⟩ := h
            obtain ⟨cs, e1, h2, hrep⟩ := hz.agg_inv
            obtain ⟨v, y, hv, hk, hrun⟩ := part_yields hsz hg h2 hrep h
            refine bind_value (s := Instr.index t (a.eval x) (a.eval ix)) ⟨v, y, hv, hk, fun w' hw => ?_⟩ (by unfold execOp; simp only [ho])
            rw [en, e1]
            simp [Instr.index, asIntOf, Sem.run_bind, run_underlying hu, h0, h1, szT_run hsz, hrun w' hw]
          · exact h.elim
        · cases hc
      · cases hc
    · rename_i x' i' hu hx hi
      cases hc
      simp only [roI] at h
      obtain ⟨z, hz, h⟩ := evR_ok hf hx h
      obtain ⟨k, n, en, h⟩ := intR_ok hf hi h
      split at h
      · obtain ⟨h0, h1, h⟩ := h
        obtain ⟨b, e1, rfl⟩ := hz.str_inv
        have hlt : n.toNat < b.data.toList.length := by omega
        refine bind_value (s := Instr.index t (a.eval x) (a.eval ix)) (.of (rep_int _ _) (h _ (List.getElem?_eq_getElem hlt)) fun w' _ => ?_) (by unfold execOp; simp only [ho])
        rw [en, e1]
        have e2 : b[n.toNat]? = some (b.data.toList[n.toNat]) := by
          rw [show b[n.toNat]? = b.data[n.toNat]? from by
            by_cases hq : n.toNat < b.size
            · rw [getElem?_pos b n.toNat hq, getElem?_pos b.data n.toNat hq]; rfl
            · exact absurd (by simpa using hlt) hq]
          rw [Array.getElem?_eq_getElem (by simpa using hlt)]
          simp
        simp [Instr.index, asIntOf, Sem.run_bind, run_underlying hu, h0, e2]
      · exact h.elim
    · cases hc
  case h_11 t x lo hi mx ho =>
    split at hc
    · rename_i e x' l' h' m' hu hx hl hh hm
      obtain ⟨sz, hsz, rfl⟩ := Option.map_eq_some_iff.1 hc
      simp only [roI] at h
      obtain ⟨z, hz, h⟩ := evR_ok hf hx h
      obtain ⟨L, h, hL⟩ := opdO_run hf hl h
      have hL2 : (lo.map a.eval = none ∧ L = 0) ∨ ∃ k, lo.map a.eval = some (.int k L) := by
        rcases hL with ⟨q1, q2, _⟩ | ⟨k, q1, _⟩
        · exact .inl ⟨q1, q2⟩
        · exact .inr ⟨k, q1⟩
      refine bind_value (s := Instr.sliceAt t (a.eval x) (lo.map a.eval) (hi.map a.eval) (mx.map a.eval)) ?_ (by unfold execOp; simp only [ho])
      have one : ∀ {q : Option Operand} {y : Opd}, cOpdO q = some (some y) → ∃ q', q = some q' ∧ cOpd q' = some y := by
        intro q y hq
        cases q with
        | none => simp [cOpdO] at hq
        | some q' =>
          simp only [cOpdO] at hq
          obtain ⟨y', hy', e⟩ := Option.map_eq_some_iff.1 hq
          cases e; exact ⟨q', rfl, hy'⟩
      have non : ∀ {q : Option Operand}, cOpdO q = some none → q = none := by
        intro q hq
        cases q with
        | none => rfl
        | some q' =>
          simp only [cOpdO] at hq
          obtain ⟨y', hy', e⟩ := Option.map_eq_some_iff.1 hq
          cases e
      split at h
      · have := non hh; have := non hm; subst_vars
        exact slice_yields hu hsz hr hz _ _ _ L none none hL2 (.inl ⟨rfl, rfl⟩) (.inl ⟨rfl, rfl⟩) h.ok
      · obtain ⟨q, rfl, hq⟩ := one hh
        have := non hm; subst_vars
        obtain ⟨k, n, en, h⟩ := intR_ok hf hq h
        exact slice_yields hu hsz hr hz _ _ _ L (some n) none hL2 (.inr ⟨k, n, by simp [en], rfl⟩) (.inl ⟨rfl, rfl⟩) h.ok
      · obtain ⟨q, rfl, hq⟩ := one hh
        obtain ⟨q2, rfl, hq2⟩ := one hm
        obtain ⟨k, n, en, h⟩ := intR_ok hf hq h
        obtain ⟨k2, n2, en2, h⟩ := intR_ok hf hq2 h
        exact slice_yields hu hsz hr hz _ _ _ L (some n) (some n2) hL2 (.inr ⟨k, n, by simp [en], rfl⟩) (.inr ⟨k2, n2, by simp [en2], rfl, n, rfl⟩) h.ok
      · exact h.elim
    · rename_i x' l' h' hu hx hl hh hm
      cases hc
      simp only [roI] at h
      obtain ⟨z, hz, h⟩ := evR_ok hf hx h
      split at h
      · obtain ⟨b, e1, rfl⟩ := hz.str_inv
        obtain ⟨L, h, hL⟩ := opdO_run hf hl h
        obtain ⟨H, h, hH⟩ := opdO_run hf hh h
        obtain ⟨h0, h1, h2, hk⟩ := h
        have hmx : mx = none := by
          cases mx with
          | none => rfl
          | some q => simp only [cOpdO] at hm; obtain ⟨y', hy', e⟩ := Option.map_eq_some_iff.1 hm; cases e
        subst hmx
        have hbs : b.data.toList.length = b.size := by rw [Array.length_toList]; rfl
        rw [hbs] at h2 hH
        have hb := fun w' => run_bounds (P := P) false b.size b.size (lo.map a.eval) (hi.map a.eval) none L H b.size
          (by
            rcases hL with ⟨q1, q2, _⟩ | ⟨k, q1, _⟩
            · exact .inl ⟨q1, q2⟩
            · exact .inr ⟨k, q1⟩)
          (by
            rcases hH with ⟨q1, q2, _⟩ | ⟨k, q1, _⟩
            · exact .inl ⟨q1, q2, rfl⟩
            · exact .inr ⟨k, q1⟩)
          (.inl ⟨rfl, rfl⟩) h0 h1 h2 (Nat.le_refl _) w'
        refine bind_value (s := Instr.sliceAt t (a.eval x) (lo.map a.eval) (hi.map a.eval) none) (.of (v := .string (b.extract L.toNat H.toNat)) (.pure (.str _ _ ?_)) hk fun w' _ => ?_) (by unfold execOp; simp only [ho]; rfl)
        · rw [ByteArray.data_extract]; simp [List.drop_take]
        · rw [e1]
          simp [Instr.sliceAt, Instr.slice, Sem.run_bind, run_underlying hu, hb]
      · exact h.elim
    · cases hc
  case h_12 t x ho =>
    split at hc
    · rename_i x' n g hx hn hg
      split at hc
      · cases hc
        simp only [roI] at h
        obtain ⟨z, hz, h⟩ := evR_ok hf hx h
        refine bind_value (s := Instr.loadAt t (a.eval x)) ?_ (by unfold execOp; simp only [ho])
        split at h
        · obtain ⟨b, m, hb, hm, hok, hg1, hg2, hbe, h⟩ := blkAt_elim hr h
          obtain ⟨hlt, h⟩ := nthR_elim h
          have hrow := List.getElem?_eq_getElem hlt
          obtain ⟨ad, cs, e1, hcs⟩ := ptr_load hr hz hb hg1 hrow
          obtain ⟨v, y, hv, hk, hrun⟩ := load_yields hn hg hcs (h _ hrow)
          rw [e1]
          exact ⟨v, y, hv, hk, fun w' hw => by simp [Instr.loadAt, Instr.sureAddr, hrun w' hw]⟩
        · obtain ⟨ad, cs, e1, hcs, _⟩ := hz.vptr_inv
          obtain ⟨v, y, hv, hk, hrun⟩ := load_yields hn hg hcs h
          rw [e1]
          exact ⟨v, y, hv, hk, fun w' hw => by simp [Instr.loadAt, Instr.sureAddr, hrun w' hw]⟩
        · exact h.elim
      · cases hc
    · cases hc
  case h_13 x ix ho =>
    obtain ⟨y, hy, rfl⟩ := Option.map_eq_some_iff.1 hc
    simp only [roI] at h
    obtain ⟨z, hz, h⟩ := evR_ok hf hy h
    split at h
    · split at h
      · rename_i l v hv
        obtain ⟨vs, e1, hrep⟩ := hz.tup_inv
        obtain ⟨u, hu, hru⟩ := hrep.get _ _ hv
        refine bind_value (s := Instr.extract (a.eval x) ix) (.of hru h fun w' _ => ?_) (by unfold execOp; simp only [ho])
        rw [e1]
        have e2 : vs[ix]? = some u := by simpa using hu
        simp [Instr.extract, e2]
      · exact h.elim
    · exact h.elim
  case h_14 t parts ho =>
    split at hc
    · rename_i z pl hz hpl
      obtain ⟨ps, hps, rfl⟩ := Option.map_eq_some_iff.1 hc
      simp only [roI] at h
      obtain ⟨zv, hzv, hzr⟩ := zeroT_val (w := w) (E := E) hz
      obtain ⟨cells, hfill, l, hrep, h1, hk⟩ := build_fill hf hps (zv.cells.toList) z hzr.1 hzr.2 h
      refine ⟨.agg cells.toArray, .agg l, .agg _ _ (by simpa using h1) (by simpa using hrep), hk, fun w' _ => ?_⟩
      have hb : P.built t (parts.map fun (i, x) => (i, a.eval x)).toList = some cells.toArray := by
        unfold placesT at hpl
        unfold Program.built
        obtain ⟨it, hit, hiz⟩ : ∃ it, P.info? t = some it ∧ it.zero = some zv := by
          cases hq : P.info? t with
          | none => simp [hq] at hzv
          | some it => exact ⟨it, rfl, by simpa [hq] using hzv⟩
        split at hpl
        · rename_i fs hu
          obtain ⟨pl', hpl', rfl⟩ := Option.map_eq_some_iff.1 hpl
          simp only [hit, hu, hiz, hpl']
          rw [show (Places.flds pl').at = (pl'.toArray[·]?) from by funext i; rfl] at hfill
          simpa using hfill
        · rename_i m e hu
          obtain ⟨ie, hie, rfl⟩ := Option.map_eq_some_iff.1 hpl
          simp only [hit, hu, hiz, hie]
          rw [show (Places.elems ie.size).at = (fun i => some (i * ie.size, ie.size)) from by funext i; rfl] at hfill
          simpa using hfill
        · cases hpl
      have := run_build (P := P) w' t _ _ hb
      unfold execOp
      simp only [ho, Sem.run_bind, this, Result.andThen_ok, Sem.run_pure]
    · cases hc
  case h_15 x ho =>
    obtain ⟨y, hy, rfl⟩ := Option.map_eq_some_iff.1 hc
    simp only [roI] at h
    obtain ⟨z, hz, h⟩ := evR_ok hf hy h
    split at h
    · obtain ⟨b, m, hb, hm, hok, hg1, hg2, hbe, h⟩ := blkAt_elim hr h
      obtain ⟨g, c, hpl, e1⟩ := hz.ptr_inv hm hg2
      exact ⟨a.eval x, _, hz, h, fun w' _ => by unfold execOp; simp only [ho, e1]; rfl⟩
    · obtain ⟨ad, cs, e1, _⟩ := hz.vptr_inv
      exact ⟨a.eval x, _, hz, h, fun w' _ => by unfold execOp; simp only [ho, e1]; rfl⟩
    · obtain ⟨cs, e1, _⟩ := hz.fn_inv
      exact ⟨a.eval x, _, hz, h, fun w' _ => by unfold execOp; simp only [ho, e1]; rfl⟩
    · exact h.elim
  case h_16 f first caps ho =>
    split at hc
    · rename_i hne
      split at hc
      · rename_i hfirst
        obtain ⟨l, hl, rfl⟩ := Option.map_eq_some_iff.1 hc
        simp only [roI] at h
        split at h
        · rename_i zs hzs
          have hrep := evs_ok hf hl hzs
          have e0 : first = #[] := by simpa using hfirst
          subst e0
          refine bind_value (s := Instr.makeFunc (.func f) (Array.map a.eval #[]) (caps.map a.eval)) (.of (v := .func (.func f) #[] (caps.map a.eval)) (.fn f _ zs hne (by simpa using hrep)) h fun w' _ => ?_) (by unfold execOp; simp only [ho])
          simp [Instr.makeFunc]
        · exact h.elim
      · split at hc
        · rename_i l m hl hm
          cases hc
          simp only [roI] at h
          split at h
          · rename_i zs us hzs hus
            have hrep := evs_ok hf hl hzs
            have hrep2 := evs_ok hf hm hus
            refine bind_value (s := Instr.makeFunc (.func f) (first.map a.eval) (caps.map a.eval)) (.of (v := .func (.func f) (first.map a.eval) (caps.map a.eval)) (.fnb f _ _ zs us hne (by simpa using hrep) (by simpa using hrep2)) h fun w' _ => ?_) (by unfold execOp; simp only [ho])
            simp [Instr.makeFunc]
          · exact h.elim
        · cases hc
    · cases hc
  case h_17 args ts ho =>
    split at hc
    · rename_i x t hargs ht
      have hm : args.map a.eval = #[a.eval x] := by
        apply Array.ext'; simp [hargs]
      split at hc
      · rename_i e x' hu hx
        cases hc
        simp only [roI] at h
        obtain ⟨z, hz, h⟩ := evR_ok hf hx h
        have run : ∀ ad n c, a.eval x = .slice ad n c → K (.int .i64 n) → Yields P w E (Builtin.len_ ts o.type (args.map a.eval)) K := fun ad n c e1 hk =>
          .of (rep_int _ _) hk fun w' _ => by rw [hm, e1]; simp [Builtin.len_, ht, Sem.run_bind, run_underlying hu, goInt]
        refine builtin_value ho (s := Builtin.len_ ts o.type (args.map a.eval)) (fun c => rfl) ?_
        replace h := h.ok
        unfold lenR at h
        split at h
        · exact run _ _ _ hz.nils_inv h
        · rcases hz.slx_inv with ⟨e1, rfl⟩ | ⟨ad, cs, e1, _⟩
          · exact run _ _ _ e1 h
          · exact run _ _ _ e1 h
        · rcases hz.sl_inv with ⟨e1, rfl⟩ | ⟨ad, cap, cs, e1, _⟩
          · exact run _ _ _ e1 h
          · exact run _ _ _ e1 h
        · obtain ⟨b, m, hb, hm', hok, hg1, hg2, hbe, h⟩ := blkAt_elim hr h
          have hs := hz.rsl_inv hm' hg2 hok.pos
          unfold RslOk at hs
          split at hs
          · obtain ⟨h1, rfl, _⟩ := hs
            rcases h1 with h1 | ⟨q, h1⟩
            · exact run _ _ _ h1 h
            · exact run _ _ _ h1 h
          · obtain ⟨ad, k, h1, _⟩ := hs
            exact run _ _ _ h1 h
        · exact h.elim
      · rename_i x' hu hx
        cases hc
        simp only [roI] at h
        obtain ⟨z, hz, h⟩ := evR_ok hf hx h
        split at h
        · obtain ⟨b, e1, rfl⟩ := hz.str_inv
          have hbs : b.data.toList.length = b.size := by rw [Array.length_toList]; rfl
          rw [hbs] at h
          exact builtin_value ho (s := Builtin.len_ ts o.type (args.map a.eval)) (fun c => rfl) (.of (rep_int _ _) h fun w' _ => by rw [hm, e1]; simp [Builtin.len_, ht, Sem.run_bind, run_underlying hu, goInt])
        · exact h.elim
      · cases hc
    · cases hc
  case h_18 args ts ho =>
    split at hc
    · rename_i x t hargs ht
      have hm : args.map a.eval = #[a.eval x] := by
        apply Array.ext'; simp [hargs]
      split at hc
      · rename_i e x' hu hx
        cases hc
        simp only [roI] at h
        obtain ⟨z, hz, h⟩ := evR_ok hf hx h
        refine builtin_value ho (s := Builtin.cap_ ts o.type (args.map a.eval)) (fun c => rfl) ?_
        have run : ∀ ad n c, a.eval x = .slice ad n c → K (.int .i64 c) → Yields P w E (Builtin.cap_ ts o.type (args.map a.eval)) K := fun ad n c e1 hk =>
          .of (rep_int _ _) hk fun w' _ => by rw [hm, e1]; simp [Builtin.cap_, ht, Sem.run_bind, run_underlying hu, goInt]
        unfold capR at h
        split at h
        · exact run _ _ _ hz.nils_inv h
        · obtain ⟨b, m, hb, hm', hok, hg1, hg2, hbe, h⟩ := blkAt_elim hr h
          have hs := hz.rsl_inv hm' hg2 hok.pos
          unfold RslOk at hs
          split at hs
          · obtain ⟨h1, rfl, _, hc0⟩ := hs
            have := hc0 _ rfl
            subst this
            rcases h1 with h1 | ⟨q, h1⟩
            · exact run _ _ _ h1 h
            · exact run _ _ _ h1 h
          · obtain ⟨ad, k, h1, _, _, _, hk⟩ := hs
            simp only [] at hk
            subst hk
            exact run _ _ _ h1 h
        · obtain ⟨b, m, hb, hm', hok, hg1, hg2, hbe, hfu, h⟩ := blkAt_elim hr h
          have hs := hz.rsl_inv hm' hg2 hok.pos
          obtain ⟨_, _, _, _, _, k6⟩ := hok
          unfold RslOk at hs
          split at hs
          · rename_i hpl
            rw [hpl] at k6
            obtain ⟨h1, rfl, rfl, _⟩ := hs
            have e0 : b.els.length - 0 = 0 := by have k6' : b.els = [] := k6; rw [k6']; rfl
            rw [e0] at h
            rcases h1 with h1 | ⟨q, h1⟩
            · exact run _ _ _ h1 h
            · exact run _ _ _ h1 h
          · rename_i g c hpl
            rw [hpl] at k6
            obtain ⟨ad, k, h1, _, _, _, hk⟩ := hs
            simp only [] at hk
            have h7 := k6.1.1
            have h8 := k6.1.2 hfu
            refine run _ _ _ h1 ?_
            rw [show k = b.els.length - _ from by rw [show b.els.length = c from by omega, ← hk]; exact (Nat.add_sub_cancel_left _ _).symm]
            exact h
        · exact h.elim
      · cases hc
    · cases hc
  case h_19 args ts ho =>
    split at hc
    · rename_i x y hxy
      cases hc
      simp only [roI] at h
      obtain ⟨ox, oy, hargs, hx, hy⟩ := cOpds_two hxy
      have hm : args.map a.eval = #[a.eval ox, a.eval oy] := by
        apply Array.ext'; simp [hargs]
      obtain ⟨z, hz, h⟩ := evR_ok hf hx h
      split at h
      · obtain ⟨z2, hz2, h⟩ := evR_ok hf hy h
        split at h
        · exact builtin_value ho (s := Builtin.min_ ts o.type (args.map a.eval)) (fun c => rfl) (.of (rep_int _ _) (Br_if h) fun w' _ => by rw [hm, hz.int_inv, hz2.int_inv]; simp [Builtin.min_, Builtin.min2])
        · exact h.elim
      · exact h.elim
    · cases hc
  case h_20 args ts ho =>
    split at hc
    · rename_i x y hxy
      cases hc
      simp only [roI] at h
      obtain ⟨ox, oy, hargs, hx, hy⟩ := cOpds_two hxy
      have hm : args.map a.eval = #[a.eval ox, a.eval oy] := by
        apply Array.ext'; simp [hargs]
      obtain ⟨z, hz, h⟩ := evR_ok hf hx h
      split at h
      · obtain ⟨z2, hz2, h⟩ := evR_ok hf hy h
        split at h
        · exact builtin_value ho (s := Builtin.max_ ts o.type (args.map a.eval)) (fun c => rfl) (.of (rep_int _ _) (Br_if h) fun w' _ => by rw [hm, hz.int_inv, hz2.int_inv]; simp [Builtin.max_, Builtin.max2])
        · exact h.elim
      · exact h.elim
    · cases hc
  all_goals cases hc

end
end Go.Proofs.Ytppccaacbpkgiaa.V
