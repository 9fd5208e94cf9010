import Derived.Test.YthakanioekmhbaaPdev7
namespace Go.Proofs.Ythakanioekmhbaa
open Go Go.Proofs.Ythakanioekmhbaa.V
/-! ### What the steps make, byte by byte; what stays right -/
theorem last_at {L S : List UInt8} {j : Nat} (h : S.length = L.length) (hj : 64 * j + 64 ≤ L.length) (p : Nat) : (lastL L S j)[p]? = if p / 64 = j then S[p]? else L[p]? := by
  unfold lastL
  by_cases h1 : p < 64 * j
  · rw [if_neg (by omega), List.append_assoc, List.getElem?_append_left (by simp; omega), List.getElem?_take_of_lt h1]
  · by_cases h2 : p < 64 * j + 64
    · rw [if_pos (by omega), List.getElem?_append_left (by simp; omega), List.getElem?_append_right (by simp; omega), List.length_take, Nat.min_eq_left (by omega), List.getElem?_take_of_lt (by omega), List.getElem?_drop]
      congr 1; omega
    · rw [if_neg (by omega), List.getElem?_append_right (by simp; omega), List.length_append, List.length_take, List.length_take, List.length_drop, List.getElem?_drop]
      congr 1; omega
theorem store_at {S : List UInt8} {o : Nat} {b : List UInt8} (h : o + b.length ≤ S.length) (p : Nat) : (storeL S o b)[p]? = if o ≤ p ∧ p < o + b.length then b[p - o]? else S[p]? := by
  unfold storeL
  by_cases h1 : p < o
  · rw [if_neg (by omega), List.append_assoc, List.getElem?_append_left (by simp; omega), List.getElem?_take_of_lt h1]
  · by_cases h2 : p < o + b.length
    · rw [if_pos ⟨by omega, h2⟩, List.getElem?_append_left (by simp; omega), List.getElem?_append_right (by simp; omega), List.length_take, Nat.min_eq_left (by omega)]
    · rw [if_neg (by omega), List.getElem?_append_right (by simp; omega), List.length_append, List.length_take, List.getElem?_drop]
      congr 1; omega
theorem mget_stE (k : Int) : ∀ (n : Nat) (a : Int) (p : List ME × Nat), mget (stE n a p).1 k = if a ≤ k ∧ k < a + n then some (.bool false) else mget p.1 k
  | 0, a, p => by simp only [stE]; rw [if_neg (by omega)]
  | n + 1, a, p => by
    simp only [stE]
    rw [mget_mput, mget_stE k n a p]
    by_cases h : k = a + n
    · rw [if_pos h, if_pos (by omega)]
    · rw [if_neg h]
      by_cases h2 : a ≤ k ∧ k < a + n
      · rw [if_pos h2, if_pos (by omega)]
      · rw [if_neg h2, if_neg (by omega)]
theorem mget_flE (k : Int) : ∀ (n : Nat) (a : Int) (p : List ME × Nat), mget (flE n a p).1 k = if (a ≤ k ∧ k < a + n) ∧ (mget p.1 k).isSome = true then some (.bool true) else mget p.1 k
  | 0, a, p => by simp only [flE]; rw [if_neg (by omega)]
  | n + 1, a, p => by
    have ih := mget_flE k n a p
    have ih2 := mget_flE (a + n) n a p
    rw [if_neg (by omega)] at ih2
    simp only [flE]
    cases hm : mget (flE n a p).1 (a + n) with
    | none =>
      dsimp only
      rw [ih]
      by_cases h : k = a + n
      · subst h
        rw [← ih2, hm]
        simp
      · by_cases h2 : (a ≤ k ∧ k < a + n) ∧ (mget p.1 k).isSome = true
        · rw [if_pos h2, if_pos ⟨by omega, h2.2⟩]
        · rw [if_neg h2, if_neg (fun q => h2 ⟨by omega, q.2⟩)]
    | some v =>
      dsimp only
      rw [mget_mput, ih]
      by_cases h : k = a + n
      · subst h
        rw [if_pos rfl, ← ih2, hm, if_pos ⟨by omega, rfl⟩]
      · rw [if_neg h]
        by_cases h2 : (a ≤ k ∧ k < a + n) ∧ (mget p.1 k).isSome = true
        · rw [if_pos h2, if_pos ⟨by omega, h2.2⟩]
        · rw [if_neg h2, if_neg (fun q => h2 ⟨by omega, q.2⟩)]
/-- What marks keep: N: lines that there are. -/
structure MR (N : Nat) (p : List ME × Nat) : Prop where
  map : MapOk p.1 p.2
  vals : ∀ e, e ∈ p.1 → ∃ b, e.val = .bool b
  rng : ∀ e, e ∈ p.1 → 0 ≤ e.key ∧ 64 * e.key + 64 ≤ N
theorem MR.put {N : Nat} {p : List ME × Nat} (h : MR N p) {k : Int} (b : Bool) (hk : 0 ≤ k ∧ 64 * k + 64 ≤ N) : MR N (mputE p.1 k (.bool b) p.2, mputC p.1 k p.2) := by
  refine ⟨h.map.mput k _, fun e he => ?_, fun e he => ?_⟩
  · rcases mput_mem he with he | ⟨_, h2, _⟩
    · exact h.vals e he
    · exact ⟨b, h2⟩
  · rcases mput_mem he with he | ⟨h1, _, _⟩
    · exact h.rng e he
    · rw [h1]; exact hk
theorem MR.stE {N : Nat} {p : List ME × Nat} (h : MR N p) {a : Int} : ∀ {n : Nat}, (∀ j : Nat, j < n → 0 ≤ a + j ∧ 64 * (a + j) + 64 ≤ N) → MR N (stE n a p)
  | 0, _ => h
  | n + 1, hr => (MR.stE h fun j hj => hr j (by omega)).put false (hr n (by omega))
theorem MR.flE {N : Nat} {p : List ME × Nat} (h : MR N p) {a : Int} : ∀ {n : Nat}, (∀ j : Nat, j < n → 0 ≤ a + j ∧ 64 * (a + j) + 64 ≤ N) → MR N (flE n a p)
  | 0, _ => h
  | n + 1, hr => by
    have h1 := MR.flE h fun j (hj : j < n) => hr j (by omega)
    unfold Go.Proofs.Ythakanioekmhbaa.flE
    split
    · exact h1
    · exact h1.put true (hr n (by omega))
theorem ov_rng {at' n : Int} {N : Nat} (h1 : 0 ≤ at') (h2 : 0 ≤ n) (h3 : at' + n ≤ N) (hN : N % 64 = 0) (j : Nat) (hj : j < ovC at' n) : 0 ≤ at' / 64 + j ∧ 64 * (at' / 64 + j) + 64 ≤ N := by
  unfold ovC at hj
  split at hj
  · omega
  · omega
theorem ov_mem {at' n : Int} (h1 : 0 ≤ at') (h2 : 0 ≤ n) (k : Int) : (at' / 64 ≤ k ∧ k < at' / 64 + ovC at' n) ↔ n ≠ 0 ∧ at' / 64 ≤ k ∧ k ≤ (at' + n - 1) / 64 := by
  unfold ovC
  split
  · omega
  · omega
/-- Lines that are not dirty lie as they are seen. -/
structure DvR (d : Dv) : Prop where
  ok : DvOk d
  cl : ∀ p, mget d.es ((p / 64 : Nat) : Int) = none → d.L[p]? = d.S[p]?
theorem DvOk.mr {d : Dv} (h : DvOk d) : MR d.L.length (d.es, d.clock) := ⟨h.map, h.vals, h.rng⟩
theorem DvR.new {s : List UInt8} (h : newG s.length) : DvR ⟨s, s, [], 0, 0, false⟩ := by
  obtain ⟨h1, h2, h3⟩ := h
  exact ⟨⟨.nil 0, by simp, by simp, rfl, by dsimp only; omega, h2, by dsimp only; omega⟩, fun _ _ => rfl⟩
theorem DvR.begin {d : Dv} (h : DvR d) (at' n : Int) : DvR (beginD d at' n).2 := by
  obtain ⟨s1, s2, s3, s4⟩ := beginD_same d at' n
  exact ⟨h.ok.begin at' n, fun p hp => by rw [s1, s2]; rw [s3] at hp; exact h.cl p hp⟩
theorem DvR.store {d : Dv} (h : DvR d) (at' : Int) (b : List UInt8) : DvR (storeD d at' b).2 := by
  have hk : (beginD d at' b.length).1 = 0 → askD d at' b.length = 0 := beginD_ok
  have hd := h.begin at' b.length
  obtain ⟨s1, s2, s3, s4⟩ := beginD_same d at' b.length
  unfold storeD
  generalize beginD d at' b.length = q at *
  obtain ⟨e, d1⟩ := q
  dsimp only at hd hk s1 s2 s3 s4 ⊢
  by_cases he : e = 0
  · obtain ⟨k1, k2, k3, k4, k5⟩ := askD_ok (hk he)
    rw [if_neg (by simp [he])]
    have hle := hd.ok.le
    have hlen := hd.ok.len
    rw [← s2] at k3 k5
    have hfit : at'.toNat + b.length ≤ d1.S.length := by omega
    have hm := hd.ok.mr.stE (a := at' / 64) (n := ovC at' b.length) fun j hj => ov_rng k2 k4 (by omega) hd.ok.al j hj
    refine ⟨⟨hm.map, hm.vals, hm.rng, ?_, hd.ok.le, hd.ok.al, hd.ok.arm⟩, fun p hp => ?_⟩
    · simp only [Dv.setM]; rw [storeL_length hfit]; exact hlen
    · simp only [Dv.setM] at hp ⊢
      rw [mget_stE] at hp
      split at hp
      · cases hp
      · rename_i hno
        rw [ov_mem k2 k4] at hno
        rw [store_at hfit, if_neg (by omega)]
        exact hd.cl p hp
  · rw [if_pos he]; exact hd
theorem DvR.flush {d : Dv} (h : DvR d) (at' n : Int) : DvR (flushD d at' n).2 := by
  have hk : (beginD d at' n).1 = 0 → askD d at' n = 0 := beginD_ok
  have hd := h.begin at' n
  obtain ⟨s1, s2, s3, s4⟩ := beginD_same d at' n
  unfold flushD
  generalize beginD d at' n = q at *
  obtain ⟨e, d1⟩ := q
  dsimp only at hd hk s1 s2 s3 s4 ⊢
  by_cases he : e = 0
  · obtain ⟨k1, k2, k3, k4, k5⟩ := askD_ok (hk he)
    rw [if_neg (by simp [he])]
    have hlen := hd.ok.len
    rw [← s2] at k3 k5
    have hm := hd.ok.mr.flE (a := at' / 64) (n := ovC at' n) fun j hj => ov_rng k2 k4 (by omega) hd.ok.al j hj
    refine ⟨⟨hm.map, hm.vals, hm.rng, hlen, hd.ok.le, hd.ok.al, hd.ok.arm⟩, fun p hp => ?_⟩
    simp only [Dv.setM] at hp ⊢
    rw [mget_flE] at hp
    split at hp
    · cases hp
    · exact hd.cl p hp
  · rw [if_pos he]; exact hd
theorem fence_step {d : Dv} (h : DvOk d) {k : Int} (hk : 0 ≤ k ∧ 64 * k + 64 ≤ d.L.length) : (∀ j, mget (fenceS d k).es j = if j = k ∧ flushed d.es k = true then none else mget d.es j) ∧ ∀ p : Nat, (fenceS d k).L[p]? = if ((p / 64 : Nat) : Int) = k ∧ flushed d.es k = true then d.S[p]? else d.L[p]? := by
  unfold fenceS
  by_cases hf : flushed d.es k = true
  · rw [if_pos hf]
    refine ⟨fun j => ?_, fun p => ?_⟩
    · dsimp only
      rw [mget_mdel _ _ h.map.keys]
      by_cases hj : j = k
      · rw [if_pos hj, if_pos ⟨hj, hf⟩]
      · rw [if_neg hj, if_neg (fun q => hj q.1)]
    · dsimp only
      rw [last_at h.len (by omega)]
      by_cases hp : ((p / 64 : Nat) : Int) = k
      · rw [if_pos (by omega), if_pos ⟨hp, hf⟩]
      · rw [if_neg (by omega), if_neg (fun q => hp q.1)]
  · rw [if_neg hf]
    refine ⟨fun j => ?_, fun p => ?_⟩
    · rw [if_neg (fun q => hf q.2)]
    · rw [if_neg (fun q => hf q.2)]
theorem flushed_of {es es' : List ME} {k : Int} (h : mget es k = mget es' k) : flushed es k = flushed es' k := by simp only [flushed, h]
theorem fence_fold : ∀ {l : List Int} {d : Dv}, DvOk d → l.Nodup → (∀ k, k ∈ l → 0 ≤ k ∧ 64 * k + 64 ≤ d.L.length) → (∀ j, mget (l.foldl fenceS d).es j = if j ∈ l ∧ flushed d.es j = true then none else mget d.es j) ∧ ∀ p : Nat, (l.foldl fenceS d).L[p]? = if ((p / 64 : Nat) : Int) ∈ l ∧ flushed d.es ((p / 64 : Nat) : Int) = true then d.S[p]? else d.L[p]?
  | [], d, _, _, _ => by simp
  | k :: r, d, h, hn, hk => by
    obtain ⟨hn1, hn2⟩ := List.nodup_cons.1 hn
    have h1 := h.fenceS (hk k (by simp))
    obtain ⟨a1, a2⟩ := fence_step h (hk k (by simp))
    obtain ⟨b1, b2⟩ := fence_fold h1.ok hn2 fun j hj => by rw [h1.L]; exact hk j (by simp [hj])
    have hfl : ∀ j, j ∈ r → flushed (fenceS d k).es j = flushed d.es j := fun j hj => flushed_of (by rw [a1, if_neg]; rintro ⟨rfl, _⟩; exact hn1 hj)
    refine ⟨fun j => ?_, fun p => ?_⟩
    · simp only [List.foldl_cons]
      rw [b1, a1]
      by_cases hj : j ∈ r
      · have hne : ¬ (j = k ∧ flushed d.es k = true) := fun q => hn1 (q.1 ▸ hj)
        rw [hfl j hj, if_neg hne]
        simp [hj]
      · rw [if_neg (fun q => hj q.1)]
        by_cases hjk : j = k
        · subst hjk; simp [hj]
        · simp [hj, hjk]
    · simp only [List.foldl_cons]
      rw [b2, a2, h1.S]
      generalize ((p / 64 : Nat) : Int) = j
      by_cases hj : j ∈ r
      · have hne : ¬ (j = k ∧ flushed d.es k = true) := fun q => hn1 (q.1 ▸ hj)
        rw [hfl j hj, if_neg hne]
        simp [hj]
      · rw [if_neg (fun q => hj q.1)]
        by_cases hjk : j = k
        · subst hjk; simp [hj]
        · simp [hj, hjk]
theorem flushed_mem {es : List ME} {k : Int} (h : flushed es k = true) : k ∈ srt (es.map ME.key) := by
  rw [(srt_perm _).mem_iff]
  refine Decidable.byContradiction fun hn => ?_
  rw [← mget_none] at hn
  simp [flushed, hn] at h
theorem fence_all {d : Dv} (h : DvOk d) : (∀ j, mget ((srt (d.es.map ME.key)).foldl fenceS d).es j = if flushed d.es j = true then none else mget d.es j) ∧ (∀ p : Nat, ((srt (d.es.map ME.key)).foldl fenceS d).L[p]? = if flushed d.es ((p / 64 : Nat) : Int) = true then d.S[p]? else d.L[p]?) ∧ DvLt d ((srt (d.es.map ME.key)).foldl fenceS d) := by
  obtain ⟨h1, h2⟩ := fence_fold h ((srt_perm _).nodup_iff.2 h.map.keys) fun k hk => h.keysIn hk
  refine ⟨fun j => ?_, fun p => ?_, DvOk.fenceL h fun k hk => h.keysIn hk⟩
  · rw [h1]
    by_cases hf : flushed d.es j = true
    · rw [if_pos ⟨flushed_mem hf, hf⟩, if_pos hf]
    · rw [if_neg (fun q => hf q.2), if_neg hf]
  · rw [h2]
    by_cases hf : flushed d.es ((p / 64 : Nat) : Int) = true
    · rw [if_pos ⟨flushed_mem hf, hf⟩, if_pos hf]
    · rw [if_neg (fun q => hf q.2), if_neg hf]
theorem DvR.fence {d : Dv} (h : DvR d) : DvR (fenceD d).2 := by
  have hd := h.begin 0 0
  unfold fenceD
  generalize beginD d 0 0 = q at *
  obtain ⟨e, d1⟩ := q
  dsimp only at hd ⊢
  by_cases he : e = 0
  · rw [if_neg (by simp [he])]
    obtain ⟨h1, h2, h3⟩ := fence_all hd.ok
    refine ⟨h3.ok, fun p hp => ?_⟩
    dsimp only at hp ⊢
    rw [h1] at hp
    rw [h2, h3.S]
    split
    · rfl
    · rename_i hf
      rw [if_neg hf] at hp
      exact hd.cl p hp
  · rw [if_pos he]; exact hd
theorem DvR.arm {d : Dv} (h : DvR d) {n : Int} (hn : n ≤ 9223372036854775807) : DvR { d with armed := max n 0 } :=
  ⟨⟨h.ok.map, h.ok.vals, h.ok.rng, h.ok.len, h.ok.le, h.ok.al, by dsimp only; omega⟩, h.cl⟩
open Classical in
/-- Which lines a crash keeps. -/
theorem crash_fold {keep : List Bool} : ∀ {l : List (Int × Nat)} {d : Dv}, DvOk d → (l.map (·.1)).Nodup → (∀ q, q ∈ l → 0 ≤ q.1 ∧ 64 * q.1 + 64 ≤ d.L.length) → ∀ p : Nat, (l.foldl (crashS keep) d).L[p]? = if ∃ i, (((p / 64 : Nat) : Int), i) ∈ l ∧ keptAt keep i = true then d.S[p]? else d.L[p]?
  | [], d, _, _, _, p => by simp
  | (k, i) :: r, d, h, hn, hk, p => by
    simp only [List.map_cons, List.nodup_cons] at hn
    obtain ⟨hn1, hn2⟩ := hn
    have hki := hk (k, i) (by simp)
    have h1 : DvC d (crashS keep d (k, i)) := by
      unfold crashS
      split
      · exact h.lastC hki
      · exact .refl h
    have ih := crash_fold (keep := keep) h1.ok hn2 (fun q hq => by rw [h1.L]; exact hk q (by simp [hq])) p
    simp only [List.foldl_cons]
    rw [ih, h1.S]
    have e1 : (crashS keep d (k, i)).L[p]? = if ((p / 64 : Nat) : Int) = k ∧ keptAt keep i = true then d.S[p]? else d.L[p]? := by
      unfold crashS
      by_cases hf : keptAt keep i = true
      · rw [if_pos hf]
        dsimp only at hki ⊢
        rw [last_at h.len (by omega)]
        by_cases hp : ((p / 64 : Nat) : Int) = k
        · rw [if_pos (by omega), if_pos ⟨hp, hf⟩]
        · rw [if_neg (by omega), if_neg (fun q => hp q.1)]
      · rw [if_neg hf, if_neg (fun q => hf q.2)]
    rw [e1]
    generalize ((p / 64 : Nat) : Int) = j at *
    by_cases hx : ∃ i, (j, i) ∈ r ∧ keptAt keep i = true
    · rw [if_pos hx, if_pos]
      obtain ⟨i', h1, h2⟩ := hx
      exact ⟨i', by simp [h1], h2⟩
    · rw [if_neg hx]
      by_cases hj : j = k ∧ keptAt keep i = true
      · rw [if_pos hj, if_pos ⟨i, by simp [hj.1], hj.2⟩]
      · rw [if_neg hj, if_neg]
        rintro ⟨i', h1, h2⟩
        rcases List.mem_cons.1 h1 with q | q
        · cases q; exact hj ⟨rfl, h2⟩
        · exact hx ⟨i', q, h2⟩
/-- The line is the i-th of the dirty ones, and keep's i-th is true. -/
def keptL (d : Dv) (keep : List Bool) (j : Int) : Prop := ∃ i : Nat, (srt (d.es.map ME.key))[i]? = some j ∧ keep[i]? = some true
theorem crash_all {d : Dv} (h : DvOk d) (keep : List Bool) : DvC d (crashL keep d) ∧ ∀ p : Nat, (keptL d keep ((p / 64 : Nat) : Int) → (crashL keep d).L[p]? = d.S[p]?) ∧ (¬ keptL d keep ((p / 64 : Nat) : Int) → (crashL keep d).L[p]? = d.L[p]?) := by
  have hin : ∀ q, q ∈ (srt (d.es.map ME.key)).zipIdx → 0 ≤ q.1 ∧ 64 * q.1 + 64 ≤ d.L.length := fun q hq => by
    obtain ⟨j, hj⟩ := List.getElem?_of_mem hq
    rw [List.getElem?_zipIdx] at hj
    obtain ⟨k', hk1, hk2⟩ := Option.map_eq_some_iff.1 hj
    rw [← hk2]
    exact h.keysIn (List.mem_of_getElem? hk1)
  refine ⟨DvOk.crashC h hin, fun p => ?_⟩
  have hc := crash_fold (keep := keep) h (l := (srt (d.es.map ME.key)).zipIdx) (by
    have : (srt (d.es.map ME.key)).zipIdx.map (·.1) = srt (d.es.map ME.key) := by simp
    rw [this]; exact (srt_perm _).nodup_iff.2 h.map.keys) hin p
  have he : keptL d keep ((p / 64 : Nat) : Int) ↔ ∃ i, (((p / 64 : Nat) : Int), i) ∈ (srt (d.es.map ME.key)).zipIdx ∧ keptAt keep i = true := by
    unfold keptL keptAt
    constructor
    · rintro ⟨i, h1, h2⟩
      refine ⟨i, List.mem_of_getElem? (i := i) ?_, by rw [h2]; rfl⟩
      simp [List.getElem?_zipIdx, h1]
    · rintro ⟨i, h1, h2⟩
      obtain ⟨j, hj⟩ := List.getElem?_of_mem h1
      rw [List.getElem?_zipIdx] at hj
      obtain ⟨k', hk1, hk2⟩ := Option.map_eq_some_iff.1 hj
      simp only [Nat.zero_add, Prod.mk.injEq] at hk2
      obtain ⟨rfl, rfl⟩ := hk2
      refine ⟨j, hk1, ?_⟩
      cases hkj : keep[j]? with
      | none => rw [hkj] at h2; cases h2
      | some b => rw [hkj] at h2; simp at h2; rw [h2]
  unfold crashL
  rw [hc]
  refine ⟨fun q => if_pos (he.1 q), fun q => if_neg fun r => q (he.2 r)⟩
theorem DvR.crash {d : Dv} (h : DvR d) (keep : List Bool) : DvR (crashD keep d) := by
  obtain ⟨h1, h2⟩ := crash_all h.ok keep
  exact ⟨⟨.nil _, by simp [crashD], by simp [crashD], rfl, h1.ok.le, h1.ok.al, by simp [crashD]⟩, fun p _ => rfl⟩
/-! ### How many bytes there are -/
theorem store_len (d : Dv) (at' : Int) (b : List UInt8) : (storeD d at' b).2.L = d.L := by
  obtain ⟨s1, s2, s3, s4⟩ := beginD_same d at' b.length
  unfold storeD
  generalize beginD d at' b.length = q at *
  obtain ⟨e, d1⟩ := q
  by_cases h : e = 0
  · dsimp only; rw [if_neg (by simp [h])]; exact s1
  · dsimp only; rw [if_pos h]; exact s1
theorem flush_len (d : Dv) (at' n : Int) : (flushD d at' n).2.L = d.L := by
  obtain ⟨s1, s2, s3, s4⟩ := beginD_same d at' n
  unfold flushD
  generalize beginD d at' n = q at *
  obtain ⟨e, d1⟩ := q
  by_cases h : e = 0
  · dsimp only; rw [if_neg (by simp [h])]; exact s1
  · dsimp only; rw [if_pos h]; exact s1
theorem fence_len {d : Dv} (h : DvR d) : (fenceD d).2.L.length = d.L.length := by
  have hd := h.begin 0 0
  obtain ⟨s1, s2, s3, s4⟩ := beginD_same d 0 0
  unfold fenceD
  generalize beginD d 0 0 = q at *
  obtain ⟨e, d1⟩ := q
  dsimp only at hd s1
  by_cases h : e = 0
  · dsimp only; rw [if_neg (by simp [h])]
    have := (fence_all hd.ok).2.2.L
    dsimp only
    rw [this, s1]
  · dsimp only; rw [if_pos h]; dsimp only; rw [s1]
theorem crash_len {d : Dv} (h : DvR d) (keep : List Bool) : (crashD keep d).L.length = d.L.length := (crash_all h.ok keep).1.L
end Go.Proofs.Ythakanioekmhbaa
