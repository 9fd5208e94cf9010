import Derived.Test.YthakanioekmhbaaPdev5
namespace Go.Proofs.Ythakanioekmhbaa
open Go Go.Proofs.Ythakanioekmhbaa.V
/-! ### Maps, plain -/
theorem mput_nil (n : Int) (v : ML) (c : Nat) : mputE [] n v c = [⟨n, v, c⟩] ∧ mputC [] n c = c + 1 := ⟨rfl, rfl⟩
theorem mput_cons (x : ME) (r : List ME) (n : Int) (v : ML) (c : Nat) : mputE (x :: r) n v c = (if x.key = n then { x with val := v } :: r else x :: mputE r n v c) ∧ mputC (x :: r) n c = (if x.key = n then c else mputC r n c) := by
  unfold mputE mputC
  rw [List.findIdx?_cons]
  by_cases h : x.key = n
  · simp [h]
  · cases hf : r.findIdx? (fun e => e.key == n) <;> simp [h, hf]
theorem mdel_nil (n : Int) : mdel [] n = [] := rfl
theorem mdel_cons (x : ME) (r : List ME) (n : Int) : mdel (x :: r) n = if x.key = n then r else x :: mdel r n := by
  unfold mdel
  rw [List.findIdx?_cons]
  by_cases h : x.key = n
  · simp [h]
  · cases hf : r.findIdx? (fun e => e.key == n) <;> simp [h, hf]
theorem mget_cons (x : ME) (r : List ME) (k : Int) : mget (x :: r) k = if x.key = k then some x.val else mget r k := by
  unfold mget
  by_cases h : x.key = k
  · simp [h]
  · simp [h, List.find?_cons_of_neg]
theorem mget_mput (n : Int) (v : ML) (c : Nat) (k : Int) : ∀ es : List ME, mget (mputE es n v c) k = if k = n then some v else mget es k
  | [] => by
    rw [(mput_nil n v c).1, mget_cons]
    by_cases h : k = n
    · simp [h]
    · rw [if_neg (Ne.symm h), if_neg h]
  | x :: r => by
    have ih := mget_mput n v c k r
    rw [(mput_cons x r n v c).1]
    split
    · rename_i h
      rw [mget_cons, mget_cons]
      dsimp only
      by_cases hk : k = n
      · simp [h, hk]
      · rw [if_neg (by omega), if_neg hk, if_neg (by omega)]
    · rename_i h
      rw [mget_cons, mget_cons, ih]
      by_cases hk : k = n
      · simp [hk, h]
      · simp [hk]
theorem mget_mem {k : Int} {v : ML} : ∀ {es : List ME}, mget es k = some v → ∃ e, e ∈ es ∧ e.key = k ∧ e.val = v
  | x :: r, h => by
    rw [mget_cons] at h
    split at h
    · cases h; exact ⟨x, by simp, ‹_›, rfl⟩
    · obtain ⟨e, h1, h2, h3⟩ := mget_mem h
      exact ⟨e, by simp [h1], h2, h3⟩
theorem mget_none {k : Int} : ∀ {es : List ME}, mget es k = none ↔ k ∉ es.map ME.key
  | [] => by simp [mget]
  | x :: r => by
    rw [mget_cons, List.map_cons, List.mem_cons]
    have ih := mget_none (k := k) (es := r)
    by_cases h : x.key = k
    · simp [h]
    · rw [if_neg h, ih]
      have : ¬ k = x.key := fun e => h e.symm
      simp [this]
theorem mget_mdel (n k : Int) : ∀ {es : List ME}, (es.map ME.key).Nodup → mget (mdel es n) k = if k = n then none else mget es k
  | [], _ => by simp [mdel_nil, mget]
  | x :: r, hn => by
    simp only [List.map_cons, List.nodup_cons] at hn
    have ih := mget_mdel n k hn.2
    rw [mdel_cons, mget_cons]
    by_cases h : x.key = n
    · rw [if_pos h]
      by_cases hk : k = n
      · rw [if_pos hk, hk, mget_none, ← h]; exact hn.1
      · rw [if_neg hk, if_neg (by omega)]
    · rw [if_neg h, mget_cons, ih]
      by_cases hk : k = n
      · simp [hk, h]
      · simp [hk]
theorem mdel_sub (n : Int) : ∀ es : List ME, (mdel es n).Sublist es
  | [] => List.Sublist.refl _
  | x :: r => by
    rw [mdel_cons]
    split
    · exact List.sublist_cons_self _ _
    · exact (mdel_sub n r).cons_cons _
theorem mput_mem {n : Int} {v : ML} {c : Nat} {e : ME} : ∀ {es : List ME}, e ∈ mputE es n v c → (e ∈ es ∨ (e.key = n ∧ e.val = v ∧ ((∃ e', e' ∈ es ∧ e'.born = e.born ∧ e'.key = n) ∨ e.born = c ∧ n ∉ es.map ME.key)))
  | [], h => by
    rw [(mput_nil n v c).1] at h
    simp only [List.mem_singleton] at h
    subst h
    exact .inr ⟨rfl, rfl, .inr ⟨rfl, by simp⟩⟩
  | x :: r, h => by
    rw [(mput_cons x r n v c).1] at h
    split at h
    · rename_i hx
      rcases List.mem_cons.1 h with rfl | h
      · exact .inr ⟨hx, rfl, .inl ⟨x, by simp, rfl, hx⟩⟩
      · exact .inl (by simp [h])
    · rename_i hx
      rcases List.mem_cons.1 h with rfl | h
      · exact .inl (by simp)
      · rcases mput_mem h with h | ⟨h1, h2, ⟨e', h3, h4, h5⟩ | ⟨h3, h4⟩⟩
        · exact .inl (by simp [h])
        · exact .inr ⟨h1, h2, .inl ⟨e', by simp [h3], h4, h5⟩⟩
        · exact .inr ⟨h1, h2, .inr ⟨h3, by simp only [List.map_cons, List.mem_cons, not_or]; exact ⟨fun q => hx q.symm, h4⟩⟩⟩
theorem mput_keys (n : Int) (v : ML) (c : Nat) : ∀ es : List ME, (mputE es n v c).map ME.key = es.map ME.key ++ (if n ∈ es.map ME.key then [] else [n]) ∧ (mputE es n v c).map ME.born = es.map ME.born ++ (if n ∈ es.map ME.key then [] else [c]) ∧ mputC es n c = if n ∈ es.map ME.key then c else c + 1
  | [] => by simp [(mput_nil n v c).1, (mput_nil n v c).2]
  | x :: r => by
    obtain ⟨h1, h2, h3⟩ := mput_keys n v c r
    rw [(mput_cons x r n v c).1, (mput_cons x r n v c).2]
    by_cases h : x.key = n
    · simp [h]
    · have : ¬ n = x.key := fun e => h e.symm
      simp [h, h1, h2, h3, this]
theorem MapOk.mput {es : List ME} {clock : Nat} (h : MapOk es clock) (n : Int) (v : ML) : MapOk (mputE es n v clock) (mputC es n clock) := by
  obtain ⟨h1, h2, h3⟩ := mput_keys n v clock es
  refine ⟨?_, ?_, ?_⟩
  · rw [h1]
    split
    · rw [List.append_nil]; exact h.keys
    · rename_i hn
      rw [List.nodup_append]
      refine ⟨h.keys, by simp, ?_⟩
      intro a ha b hb
      simp only [List.mem_singleton] at hb
      subst hb
      exact fun e => hn (e ▸ ha)
  · rw [h2]
    split
    · rw [List.append_nil]; exact h.borns
    · rename_i hn
      rw [List.nodup_append]
      refine ⟨h.borns, by simp, ?_⟩
      intro a ha b hb
      simp only [List.mem_singleton] at hb
      subst hb
      obtain ⟨e, he, rfl⟩ := List.mem_map.1 ha
      exact Nat.ne_of_lt (h.lt e he)
  · intro e he
    have hb : e.born ∈ (mputE es n v clock).map ME.born := List.mem_map_of_mem he
    rw [h2] at hb
    rw [h3]
    rcases List.mem_append.1 hb with q | q
    · obtain ⟨e', he', q⟩ := List.mem_map.1 q
      have := h.lt e' he'
      split <;> omega
    · split at q
      · simp at q
      · rename_i hn
        simp only [List.mem_singleton] at q
        rw [if_neg hn]; omega
theorem MapOk.mdel {es : List ME} {clock : Nat} (h : MapOk es clock) (n : Int) : MapOk (mdel es n) clock := by
  have hs := mdel_sub n es
  exact ⟨(hs.map _).nodup h.keys, (hs.map _).nodup h.borns, fun e he => h.lt e (hs.subset he)⟩
theorem MapOk.nil (c : Nat) : MapOk [] c := ⟨by simp, by simp, by simp⟩
/-! ### A device that is right -/
structure DvOk (d : Dv) : Prop where
  map : MapOk d.es d.clock
  vals : ∀ e, e ∈ d.es → ∃ b, e.val = .bool b
  rng : ∀ e, e ∈ d.es → 0 ≤ e.key ∧ 64 * e.key + 64 ≤ d.L.length
  len : d.S.length = d.L.length
  le : d.L.length ≤ 262144
  al : d.L.length % 64 = 0
  arm : d.armed ≤ 9223372036854775807 ∧ 0 ≤ d.armed
theorem incr_len : ∀ {l : List Int} {a b : Int}, l.Pairwise (· < ·) → (∀ x, x ∈ l → a ≤ x ∧ x < b) → a ≤ b → (l.length : Int) ≤ b - a
  | [], a, b, _, _, hab => by simp; omega
  | x :: r, a, b, hp, hx, hab => by
    have h1 := hx x (by simp)
    rw [List.pairwise_cons] at hp
    have := incr_len (a := x + 1) hp.2 (fun y hy => ⟨by have := hp.1 y hy; omega, (hx y (by simp [hy])).2⟩) (by omega)
    simp only [List.length_cons]
    omega
theorem srt_lt {l : List Int} (h : l.Nodup) : (srt l).Pairwise (· < ·) := by
  have h1 := srt_sorted l
  have h2 : (srt l).Nodup := (srt_perm l).nodup_iff.2 h
  exact (h1.and h2).imp fun ⟨a, b⟩ => by omega
theorem DvOk.few {d : Dv} (h : DvOk d) : d.es.length ≤ 4096 := by
  have h1 := incr_len (a := 0) (b := 4096) (srt_lt h.map.keys) (fun x hx => by
    obtain ⟨e, he, rfl⟩ := List.mem_map.1 ((srt_perm _).mem_iff.1 hx)
    have := h.rng e he
    have := h.le
    omega) (by omega)
  rw [srt_length, List.length_map] at h1
  omega
end Go.Proofs.Ythakanioekmhbaa
