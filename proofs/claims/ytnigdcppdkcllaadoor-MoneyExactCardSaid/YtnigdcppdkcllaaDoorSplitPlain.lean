/- Plain laws for Split: the parts that get a cent more. No program. -/
import Derived.WalkKit
namespace Go.Proofs.YtnigdcppdkcllaaDoor
set_option linter.unusedVariables false
set_option linter.unusedSimpArgs false

/-- i goes ahead of j: by the greater remainder, then by the index. -/
def ahead (r : Nat → Int) (i j : Nat) : Prop := r j < r i ∨ (r i = r j ∧ i < j)
/-- k indices are chosen, those that go ahead of all others. -/
structure First (n : Nat) (r : Nat → Int) (k : Nat) (c : Nat → Bool) : Prop where
  cnt : (List.range n).countP c = k
  fst : ∀ i j, i < n → j < n → c i = true → c j = false → ahead r i j
theorem count_le (c c' : Nat → Bool) : ∀ n, (∀ j, j < n → c' j = true → c j = true) → (List.range n).countP c' ≤ (List.range n).countP c
  | 0, _ => by simp
  | n + 1, h => by
    have ih := count_le c c' n (fun j hj => h j (by omega))
    rw [List.range_succ, List.countP_append, List.countP_append]
    have := h n (by omega)
    cases h1 : c' n <;> cases h2 : c n <;> simp_all <;> omega
theorem count_lt (c c' : Nat → Bool) : ∀ n, (∀ j, j < n → c' j = true → c j = true) → ∀ i, i < n → c i = true → c' i = false → (List.range n).countP c' < (List.range n).countP c
  | 0, _, i, hi, _, _ => by omega
  | n + 1, h, i, hi, h1, h2 => by
    rw [List.range_succ, List.countP_append, List.countP_append]
    rcases Nat.eq_or_lt_of_le (Nat.le_of_lt_succ hi) with rfl | hlt
    · have := count_le c c' i (fun j hj => h j (by omega))
      simp [h1, h2]; omega
    · have ih := count_lt c c' n (fun j hj => h j (by omega)) i hlt h1 h2
      have := h n (by omega)
      cases h3 : c' n <;> cases h4 : c n <;> simp_all <;> omega
theorem First.unique {n k : Nat} {r : Nat → Int} {c c' : Nat → Bool} (h : First n r k c) (h' : First n r k c') : ∀ i, i < n → c i = c' i := by
  have key : ∀ (c c' : Nat → Bool), First n r k c → First n r k c' → ∀ i, i < n → c i = true → c' i = true := by
    intro c c' h h' i hi h1
    cases h2 : c' i with
    | true => rfl
    | false =>
      exfalso
      by_cases hex : ∃ j, j < n ∧ c' j = true ∧ c j = false
      · obtain ⟨j, hj, h3, h4⟩ := hex
        have a1 := h.fst i j hi hj h1 h4
        have a2 := h'.fst j i hj hi h3 h2
        unfold ahead at a1 a2
        omega
      · have := count_lt c c' n (fun j hj h3 => by
          cases h4 : c j with
          | true => rfl
          | false => exact absurd ⟨j, hj, h3, h4⟩ hex) i hi h1 h2
        rw [h.cnt, h'.cnt] at this
        omega
  intro i hi
  cases h1 : c i with
  | true => exact (key c c' h h' i hi h1).symm
  | false =>
    cases h2 : c' i with
    | false => rfl
    | true => rw [key c' c h' h i hi h2] at h1; cases h1
theorem count_add (c : Nat → Bool) (b : Nat) (hc : c b = false) : ∀ n, (List.range n).countP (fun i => c i || i == b) = (List.range n).countP c + if b < n then 1 else 0
  | 0 => by simp
  | n + 1 => by
    rw [List.range_succ, List.countP_append, List.countP_append, count_add c b hc n]
    by_cases hb : n = b
    · subst hb
      simp [hc]
    · cases h1 : c n
      · simp [h1, hb]
        by_cases h2 : b < n
        · rw [if_pos h2, if_pos (by omega)]
        · rw [if_neg h2, if_neg (by omega)]
      · simp [h1]
        by_cases h2 : b < n
        · rw [if_pos h2, if_pos (by omega)]
          try omega
        · rw [if_neg h2, if_neg (by omega)]
          try omega
theorem count_some (c : Nat → Bool) : ∀ n, (List.range n).countP c < n → ∃ u, u < n ∧ c u = false
  | 0, h => by simp at h
  | n + 1, h => by
    cases h1 : c n with
    | false => exact ⟨n, by omega, h1⟩
    | true =>
      rw [List.range_succ, List.countP_append] at h
      simp [h1] at h
      obtain ⟨u, hu, hc⟩ := count_some c n h
      exact ⟨u, by omega, hc⟩
/-- A round of the reference: the first greatest remainder is chosen. -/
theorem First.round {n k b : Nat} {r : Nat → Int} {c : Nat → Bool} (h : First n r k c) (hr : ∀ i, i < n → 0 ≤ r i) (hk : k < n) (hb : b < n)
    (hmax : ∀ j, j < n → (if c j then (-1 : Int) else r j) ≤ (if c b then (-1 : Int) else r b)) (hfst : ∀ j, j < b → (if c j then (-1 : Int) else r j) < (if c b then (-1 : Int) else r b)) :
    c b = false ∧ First n r (k + 1) (fun i => c i || i == b) := by
  have hcb : c b = false := by
    cases h1 : c b with
    | false => rfl
    | true =>
      exfalso
      obtain ⟨u, hu, hc⟩ := count_some c n (by rw [h.cnt]; exact hk)
      have h2 := hmax u hu
      have h3 := hr u hu
      simp only [hc, h1] at h2
      simp at h2
      omega
  refine ⟨hcb, ?_, ?_⟩
  · rw [count_add c b hcb n, h.cnt, if_pos hb]
  · intro i j hi hj h1 h2
    simp only [Bool.or_eq_false_iff] at h2
    obtain ⟨h3, h4⟩ := h2
    have hjb : j ≠ b := by simpa using h4
    cases h5 : c i with
    | true => exact h.fst i j hi hj h5 h3
    | false =>
      have hib : i = b := by simpa [h5] using h1
      subst hib
      have h6 := hmax j hj
      simp only [h3, hcb] at h6
      simp at h6
      unfold ahead
      rcases Int.lt_or_le (r j) (r i) with h7 | h7
      · exact .inl h7
      · refine .inr ⟨by omega, ?_⟩
        rcases Nat.lt_or_ge i j with h8 | h8
        · exact h8
        · exfalso
          have h9 := hfst j (by omega)
          simp only [h3, hcb] at h9
          simp at h9
          omega
theorem First.zero (n : Nat) (r : Nat → Int) : First n r 0 (fun _ => false) := ⟨by simp, fun _ _ _ _ h => by cases h⟩
/-- The first k of the indices in their order. -/
theorem First.sorted {n k : Nat} {r : Nat → Int} {L : List Nat} (hp : L.Perm (List.range n)) (hs : L.Pairwise (ahead r)) (hk : k ≤ n) : First n r k (fun i => decide (i ∈ L.take k)) := by
  have hl : L.length = n := by rw [hp.length_eq, List.length_range]
  have hnd : L.Nodup := hp.nodup_iff.2 List.nodup_range
  refine ⟨?_, fun i j hi hj h1 h2 => ?_⟩
  · rw [← hp.countP_eq]
    have e : L = L.take k ++ L.drop k := (List.take_append_drop k L).symm
    have hd : ∀ x ∈ L.drop k, x ∉ L.take k := by
      intro x hx hx'
      rw [e] at hnd
      exact (List.nodup_append.1 hnd).2.2 x hx' x hx rfl
    have h1 : (L.take k ++ L.drop k).countP (fun i => decide (i ∈ L.take k)) = k := by
      rw [List.countP_append, List.countP_eq_length.2 (by intro x hx; simpa using hx), List.countP_eq_zero.2 (by intro x hx; simpa using hd x hx)]
      simp; omega
    rw [← e] at h1
    exact h1
  · have hi' : i ∈ L.take k := by simpa using h1
    have hj' : j ∉ L.take k := by simpa using h2
    have hjL : j ∈ L := hp.mem_iff.2 (List.mem_range.2 hj)
    have hjd : j ∈ L.drop k := by
      rw [← List.take_append_drop k L, List.mem_append] at hjL
      exact hjL.resolve_left hj'
    rw [← List.take_append_drop k L, List.pairwise_append] at hs
    exact hs.2.2 i hi' j hjd
end Go.Proofs.YtnigdcppdkcllaaDoor
