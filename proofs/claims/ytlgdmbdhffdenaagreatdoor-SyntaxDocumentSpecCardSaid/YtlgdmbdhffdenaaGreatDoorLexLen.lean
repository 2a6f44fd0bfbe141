/- Plain laws: the lexer's steps stay within the text. No program. -/
import Derived.Test.YtlgdmbdhffdenaaGreatDoorPA
namespace Go.Proofs.YtlgdmbdhffdenaaGreatDoor
set_option linter.unusedVariables false
set_option linter.unusedSimpArgs false

theorem qscan_len : ∀ (n : Nat) (s : List UInt8), s.length ≤ n → ∀ t k, qscan s = some (t, k) → k ≤ s.length ∧ 0 < k
  | 0, s, hn, t, k, h => by
    have : s = [] := List.eq_nil_of_length_eq_zero (by omega)
    subst this
    simp [qscan] at h
  | n + 1, [], _, t, k, h => by simp [qscan] at h
  | n + 1, c :: r, hn, t, k, h => by
    rw [qscan.eq_def] at h
    simp only at h
    split at h
    · injection h with h; injection h with _ h; subst h; simp
    · split at h
      · cases h
      · split at h
        · cases hq : qscan r with
          | none => rw [hq] at h; cases h
          | some x =>
            have ih := qscan_len n r (by simp at hn; omega) x.1 x.2 (by rw [hq])
            rw [hq] at h
            simp at h
            obtain ⟨_, rfl⟩ := h
            simp; omega
        · split at h
          · cases h
          · rename_i d r'
            split at h
            · cases hq : qscan r' with
              | none => rw [hq] at h; cases h
              | some x =>
                have ih := qscan_len n r' (by simp at hn; omega) x.1 x.2 (by rw [hq])
                rw [hq] at h
                simp at h
                obtain ⟨_, rfl⟩ := h
                simp; omega
            · split at h
              · cases hq : qscan r' with
                | none => rw [hq] at h; cases h
                | some x =>
                  have ih := qscan_len n r' (by simp at hn; omega) x.1 x.2 (by rw [hq])
                  rw [hq] at h
                  simp at h
                  obtain ⟨_, rfl⟩ := h
                  simp; omega
              · cases h
theorem nextItem_len (s : List UInt8) (h : s ≠ []) : (nextItem s).len ≤ s.length := by
  unfold nextItem
  split
  · exact absurd rfl h
  · rename_i c r
    split
    · exact runLen_le (c :: r)
    · split
      · have := runLen_le r
        split <;> simp <;> omega
      · split
        · split
          · rename_i h2
            rw [Bool.and_eq_true, beq_iff_eq] at h2
            have : r ≠ [] := by rintro rfl; simp [bt] at h2
            have := List.length_pos_iff.2 this
            simp; omega
          · simp
        · split
          · split
            · rename_i x hx
              have := (qscan_len r.length r (Nat.le_refl _) x.1 x.2 hx).1
              simp; omega
            · simp
          · simp
theorem stepItem_len (s : List UInt8) (h : s ≠ []) : (stepItem s).len ≤ s.length := by
  unfold stepItem
  split
  · exact absurd rfl h
  · rename_i c r
    split
    · simp
    · split
      · exact lineLen_le (c :: r)
      · exact nextItem_len _ h
theorem next_in {l : List UInt8} {a : Nat} (h : a < l.length) : a + (nextItem (l.drop a)).len ≤ l.length := by
  have := nextItem_len (l.drop a) (drop_ne l a h)
  rw [List.length_drop] at this
  omega
end Go.Proofs.YtlgdmbdhffdenaaGreatDoor
