/- Plain laws behind MoneyExact and MoneyScales. No program. -/
import Derived.Test.YtnigdcppdkcllaaDoorMPlain
namespace Go.Proofs.YtnigdcppdkcllaaDoor
set_option linter.unusedVariables false
set_option linter.unusedSimpArgs false

theorem absI_sgn (m x : Int) (h : 0 ≤ x) : absI (sgn m * x) = x := by
  rcases sgn_cases m with ⟨_, hs, _⟩ | ⟨_, hs, _⟩ <;> rw [hs] <;> unfold absI <;> split <;> omega
section
variable {m : Int} {ws l : List Int}
/-- Everything that is said of one part: it is sgn m times y; y is the quotient or one more; it is one more only where a remainder is left. -/
theorem part_of (hw : WOk ws) (h : IsSplit m ws l) : ∃ c : Nat → Bool, First ws.length (rst (absI m) (wsum ws) ws) (lft (absI m) (wsum ws) ws).toNat c ∧
    ∀ i, i < ws.length → gi l i = sgn m * (cen (absI m) (wsum ws) ws i + if c i then 1 else 0) ∧ (c i = true → 0 < rst (absI m) (wsum ws) ws i) ∧ 0 ≤ cen (absI m) (wsum ws) ws i ∧ cen (absI m) (wsum ws) ws i + (if c i then 1 else 0) ≤ absI m := by
  obtain ⟨c, h1, h2⟩ := h.ch
  have h0 := hw.pos
  have ha := absI_nonneg m
  refine ⟨c, h1, fun i hi => ⟨h2 i hi, First.some_rest rfl h0 h1 hi, cen_nonneg ha h0 hw.2.1 hi, ?_⟩⟩
  have hr := First.some_rest rfl h0 h1 hi
  obtain ⟨e1, e2, e3⟩ := cr (a := absI m) (ws := ws) h0 i
  have hws := w_le_sum hw.2.1 hi
  have hmul : absI m * gi ws i ≤ absI m * wsum ws := Int.mul_le_mul_of_nonneg_left hws ha
  rw [Int.mul_comm (absI m) (wsum ws)] at hmul
  cases hc : c i with
  | true =>
    have hr := hr hc
    have : wsum ws * cen (absI m) (wsum ws) ws i < wsum ws * absI m := by omega
    have := Int.lt_of_mul_lt_mul_left this (by omega)
    simp; omega
  | false =>
    have : wsum ws * cen (absI m) (wsum ws) ws i ≤ wsum ws * absI m := by omega
    have := Int.le_of_mul_le_mul_left this h0
    simp; omega
theorem split_sum (hw : WOk ws) (h : IsSplit m ws l) : l.sum = m := by
  obtain ⟨c, h1, h2⟩ := h.ch
  have h0 := hw.pos
  obtain ⟨hl, _⟩ := left_lt (a := absI m) (ws := ws) rfl h0
  rw [← sumTo_list, h.len, sumTo_congr _ h2, sumTo_mul, sumTo_add, sumTo_count, h1.cnt]
  have e : sumTo (cen (absI m) (wsum ws) ws) ws.length + ((lft (absI m) (wsum ws) ws).toNat : Int) = absI m := by
    rw [Int.toNat_of_nonneg hl]; unfold lft; omega
  rw [e, sgn_abs]
/-- One element. -/
theorem split_el (hw : WOk ws) (hm : amtB m = true) (h : IsSplit m ws l) {i : Nat} (hi : i < ws.length) :
    amtB (gi l i) = true ∧ (0 < gi l i → 0 < m) ∧ (gi l i < 0 → m < 0) ∧ (gi ws i = 0 → gi l i = 0) ∧
    (absI m * gi ws i / wsum ws ≤ absI (gi l i)) ∧ (absI (gi l i) ≤ absI m * gi ws i / wsum ws + 1) ∧ (absI (gi l i) = absI m * gi ws i / wsum ws + 1 → absI m * gi ws i % wsum ws ≠ 0) := by
  obtain ⟨c, h1, h2⟩ := part_of hw h
  obtain ⟨e1, e2, e3, e4⟩ := h2 i hi
  have ha := absI_le hm
  have hz : gi ws i = 0 → cen (absI m) (wsum ws) ws i = 0 ∧ rst (absI m) (wsum ws) ws i = 0 := fun e => by unfold cen rst; rw [e]; simp
  have ea : absI (gi l i) = cen (absI m) (wsum ws) ws i + if c i then 1 else 0 := by
    rw [e1]; exact absI_sgn m _ (by have : 0 ≤ (if c i then (1 : Int) else 0) := by split <;> omega
                                    omega)
  have hcz : cen (absI m) (wsum ws) ws i = absI m * gi ws i / wsum ws := rfl
  have hrz : rst (absI m) (wsum ws) ws i = absI m * gi ws i % wsum ws := rfl
  rw [hcz] at ea e1 e3 e4 hz
  rw [hrz] at e2 hz
  generalize absI m * gi ws i / wsum ws = q at *
  generalize absI m * gi ws i % wsum ws = r at *
  rw [amtB_iff]
  rcases sgn_cases m with ⟨hm0, hs, hab⟩ | ⟨hm0, hs, hab⟩
  all_goals
    rw [hs] at e1
    rw [hab] at e4 ha
    cases hc : c i with
    | true =>
      have hr := e2 hc
      simp only [hc, if_true] at e1 e4 ea
      refine ⟨by omega, by omega, by omega, fun e => by have := hz e; omega, by omega, by omega, by omega⟩
    | false =>
      simp only [hc] at e1 e4 ea
      simp at e1 e4 ea
      refine ⟨by omega, by omega, by omega, fun e => by have := hz e; omega, by omega, by omega, by omega⟩
/-- Two elements. -/
theorem split_two (hw : WOk ws) (h : IsSplit m ws l) {i k : Nat} (hi : i < ws.length) (hk : k < ws.length) :
    (gi ws k < gi ws i → absI (gi l k) ≤ absI (gi l i)) ∧ (gi ws i = gi ws k → gi l i - gi l k ≤ 1 ∧ gi l k - gi l i ≤ 1) := by
  obtain ⟨c, h1, h2⟩ := part_of hw h
  obtain ⟨e1, e2, e3, e4⟩ := h2 i hi
  obtain ⟨f1, f2, f3, f4⟩ := h2 k hk
  have h0 := hw.pos
  have ha := absI_nonneg m
  obtain ⟨x1, x2, x3⟩ := cr (a := absI m) (ws := ws) h0 i
  obtain ⟨y1, y2, y3⟩ := cr (a := absI m) (ws := ws) h0 k
  have ea : absI (gi l i) = cen (absI m) (wsum ws) ws i + if c i then 1 else 0 := by
    rw [e1]; exact absI_sgn m _ (by have : 0 ≤ (if c i then (1 : Int) else 0) := by split <;> omega
                                    omega)
  have fa : absI (gi l k) = cen (absI m) (wsum ws) ws k + if c k then 1 else 0 := by
    rw [f1]; exact absI_sgn m _ (by have : 0 ≤ (if c k then (1 : Int) else 0) := by split <;> omega
                                    omega)
  refine ⟨fun hlt => ?_, fun heq => ?_⟩
  · have hle : cen (absI m) (wsum ws) ws k ≤ cen (absI m) (wsum ws) ws i := Int.ediv_le_ediv h0 (Int.mul_le_mul_of_nonneg_left (by omega) ha)
    rw [ea, fa]
    rcases Int.lt_or_le (cen (absI m) (wsum ws) ws k) (cen (absI m) (wsum ws) ws i) with h5 | h5
    · cases c i <;> cases c k <;> simp <;> omega
    · have h6 : cen (absI m) (wsum ws) ws k = cen (absI m) (wsum ws) ws i := by omega
      cases hck : c k with
      | false => cases c i <;> simp <;> omega
      | true =>
        cases hci : c i with
        | true => simp; omega
        | false =>
          exfalso
          have hah := h1.fst k i hk hi hck hci
          have hmul : absI m * gi ws k ≤ absI m * gi ws i := Int.mul_le_mul_of_nonneg_left (by omega) ha
          rw [x1, y1, h6] at hmul
          unfold ahead at hah
          have hrr : rst (absI m) (wsum ws) ws k = rst (absI m) (wsum ws) ws i ∧ k < i := by omega
          have h7 : absI m * gi ws k = absI m * gi ws i := by rw [x1, y1, h6]; omega
          have hr0 := f2 hck
          rcases Int.lt_or_le 0 (absI m) with h8 | h8
          · have := Int.eq_of_mul_eq_mul_left (by omega) h7
            omega
          · have h9 : absI m = 0 := by omega
            unfold rst at hr0
            rw [h9] at hr0
            simp at hr0
  · have hcc : cen (absI m) (wsum ws) ws i = cen (absI m) (wsum ws) ws k := by unfold cen; rw [heq]
    rw [hcc] at e1
    rcases sgn_cases m with ⟨_, hs, _⟩ | ⟨_, hs, _⟩ <;> rw [hs] at e1 f1 <;> rw [e1, f1] <;> cases c i <;> cases c k <;> simp <;> omega
theorem mem_gi {l : List Int} {x : Int} (h : x ∈ l) : ∃ i, i < l.length ∧ gi l i = x := by
  obtain ⟨i, hi, e⟩ := List.mem_iff_getElem.1 h
  exact ⟨i, hi, by rw [gi_get l i hi, e]⟩
/-- The checked sum of the parts. -/
theorem split_total (hw : WOk ws) (hm : amtB m = true) (h : IsSplit m ws l) : sumF 0 l = some m := by
  have hs := split_sum hw h
  have hb := amtB_iff.1 hm
  have hel : ∀ x ∈ l, (0 < x → 0 < m) ∧ (x < 0 → m < 0) := fun x hx => by
    obtain ⟨i, hi, rfl⟩ := mem_gi hx
    rw [h.len] at hi
    obtain ⟨_, h1, h2, _⟩ := split_el hw hm h hi
    exact ⟨h1, h2⟩
  rcases Int.lt_or_le m 0 with h0 | h0
  · rw [sumF_neg l 0 (by omega) (fun x hx => by have := hel x hx; omega) (by omega)]
    congr 1; omega
  · rw [sumF_pos l 0 (by omega) (fun x hx => by have := hel x hx; omega) (by omega)]
    congr 1; omega
end

theorem gi_map {f : Int → Int} (hf : f 0 = 0) (l : List Int) (i : Nat) : gi (l.map f) i = f (gi l i) := by
  unfold gi
  rw [List.getD_eq_getElem?_getD, List.getD_eq_getElem?_getD, List.getElem?_map]
  cases l[i]? <;> simp [hf]
theorem First.congr {n k : Nat} {r r' : Nat → Int} {c : Nat → Bool} (h : First n r k c) (hr : ∀ i j, i < n → j < n → ahead r i j → ahead r' i j) : First n r' k c :=
  ⟨h.cnt, fun i j hi hj h1 h2 => hr i j hi hj (h.fst i j hi hj h1 h2)⟩
section
variable {m : Int} {ws l l' : List Int} {k : Int}
theorem wsum_scale : wsum (ws.map (· * k)) = wsum ws * k := by
  unfold wsum
  rw [List.length_map, sumTo_congr (g := fun i => k * gi ws i) _ (fun i _ => by rw [gi_map (by simp)]; exact Int.mul_comm _ _), sumTo_mul, Int.mul_comm]
theorem cen_scale (hk : 0 < k) (a : Int) (i : Nat) : cen a (wsum (ws.map (· * k))) (ws.map (· * k)) i = cen a (wsum ws) ws i := by
  unfold cen
  rw [wsum_scale, gi_map (by simp), ← Int.mul_assoc]
  exact Int.mul_ediv_mul_of_pos_left _ _ hk
theorem rst_scale (hk : 0 < k) (a : Int) (i : Nat) : rst a (wsum (ws.map (· * k))) (ws.map (· * k)) i = rst a (wsum ws) ws i * k := by
  unfold rst
  rw [wsum_scale, gi_map (by simp), ← Int.mul_assoc]
  rw [Int.mul_comm _ k, Int.mul_comm _ k, Int.mul_comm _ k]
  exact Int.mul_emod_mul_of_pos _ _ hk
theorem lft_scale (hk : 0 < k) (a : Int) : lft a (wsum (ws.map (· * k))) (ws.map (· * k)) = lft a (wsum ws) ws := by
  unfold lft
  rw [List.length_map, sumTo_congr _ (fun i _ => cen_scale hk a i)]
/-- Weights that are all multiplied. -/
theorem split_scale (hk : 0 < k) (h : IsSplit m ws l) (h' : IsSplit m (ws.map (· * k)) l') : l = l' := by
  refine IsSplit.unique (m := m) (ws := ws) h ⟨by rw [h'.len, List.length_map], ?_⟩
  obtain ⟨c, h1, h2⟩ := h'.ch
  rw [List.length_map] at h1 h2
  rw [lft_scale hk] at h1
  refine ⟨c, h1.congr fun i j _ _ hah => ?_, fun i hi => by rw [h2 i hi, cen_scale hk]⟩
  unfold ahead at hah ⊢
  rw [rst_scale hk, rst_scale hk] at hah
  rcases hah with hah | ⟨hah, hij⟩
  · exact .inl (Int.lt_of_mul_lt_mul_right hah (by omega))
  · exact .inr ⟨Int.eq_of_mul_eq_mul_right (by omega) hah, hij⟩
theorem absI_neg (m : Int) : absI (-m) = absI m := by unfold absI; split <;> split <;> omega
/-- The opposite amount. -/
theorem split_neg (hw : WOk ws) (h : IsSplit m ws l) (h' : IsSplit (-m) ws l') {i : Nat} (hi : i < ws.length) : gi l i = - gi l' i := by
  obtain ⟨c, h1, h2⟩ := part_of hw h
  obtain ⟨c', h1', h2'⟩ := part_of hw h'
  have e1 := (h2 i hi).1
  have e1' := (h2' i hi).1
  have e4 := (h2 i hi).2.2.2
  have e4' := (h2' i hi).2.2.2
  have e3 := (h2 i hi).2.2.1
  have e3' := (h2' i hi).2.2.1
  rw [absI_neg] at h1' e1' e4' e3'
  have hcc := First.unique h1 h1' i hi
  rw [← hcc] at e1' e4'
  rcases Int.lt_trichotomy m 0 with hm | hm | hm
  · have s1 : sgn m = -1 := by unfold sgn; rw [if_pos hm]
    have s2 : sgn (-m) = 1 := by unfold sgn; rw [if_neg (by omega)]
    rw [e1, e1', s1, s2]; omega
  · have ha : absI m = 0 := by unfold absI; split <;> omega
    rw [ha] at e1 e1' e4 e4' e3 e3'
    have hx0 : (cen 0 (wsum ws) ws i + if c i = true then 1 else 0) = 0 := by
      have : 0 ≤ (if c i = true then (1 : Int) else 0) := by split <;> omega
      omega
    rw [e1, e1', hx0]; simp
  · have s1 : sgn m = 1 := by unfold sgn; rw [if_neg (by omega)]
    have s2 : sgn (-m) = -1 := by unfold sgn; rw [if_pos (by omega)]
    rw [e1, e1', s1, s2]; omega
theorem WOk.scale (hk : 0 < k) (hw : ∀ i, i < ws.length → 0 ≤ gi ws i ∧ gi ws i * k ≤ 1000) (hn : ws.length ≤ 256) : WOk (ws.map (· * k)) ↔ WOk ws := by
  unfold WOk okW
  rw [List.length_map, wsum_scale]
  have hkz : wsum ws * k ≠ 0 ↔ wsum ws ≠ 0 := by
    rw [Ne, Int.mul_eq_zero]
    omega
  rw [hkz]
  refine ⟨fun ⟨h1, h2, h3⟩ => ⟨h1, fun i hi => ?_, h3⟩, fun ⟨h1, h2, h3⟩ => ⟨h1, fun i hi => ?_, h3⟩⟩
  · obtain ⟨e1, e2⟩ := hw i hi
    refine ⟨e1, ?_⟩
    have : gi ws i * 1 ≤ gi ws i * k := Int.mul_le_mul_of_nonneg_left (by omega) e1
    omega
  · rw [gi_map (by simp)]
    obtain ⟨e1, e2⟩ := hw i hi
    exact ⟨Int.mul_nonneg e1 (by omega), e2⟩
end
end Go.Proofs.YtnigdcppdkcllaaDoor
