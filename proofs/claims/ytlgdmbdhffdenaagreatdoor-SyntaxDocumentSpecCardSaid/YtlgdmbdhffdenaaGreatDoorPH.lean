/- Sorting by exchanges, by turning parts and by merging in place: plain. No program. -/
import Derived.Test.YtlgdmbdhffdenaaGreatDoorPC
import Derived.Test.YtlgdmbdhffdenaaGreatDoorYDocSt
import Derived.Deep.QuietTactic
import Derived.BigQuiet
import Derived.Shelf.SlSortCmp.QuietGrown
namespace Go.Proofs.YtlgdmbdhffdenaaGreatDoor
set_option linter.unusedVariables false
set_option linter.unusedSimpArgs false

def ky (P : List Prob) (k : Nat) : Int := match P[k]? with | some p => p.at_ | none => 0
theorem ky_of {P Q : List Prob} {k j : Nat} (h : P[k]? = Q[j]?) : ky P k = ky Q j := by unfold ky; rw [h]
def exch (P : List Prob) (i j : Nat) : List Prob := (P.set i (P[j]?.getD ⟨0, 0⟩)).set j (P[i]?.getD ⟨0, 0⟩)
theorem exch_len (P : List Prob) (i j : Nat) : (exch P i j).length = P.length := by simp [exch]
theorem exch_get {P : List Prob} {i j : Nat} (hi : i < P.length) (hj : j < P.length) (k : Nat) : (exch P i j)[k]? = if k = j then P[i]? else if k = i then P[j]? else P[k]? := by
  unfold exch
  rw [List.getElem?_eq_getElem hi, List.getElem?_eq_getElem hj, Option.getD_some, Option.getD_some]
  by_cases h1 : k = j
  · subst h1
    rw [if_pos rfl, List.getElem?_set_self (by simpa using hj)]
  · rw [if_neg h1, List.getElem?_set_ne (Ne.symm h1)]
    by_cases h2 : k = i
    · subst h2
      rw [if_pos rfl, List.getElem?_set_self hi]
    · rw [if_neg h2, List.getElem?_set_ne (Ne.symm h2)]
theorem exch_perm {P : List Prob} {i j : Nat} (hi : i < P.length) (hj : j < P.length) : (exch P i j).Perm P := by
  unfold exch
  rw [List.getElem?_eq_getElem hi, List.getElem?_eq_getElem hj, Option.getD_some, Option.getD_some]
  exact List.set_set_perm hi hj

/-- R has the members of P, and differs from it in [a, b) alone, where it holds what stood there. -/
structure Within (P R : List Prob) (a b : Nat) : Prop where
  perm : R.Perm P
  out : ∀ k, (k < a ∨ b ≤ k) → R[k]? = P[k]?
  ins : ∀ k, a ≤ k → k < b → ∃ j, a ≤ j ∧ j < b ∧ R[k]? = P[j]?
theorem Within.refl (P : List Prob) (a b : Nat) : Within P P a b := ⟨List.Perm.refl _, fun _ _ => rfl, fun k h1 h2 => ⟨k, h1, h2, rfl⟩⟩
theorem Within.trans {P Q R : List Prob} {a b : Nat} (h1 : Within P Q a b) (h2 : Within Q R a b) : Within P R a b :=
  ⟨h2.perm.trans h1.perm, fun k hk => (h2.out k hk).trans (h1.out k hk), fun k ha hb => by
    obtain ⟨j, x, y, e⟩ := h2.ins k ha hb
    obtain ⟨i, u, v, f⟩ := h1.ins j x y
    exact ⟨i, u, v, e.trans f⟩⟩
theorem Within.mono {P R : List Prob} {a b a' b' : Nat} (h : Within P R a b) (ha : a' ≤ a) (hb : b ≤ b') : Within P R a' b' :=
  ⟨h.perm, fun k hk => h.out k (by omega), fun k h1 h2 => by
    by_cases hk : a ≤ k ∧ k < b
    · obtain ⟨j, x, y, e⟩ := h.ins k hk.1 hk.2
      exact ⟨j, by omega, by omega, e⟩
    · exact ⟨k, h1, h2, h.out k (by omega)⟩⟩
theorem Within.len {P R : List Prob} {a b : Nat} (h : Within P R a b) : R.length = P.length := h.perm.length_eq
theorem exch_within {P : List Prob} {i j a b : Nat} (hi : i < P.length) (hj : j < P.length) (ai : a ≤ i) (bi : i < b) (aj : a ≤ j) (bj : j < b) : Within P (exch P i j) a b :=
  ⟨exch_perm hi hj, fun k hk => by rw [exch_get hi hj, if_neg (by omega), if_neg (by omega)], fun k h1 h2 => by
    rw [exch_get hi hj]
    split
    · exact ⟨i, ai, bi, rfl⟩
    · split
      · exact ⟨j, aj, bj, rfl⟩
      · exact ⟨k, h1, h2, rfl⟩⟩
/-- Sorted in [a, b). -/
def SortedR (P : List Prob) (a b : Nat) : Prop := ∀ i j, a ≤ i → i ≤ j → j < b → ky P i ≤ ky P j
theorem SortedR.sub {P : List Prob} {a b a' b' : Nat} (h : SortedR P a b) (ha : a ≤ a') (hb : b' ≤ b) : SortedR P a' b' := fun i j h1 h2 h3 => h i j (by omega) h2 (by omega)
theorem SortedR.short {P : List Prob} {a b : Nat} (h : b ≤ a + 1) : SortedR P a b := fun i j h1 h2 h3 => by
  obtain rfl : i = j := by omega
  exact Int.le_refl _
theorem SortedR.out {P R : List Prob} {a b a' b' : Nat} (h : SortedR P a b) (hw : Within P R a' b') (hd : b ≤ a' ∨ b' ≤ a) : SortedR R a b := fun i j h1 h2 h3 => by
  rw [ky_of (hw.out i (by omega)), ky_of (hw.out j (by omega))]
  exact h i j h1 h2 h3
theorem SortedR.all {P : List Prob} (h : SortedR P 0 P.length) : Sorted P := by
  unfold Sorted
  rw [List.pairwise_iff_getElem]
  intro i j hi hj hij
  have := h i j (Nat.zero_le _) (by omega) hj
  unfold ky at this
  rw [List.getElem?_eq_getElem hi, List.getElem?_eq_getElem hj] at this
  exact this

/-- Q is P with the n members from a on and the n from b on exchanged. -/
def IsSwR (P Q : List Prob) (a b n : Nat) : Prop := Q.Perm P ∧ ∀ k, Q[k]? = if a ≤ k ∧ k < a + n then P[k - a + b]? else if b ≤ k ∧ k < b + n then P[k - b + a]? else P[k]?
theorem IsSwR.zero (P : List Prob) (a b : Nat) : IsSwR P P a b 0 := ⟨List.Perm.refl _, fun k => by rw [if_neg (by omega), if_neg (by omega)]⟩
theorem IsSwR.succ {P Q : List Prob} {a b n : Nat} (h : IsSwR P Q a b n) (hab : a + n + 1 ≤ b) (hb : b + n < P.length) : IsSwR P (exch Q (a + n) (b + n)) a b (n + 1) := by
  have hl := h.1.length_eq
  refine ⟨(exch_perm (by omega) (by omega)).trans h.1, fun k => ?_⟩
  rw [exch_get (by omega) (by omega)]
  simp only [h.2]
  repeat' split
  all_goals first | (exfalso; omega) | (congr 1; omega) | rfl
/-- R is P with the parts [a, m) and [m, b) exchanged. -/
def IsRot (P R : List Prob) (a m b : Nat) : Prop := ∀ k, R[k]? = if a ≤ k ∧ k < a + (b - m) then P[k + (m - a)]? else if a + (b - m) ≤ k ∧ k < b then P[k - (b - m)]? else P[k]?
theorem rot_id {P : List Prob} {a m b : Nat} (h : a = m ∨ m = b) : IsRot P P a m b := fun k => by
  repeat' split
  all_goals first | (exfalso; omega) | (congr 1; omega) | rfl
theorem rot_eq {P Q : List Prob} {m i : Nat} (hi : i ≤ m) (h : IsSwR P Q (m - i) m i) : IsRot P Q (m - i) m (m + i) := fun k => by
  rw [h.2]
  repeat' split
  all_goals first | (exfalso; omega) | (congr 1; omega) | rfl
theorem rot_gt {P Q R : List Prob} {m i j : Nat} (hi : i ≤ m) (hj : j < i) (h : IsSwR P Q (m - i) m j) (hr : IsRot Q R (m - (i - j)) m (m + j)) : IsRot P R (m - i) m (m + j) := fun k => by
  rw [hr k]
  simp only [h.2]
  repeat' split
  all_goals first | (exfalso; omega) | (congr 1; omega) | rfl
theorem rot_lt {P Q R : List Prob} {m i j : Nat} (hi : i ≤ m) (hj : i < j) (h : IsSwR P Q (m - i) (m + j - i) i) (hr : IsRot Q R (m - i) m (m + (j - i))) : IsRot P R (m - i) m (m + j) := fun k => by
  rw [hr k]
  simp only [h.2]
  repeat' split
  all_goals first | (exfalso; omega) | (congr 1; omega) | rfl
theorem IsRot.within {P R : List Prob} {a m b : Nat} (h : IsRot P R a m b) (hp : R.Perm P) (ham : a ≤ m) (hmb : m ≤ b) : Within P R a b :=
  ⟨hp, fun k hk => by rw [h k, if_neg (by omega), if_neg (by omega)], fun k h1 h2 => by
    rw [h k]
    split
    · exact ⟨_, by omega, by omega, rfl⟩
    · rw [if_pos (by omega)]
      exact ⟨_, by omega, by omega, rfl⟩⟩
theorem IsRot.ky {P R : List Prob} {a m b : Nat} (h : IsRot P R a m b) (k : Nat) : ky R k = if a ≤ k ∧ k < a + (b - m) then ky P (k + (m - a)) else if a + (b - m) ≤ k ∧ k < b then ky P (k - (b - m)) else ky P k := by
  have e := h k
  by_cases h1 : a ≤ k ∧ k < a + (b - m)
  · rw [if_pos h1] at e ⊢
    exact ky_of e
  · rw [if_neg h1] at e ⊢
    by_cases h2 : a + (b - m) ≤ k ∧ k < b
    · rw [if_pos h2] at e ⊢
      exact ky_of e
    · rw [if_neg h2] at e ⊢
      exact ky_of e

theorem rot_up {P Q : List Prob} {a k : Nat} (h : IsRot P Q a (a + 1) (k + 1)) (hak : a ≤ k) (hk : k + 1 < P.length) (hp : Q.Perm P) : IsRot P (exch Q k (k + 1)) a (a + 1) (k + 2) := fun x => by
  have hl := hp.length_eq
  rw [exch_get (by omega) (by omega)]
  simp only [h _]
  repeat' split
  all_goals first | (exfalso; omega) | (congr 1; omega) | rfl
theorem rot_down {P Q : List Prob} {m k : Nat} (h : IsRot P Q (k + 1) m (m + 1)) (hk : k + 1 ≤ m) (hm : m < P.length) (hp : Q.Perm P) : IsRot P (exch Q (k + 1) k) k m (m + 1) := fun x => by
  have hl := hp.length_eq
  rw [exch_get (by omega) (by omega)]
  simp only [h _]
  repeat' split
  all_goals first | (exfalso; omega) | (congr 1; omega) | rfl

/-- Between two rounds of a search by halves. -/
structure Bs (lo hi : Nat) (L U : Nat → Prop) (i j : Nat) : Prop where
  lo_ : lo ≤ i
  ij : i ≤ j
  hi_ : j ≤ hi
  l : i = lo ∨ L (i - 1)
  u : j = hi ∨ U j
theorem Bs.start {lo hi : Nat} (h : lo ≤ hi) (L U : Nat → Prop) : Bs lo hi L U lo hi := ⟨Nat.le_refl _, h, Nat.le_refl _, .inl rfl, .inl rfl⟩
theorem Bs.up {lo hi i j h : Nat} {L U : Nat → Prop} (k : Bs lo hi L U i j) (h1 : i ≤ h) (h2 : h < j) (hl : L h) : Bs lo hi L U (h + 1) j := ⟨by have := k.lo_; omega, h2, k.hi_, .inr (by rw [Nat.add_sub_cancel]; exact hl), k.u⟩
theorem Bs.down {lo hi i j h : Nat} {L U : Nat → Prop} (k : Bs lo hi L U i j) (h1 : i ≤ h) (h2 : h < j) (hu : U h) : Bs lo hi L U i h := ⟨k.lo_, h1, by have := k.hi_; omega, k.l, .inr hu⟩

/-- What a merge in place brings about. -/
def Merged (P R : List Prob) (a m b : Nat) : Prop := Within P R a b ∧ (SortedR P a m → SortedR P m b → SortedR R a b)
/-- One member before the others. -/
theorem merge_first {P R : List Prob} {a b i : Nat} (hab : a + 1 < b) (h1 : a + 1 ≤ i) (h2 : i ≤ b) (hr : IsRot P R a (a + 1) i) (hp : R.Perm P) (hl : i = a + 1 ∨ ky P (i - 1) < ky P a) (hu : i = b ∨ ¬ ky P i < ky P a) : Merged P R a (a + 1) b := by
  refine ⟨(hr.within hp (by omega) h1).mono (Nat.le_refl _) h2, fun _ hs x y hx hxy hy => ?_⟩
  rw [hr.ky, hr.ky]
  have low : ∀ z, a + 1 ≤ z → z < i → ky P z ≤ ky P a := fun z z1 z2 => by
    have := hs z (i - 1) z1 (by omega) (by omega)
    omega
  have upp : ∀ z, i ≤ z → z < b → ky P a ≤ ky P z := fun z z1 z2 => by
    have := hs i z (by omega) z1 z2
    omega
  repeat' split
  all_goals first
    | (exfalso; omega)
    | (apply hs <;> omega)
    | (rw [show x - (i - (a + 1)) = a by omega, show y - (i - (a + 1)) = a by omega]; exact Int.le_refl _)
    | (rw [show y - (i - (a + 1)) = a by omega]; apply low <;> omega)
    | (rw [show x - (i - (a + 1)) = a by omega]; apply upp <;> omega)
/-- One member behind the others. -/
theorem merge_last {P R : List Prob} {a m i : Nat} (ham : a < m) (h1 : a ≤ i) (h2 : i ≤ m) (hr : IsRot P R i m (m + 1)) (hp : R.Perm P) (hl : i = a ∨ ¬ ky P m < ky P (i - 1)) (hu : i = m ∨ ky P m < ky P i) : Merged P R a m (m + 1) := by
  refine ⟨(hr.within hp h2 (by omega)).mono h1 (Nat.le_refl _), fun hs _ x y hx hxy hy => ?_⟩
  rw [hr.ky, hr.ky]
  have low : ∀ z, a ≤ z → z < i → ky P z ≤ ky P m := fun z z1 z2 => by
    have := hs z (i - 1) z1 (by omega) (by omega)
    omega
  have upp : ∀ z, i ≤ z → z < m → ky P m ≤ ky P z := fun z z1 z2 => by
    have := hs i z (by omega) z1 z2
    omega
  repeat' split
  all_goals first
    | (exfalso; omega)
    | (rw [show x + (m - i) = m by omega, show y + (m - i) = m by omega]; exact Int.le_refl _)
    | (rw [show y + (m - i) = m by omega]; apply low <;> omega)
    | (rw [show x + (m - i) = m by omega]; apply upp <;> omega)
    | (apply hs <;> omega)
/-- The two halves, each merged, after the middle is turned. -/
theorem merge_halves {P R R1 R2 : List Prob} {a m b mid s e : Nat} (h1 : a ≤ s) (h2 : s ≤ m) (h3 : m ≤ e) (h4 : e ≤ b) (h5 : s ≤ mid) (h6 : mid ≤ e) (h7 : s + e = mid + m)
    (hl : s = a ∨ e = b ∨ ky P (s - 1) ≤ ky P e) (hu : s = m ∨ e = m ∨ ky P (e - 1) < ky P s) (hr : IsRot P R s m e) (hp : R.Perm P)
    (m1 : (a < s ∧ s < mid ∧ Merged R R1 a s mid) ∨ (¬ (a < s ∧ s < mid) ∧ R1 = R)) (m2 : (mid < e ∧ e < b ∧ Merged R1 R2 mid e b) ∨ (¬ (mid < e ∧ e < b) ∧ R2 = R1)) : Merged P R2 a m b := by
  have w0 := hr.within hp h2 h3
  have w1 : Within R R1 a mid := by
    rcases m1 with ⟨_, _, h⟩ | ⟨_, rfl⟩
    · exact h.1
    · exact Within.refl _ _ _
  have w2 : Within R1 R2 mid b := by
    rcases m2 with ⟨_, _, h⟩ | ⟨_, rfl⟩
    · exact h.1
    · exact Within.refl _ _ _
  refine ⟨((w0.mono h1 h4).trans (w1.mono (Nat.le_refl _) (by omega))).trans (w2.mono (by omega) (Nat.le_refl _)), fun sa sb => ?_⟩
  have r1 : SortedR R a s := fun i j x y z => by
    rw [hr.ky, hr.ky, if_neg (by omega), if_neg (by omega), if_neg (by omega), if_neg (by omega)]
    exact sa i j x y (by omega)
  have r2 : SortedR R s mid := fun i j x y z => by
    rw [hr.ky, hr.ky, if_pos (by omega), if_pos (by omega)]
    exact sb _ _ (by omega) (by omega) (by omega)
  have r3 : SortedR R mid e := fun i j x y z => by
    rw [hr.ky, hr.ky, if_neg (by omega), if_pos (by omega), if_neg (by omega), if_pos (by omega)]
    exact sa _ _ (by omega) (by omega) (by omega)
  have r4 : SortedR R e b := fun i j x y z => by
    rw [hr.ky, hr.ky, if_neg (by omega), if_neg (by omega), if_neg (by omega), if_neg (by omega)]
    exact sb i j (by omega) y z
  have cross : ∀ i j, a ≤ i → i < mid → mid ≤ j → j < b → ky R i ≤ ky R j := fun i j i1 i2 j1 j2 => by
    rw [hr.ky, hr.ky]
    have A : ∀ x y, a ≤ x → x ≤ y → y < m → ky P x ≤ ky P y := sa
    have B : ∀ x y, m ≤ x → x ≤ y → y < b → ky P x ≤ ky P y := sb
    by_cases hi : i < s
    · rw [if_neg (by omega), if_neg (by omega)]
      by_cases hj : j < e
      · rw [if_neg (by omega), if_pos (by omega)]
        exact A _ _ i1 (by omega) (by omega)
      · rw [if_neg (by omega), if_neg (by omega)]
        have x1 := A i (s - 1) i1 (by omega) (by omega)
        have x2 := B e j h3 (by omega) j2
        omega
    · rw [if_pos (by omega)]
      by_cases hj : j < e
      · rw [if_neg (by omega), if_pos (by omega)]
        have x1 := B (i + (m - s)) (e - 1) (by omega) (by omega) (by omega)
        have x2 := A s (j - (e - m)) h1 (by omega) (by omega)
        omega
      · rw [if_neg (by omega), if_neg (by omega)]
        exact B _ _ (by omega) (by omega) j2
  have s1 : SortedR R1 a mid := by
    rcases m1 with ⟨_, _, h⟩ | ⟨hn, rfl⟩
    · exact h.2 r1 r2
    · rcases Nat.lt_or_ge a s with h | h
      · exact r1.sub (Nat.le_refl _) (by omega)
      · exact r2.sub (by omega) (Nat.le_refl _)
  have s2 : SortedR R2 mid b := by
    rcases m2 with ⟨_, _, h⟩ | ⟨hn, rfl⟩
    · exact h.2 (r3.out w1 (.inr (Nat.le_refl _))) (r4.out w1 (.inr h6))
    · rcases Nat.lt_or_ge mid e with h | h
      · exact (r3.out w1 (.inr (Nat.le_refl _))).sub (Nat.le_refl _) (by omega)
      · exact (r4.out w1 (.inr h6)).sub (by omega) (Nat.le_refl _)
  intro i j x y z
  by_cases hj : j < mid
  · rw [ky_of (w2.out i (by omega)), ky_of (w2.out j (by omega))]
    exact s1 i j x y hj
  · by_cases hi : i < mid
    · obtain ⟨i', p1, p2, p3⟩ := w1.ins i x hi
      obtain ⟨j', q1, q2, q3⟩ := w2.ins j (by omega) z
      rw [ky_of (w2.out i (by omega)), ky_of p3, ky_of q3, ky_of (w1.out j' (by omega))]
      exact cross i' j' p1 p2 q1 q2
    · exact s2 i j (by omega) y z

/-- Between two rounds of the inner loop of the insertion sort: [a, i] is sorted but for j, and j's member is below those behind it. -/
def InsAt (Q : List Prob) (a i j : Nat) : Prop := (∀ x y, a ≤ x → x ≤ y → y ≤ i → x ≠ j → y ≠ j → ky Q x ≤ ky Q y) ∧ ∀ y, j < y → y ≤ i → ky Q j ≤ ky Q y
theorem InsAt.start {Q : List Prob} {a i : Nat} (h : SortedR Q a i) : InsAt Q a i i := ⟨fun x y h1 h2 h3 _ h5 => h x y h1 h2 (by omega), fun y h1 h2 => by omega⟩
theorem InsAt.stop {Q : List Prob} {a i j : Nat} (h : InsAt Q a i j) (haj : a ≤ j) (hj : j ≤ i) (hs : j = a ∨ ¬ ky Q j < ky Q (j - 1)) : SortedR Q a (i + 1) := fun x y h1 h2 h3 => by
  by_cases hx : x = j
  · subst hx
    by_cases hy : y = x
    · subst hy; exact Int.le_refl _
    · exact h.2 y (by omega) (by omega)
  · by_cases hy : y = j
    · subst hy
      have := h.1 x (y - 1) h1 (by omega) (by omega) hx (by omega)
      omega
    · exact h.1 x y h1 h2 (by omega) hx hy
theorem InsAt.step {Q : List Prob} {a i j : Nat} (h : InsAt Q a i (j + 1)) (haj : a ≤ j) (hj : j + 1 ≤ i) (hi : i < Q.length) (hs : ky Q (j + 1) < ky Q j) : InsAt (exch Q (j + 1) j) a i j := by
  have g : ∀ k, ky (exch Q (j + 1) j) k = if k = j then ky Q (j + 1) else if k = j + 1 then ky Q j else ky Q k := fun k => by
    have := exch_get (P := Q) (i := j + 1) (j := j) (by omega) (by omega) k
    split at this
    · next e => rw [if_pos e]; exact ky_of this
    · next e =>
      rw [if_neg e]
      split at this
      · next e2 => rw [if_pos e2]; exact ky_of this
      · next e2 => rw [if_neg e2]; exact ky_of this
  refine ⟨fun x y h1 h2 h3 h4 h5 => ?_, fun y h1 h2 => ?_⟩
  · rw [g, g, if_neg h4, if_neg h5]
    by_cases hx : x = j + 1
    · rw [if_pos hx]
      by_cases hy : y = j + 1
      · rw [if_pos hy]; exact Int.le_refl _
      · rw [if_neg hy]; exact h.1 j y haj (by omega) h3 (by omega) hy
    · rw [if_neg hx]
      by_cases hy : y = j + 1
      · rw [if_pos hy]; exact h.1 x j h1 (by omega) (by omega) hx (by omega)
      · rw [if_neg hy]; exact h.1 x y h1 h2 h3 hx hy
  · rw [g, g, if_pos rfl, if_neg (by omega)]
    split
    · omega
    · exact h.2 y (by omega) h2

/-- Blocks of size s are sorted. -/
def SB (P : List Prob) (s n : Nat) : Prop := ∀ t, SortedR P (t * s) (min (t * s + s) n)
/-- .. q blocks of size s. -/
def SQ (P : List Prob) (s q : Nat) : Prop := ∀ t, t < q → SortedR P (t * s) (t * s + s)
theorem blk_le {t q s : Nat} (h : t < q) : t * s + s ≤ q * s := by
  have := Nat.mul_le_mul_right s (Nat.succ_le_of_lt h)
  rw [Nat.succ_mul] at this
  exact this
theorem SQ.zero (P : List Prob) (s : Nat) : SQ P s 0 := fun t h => by omega
theorem SQ.next {P R : List Prob} {s q : Nat} (h : SQ P s q) (hw : Within P R (q * s) (q * s + s)) (hs : SortedR R (q * s) (q * s + s)) : SQ R s (q + 1) := fun t ht => by
  rcases Nat.lt_or_ge t q with h1 | h1
  · exact (h t h1).out hw (.inl (blk_le h1))
  · obtain rfl : t = q := by omega
    exact hs
theorem SQ.done {P R : List Prob} {s q n : Nat} (h : SQ P s q) (hn : n ≤ q * s + s) (hw : Within P R (q * s) n) (hs : SortedR R (q * s) n) : SB R s n := fun t => by
  rcases Nat.lt_or_ge t q with h1 | h1
  · have := blk_le (s := s) h1
    by_cases hx : t * s + s ≤ n
    · rw [Nat.min_eq_left hx]
      exact (h t h1).out hw (.inl this)
    · exact ((h t h1).out hw (.inl this)).sub (Nat.le_refl _) (by omega)
  · rcases Nat.eq_or_lt_of_le h1 with rfl | h2
    · exact hs.sub (Nat.le_refl _) (by omega)
    · have := blk_le (s := s) h2
      exact fun i j x y z => by omega
/-- The blocks from q on are as they were. -/
def SBfrom (P : List Prob) (s n q : Nat) : Prop := ∀ t, q ≤ t → SortedR P (t * s) (min (t * s + s) n)
theorem SB.from_ {P : List Prob} {s n : Nat} (h : SB P s n) : SBfrom P s n 0 := fun t _ => h t
theorem SBfrom.next {P R : List Prob} {s n q a b : Nat} (h : SBfrom P s n q) (q' : Nat) (hq : q ≤ q') (hw : Within P R a b) (hb : b ≤ q' * s) : SBfrom R s n q' := fun t ht => by
  have : q' * s ≤ t * s := Nat.mul_le_mul_right s ht
  exact (h t (by omega)).out hw (.inr (by omega))
theorem SB.all {P : List Prob} {s n : Nat} (h : SB P s n) (hn : n ≤ s) : SortedR P 0 n := by
  have := h 0
  rw [Nat.zero_mul] at this
  exact this.sub (Nat.le_refl _) (by omega)
end Go.Proofs.YtlgdmbdhffdenaaGreatDoor

/- A row of problems in one block, and what an exchange does to it. -/
namespace Go.Proofs.YtlgdmbdhffdenaaGreatDoor
set_option linter.unusedVariables false
set_option linter.unusedSimpArgs false
open Go.RowKit

/-- Block b (z cells) begins with the problems P. -/
def PRow (w : World) (b z : Nat) (P : List Prob) : Prop := ∃ cur, Blk w b 49 cur ∧ cur.size = z ∧ ∀ (j : Nat) (u : Value), (P.flatMap probCells)[j]? = some u → cur[j]? = some u
theorem flat_set : ∀ (P : List Prob) (k : Nat) (p : Prob), k < P.length → (P.set k p).flatMap probCells = ((P.flatMap probCells).set (k * 2) (.int .i64 p.at_)).set (k * 2 + 1) (.int .i64 p.code)
  | [], k, p, h => absurd h (by simp)
  | q :: r, 0, p, _ => by simp [probCells]
  | q :: r, k + 1, p, h => by
    have := flat_set r k p (by simpa using h)
    rw [List.set_cons_succ, List.flatMap_cons, List.flatMap_cons, this]
    show probCells q ++ _ = ((probCells q ++ _).set _ _).set _ _
    rw [List.set_append, if_neg (by rw [prob_len]; omega), List.set_append, if_neg (by rw [prob_len]; omega), prob_len, show (k + 1) * 2 - 2 = k * 2 by omega, show (k + 1) * 2 + 1 - 2 = k * 2 + 1 by omega]
section
variable {w w' : World} {b z : Nat} {P : List Prob}
theorem PRow.only {S : Nat → Prop} (h : PRow w b z P) (ho : Only S w w') (hn : ¬ S b) : PRow w' b z P := by
  obtain ⟨cur, h1, h2⟩ := h
  exact ⟨cur, h1.only ho hn, h2⟩
theorem PRow.below (h : PRow w b z P) (hb : Below w.heap.size w w') : PRow w' b z P := h.only (S := fun _ => False) (Only.of_below hb) (fun h => h)
theorem PRow.lt (h : PRow w b z P) : b < w.heap.size := by
  obtain ⟨cur, h1, _⟩ := h
  exact h1.lt
theorem PRow.frozen (h : PRow w b z P) (i : Nat) : w.frozen? ⟨b, i, none⟩ = false := by
  obtain ⟨cur, h1, _⟩ := h
  exact h1.frozen i
theorem PRow.cell (h : PRow w b z P) {k : Nat} {p : Prob} (hp : P[k]? = some p) : w.cell? ⟨b, k * 2, none⟩ = some (.int .i64 p.at_) ∧ w.cell? ⟨b, k * 2 + 1, none⟩ = some (.int .i64 p.code) := by
  obtain ⟨cur, h1, _, h2⟩ := h
  obtain ⟨hk, rfl⟩ := List.getElem?_eq_some_iff.1 hp
  constructor
  · rw [h1.cell]
    apply h2
    rw [show k * 2 = k * 2 + 0 by omega, flat_get probCells 2 prob_len P k 0 hk (by omega)]
    rfl
  · rw [h1.cell]
    apply h2
    rw [flat_get probCells 2 prob_len P k 1 hk (by omega)]
    rfl
theorem PRow.put (h : PRow w b z P) {k : Nat} (hk : k < P.length) (p : Prob) : PRow ((w.setCell ⟨b, k * 2, none⟩ (.int .i64 p.at_)).setCell ⟨b, k * 2 + 1, none⟩ (.int .i64 p.code)) b z (P.set k p) := by
  obtain ⟨cur, h1, h3, h2⟩ := h
  refine ⟨_, (h1.set (k * 2) _).set (k * 2 + 1) _, by simp [h3], fun j u hj => ?_⟩
  rw [flat_set P k p hk] at hj
  have hl : ∀ j, j < (P.flatMap probCells).length → j < cur.size := fun j hj => by
    have := h2 j _ (List.getElem?_eq_getElem hj)
    rcases Nat.lt_or_ge j cur.size with h | h
    · exact h
    · rw [Array.getElem?_eq_none h] at this; cases this
  have hf : (P.flatMap probCells).length = P.length * 2 := flatMap_len probCells 2 prob_len P
  have z0 := hl (k * 2) (by omega)
  have z1 := hl (k * 2 + 1) (by omega)
  rw [List.getElem?_set, List.getElem?_set] at hj
  rw [Array.getElem?_setIfInBounds, Array.getElem?_setIfInBounds]
  simp only [Array.size_setIfInBounds, List.length_set] at hj ⊢
  split
  · next e =>
    rw [if_pos e, if_pos (by omega)] at hj
    exact hj
  · next e =>
    rw [if_neg e] at hj
    split
    · next e2 =>
      rw [if_pos e2, if_pos (by omega)] at hj
      exact hj
    · next e2 =>
      rw [if_neg e2] at hj
      exact h2 j u hj
theorem PRow.exch (h : PRow w b z P) {i j : Nat} {p q : Prob} (hi : P[i]? = some p) (hj : P[j]? = some q) :
    PRow ((((w.setCell ⟨b, i * 2, none⟩ (.int .i64 q.at_)).setCell ⟨b, i * 2 + 1, none⟩ (.int .i64 q.code)).setCell ⟨b, j * 2, none⟩ (.int .i64 p.at_)).setCell ⟨b, j * 2 + 1, none⟩ (.int .i64 p.code)) b z (Go.Proofs.YtlgdmbdhffdenaaGreatDoor.exch P i j) := by
  obtain ⟨hi', _⟩ := List.getElem?_eq_some_iff.1 hi
  obtain ⟨hj', _⟩ := List.getElem?_eq_some_iff.1 hj
  have h1 := h.put hi' q
  have h2 := h1.put (k := j) (by simpa using hj') p
  unfold Go.Proofs.YtlgdmbdhffdenaaGreatDoor.exch
  rw [hi, hj, Option.getD_some, Option.getD_some]
  exact h2
theorem Only.dr {S : Nat → Prop} (w : World) : Only S w w.drew := ⟨rfl, rfl, rfl, Nat.le_refl _, fun _ _ _ => rfl⟩
theorem Only.put {b i j : Nat} (w : World) (u v : Value) : Only (· = b) w ((w.setCell ⟨b, i, none⟩ u).setCell ⟨b, j, none⟩ v) :=
  (Only.set (S := (· = b)) w (p := ⟨b, i, none⟩) rfl u).trans (Only.set (S := (· = b)) _ (p := ⟨b, j, none⟩) rfl v)
end
/-- From and to a row that may be written. -/
theorem BRow.prow {w : World} {base base2 n c : Nat} {A : Option Addr} {P : List Prob} (h : BRow w base base2 A n c P) (hn : 0 < n) : ∃ b z, A = some ⟨b, 0, none⟩ ∧ PRow w b z P ∧ n ≤ c ∧ ∀ (w' : World) (R : List Prob), R.length = P.length → PRow w' b z R → BRow w' base base2 A n c R := by
  have hlen := h.len
  rcases h with h | ⟨h1, h0, b, cur, rfl, hb, hB, h2, h3⟩
  · rcases h.2 with ⟨_, e⟩ | ⟨g, cap, cur, e, hb, hg, hnc, hcm, hcs, ht⟩
    · omega
    · injection e with e1 e2 e3
      subst e1 e3
      refine ⟨g, cur.size, rfl, ⟨cur, hg, rfl, fun j u hj => ?_⟩, hnc, fun w' R hl hR => ?_⟩
      · rw [← ht, List.getElem?_take] at hj
        split at hj
        · simpa using hj
        · cases hj
      · obtain ⟨cur', k1, k2, k3⟩ := hR
        have hf : (R.flatMap probCells).length = n * 2 := by rw [flatMap_len probCells 2 prob_len]; omega
        refine .inl ⟨hf, .inr ⟨g, c, cur', rfl, hb, k1, hnc, hcm, by rw [k2, hcs], ?_⟩⟩
        apply List.ext_getElem?
        intro j
        rw [List.getElem?_take]
        by_cases hj : j < n * 2
        · rw [if_pos hj]
          have e : (R.flatMap probCells)[j]? = some ((R.flatMap probCells)[j]'(by omega)) := List.getElem?_eq_getElem (by omega)
          rw [e]
          simpa using k3 j _ e
        · rw [if_neg hj, List.getElem?_eq_none (by omega)]
  · refine ⟨b, cur.size, rfl, ⟨cur, hB, rfl, h3⟩, by omega, fun w' R hl hR => ?_⟩
    obtain ⟨cur', k1, k2, k3⟩ := hR
    exact .inr ⟨h1, h0, b, cur', rfl, hb, k1, by rw [flatMap_len probCells 2 prob_len]; omega, k3⟩
end Go.Proofs.YtlgdmbdhffdenaaGreatDoor

/- The comparison, the exchange of two parts, the turning of two parts, the insertion sort: by their contracts. -/
namespace Go.Proofs.YtlgdmbdhffdenaaGreatDoor
set_option linter.unusedVariables false
set_option linter.unusedSimpArgs false
open Go.RowKit
open Go.Sort (grow alloc_eq_grow grow_grow)

theorem hmixP : Tryz.prog.follows .mixedOrders = true := by kernel_rfl
theorem ynan_any (x : Int) (w : World) : Calls Tryz.prog 76 #[.int .i64 x] w fun e w' => e = .returned (.bool false) ∧ w' = w := by
  have hx : (x != x) = false := bne_self_eq_false x
  go_enter Tryz.func76, Tryz.ntmps76
  go_wp2
  go_ret
  exact ⟨rfl, rfl⟩
def cmpV (x y : Int) : Int := if x < y then -1 else if y < x then 1 else 0
theorem ycmp_any (x y : Int) (w : World) : Calls Tryz.prog 40 #[.int .i64 x, .int .i64 y] w fun e w' => e = .returned (.int .i64 (cmpV x y)) ∧ w' = w := by
  obtain ⟨h1, hv⟩ | ⟨h1, h2, hv⟩ | ⟨h1, h2, hv⟩ : (x < y ∧ cmpV x y = -1) ∨ (¬ x < y ∧ y < x ∧ cmpV x y = 1) ∨ (¬ x < y ∧ ¬ y < x ∧ cmpV x y = 0) := by
    unfold cmpV
    by_cases h1 : x < y
    · exact .inl ⟨h1, if_pos h1⟩
    · by_cases h2 : y < x
      · exact .inr (.inl ⟨h1, h2, by rw [if_neg h1, if_pos h2]⟩)
      · exact .inr (.inr ⟨h1, h2, by rw [if_neg h1, if_neg h2]⟩)
  all_goals
    rw [hv]
    clear hv
    go_enter Tryz.func40, Tryz.ntmps40
    go_wp2_with (fail)
    refine (ynan_any x w).mono ?_
    rintro e w1 ⟨rfl, rfl⟩
    go_wp2_with (fail)
    refine (ynan_any y w1).mono ?_
    rintro e w2 ⟨rfl, rfl⟩
    go_wp2_with (fail)
    go_ret
    exact ⟨rfl, rfl⟩
theorem cmp_lt (x y : Int) : (cmpV x y < 0) ↔ x < y := by
  unfold cmpV
  split
  · simp [*]
  · split <;> simp [*]
theorem ydoc1_grown (p q : Prob) (w : World) : Calls Tryz.prog 39 #[.agg #[.int .i64 p.at_, .int .i64 p.code], .agg #[.int .i64 q.at_, .int .i64 q.code]] w fun e w' => e = .returned (.int .i64 (cmpV p.at_ q.at_)) ∧ ∃ n os, w' = grow (w.drewN n) os := by
  go_enter Tryz.func39, Tryz.ntmps39
  go_wp2_with (fail)
  first | (refine calls_named ?_; intro W hW) | (refine body_named ?_; intro W hW) | (refine wpList_named ?_; intro W hW) | (refine wp_named ?_; intro W hW)
  have hb : ∃ n os, W = grow (w.drewN n) os := ⟨0, _, by rw [← hW, alloc_eq_grow, alloc_eq_grow, grow_grow]; rfl⟩
  refine (ycmp_any p.at_ q.at_ W).mono ?_
  rintro e w1 ⟨rfl, rfl⟩
  go_wp2
  go_ret
  exact ⟨rfl, hb⟩
theorem Only.gr {S : Nat → Prop} (w : World) (n : Nat) (os : Array Obj) : Only S w (grow (w.drewN n) os) :=
  ⟨rfl, rfl, rfl, by simp [grow, World.drewN], fun k hk _ => by simp only [grow, World.drewN]; rw [Array.getElem?_append_left hk]⟩

set_option maxHeartbeats 4000000 in
set_option maxRecDepth 100000 in
theorem yswap_any (b z a1 b1 n m c : Nat) (fv : Value) (P : List Prob) (w : World) (h : PRow w b z P) (hm : m = P.length) (hc : m ≤ 100000) (hab : a1 + n ≤ b1) (hb : b1 + n ≤ m) :
    Calls Tryz.prog 149 #[.slice (some ⟨b, 0, none⟩) m c, .int .i64 a1, .int .i64 b1, .int .i64 n, fv] w fun e w' => e = .returned (.tuple #[]) ∧ Only (· = b) w w' ∧ ∃ R, PRow w' b z R ∧ IsSwR P R a1 b1 n := by
  have hmix := hmixP
  have HH := Lib.hid h
  clear h
  go_enter Tryz.func149, Tryz.ntmps149
  go_wp2_with (fail)
  go_loopw [10] (fun s wr => ∃ (k : Nat) (R : List Prob), k ≤ n ∧ s = .int .i64 k ∧ Hid (Only (· = b) w wr) ∧ Hid (PRow wr b z R) ∧ Hid (IsSwR P R a1 b1 k)) (fun s _ => n - (intOf s).toNat)
  case atStart => exact ⟨0, P, Nat.zero_le _, rfl, Only.refl _ _, HH.out, IsSwR.zero P a1 b1⟩
  case round =>
    obtain ⟨k, R, hk, rfl, HO, HR, HS⟩ := hrel
    by_cases hlt : k < n
    · have hl := HS.out.1.length_eq
      obtain ⟨p, hp⟩ : ∃ p, R[a1 + k]? = some p := ⟨_, List.getElem?_eq_getElem (by omega)⟩
      obtain ⟨q, hq⟩ : ∃ p, R[b1 + k]? = some p := ⟨_, List.getElem?_eq_getElem (by omega)⟩
      obtain ⟨x0, x1⟩ := HR.out.cell hp
      obtain ⟨y0, y1⟩ := HR.out.cell hq
      have fz := HR.out.frozen
      have hbl := HR.out.lt
      have HPQ := Lib.hid (HR.out.exch hp hq)
      have HL := Lib.hid (HS.out.succ (by omega) (by omega))
      clear hp hq hl
      go_wp2_with (fail)
      go_big_region_o
      all_goals go_wp2_with (fail)
      go_roundw
      case rel => exact ⟨k + 1, exch R (a1 + k) (b1 + k), by omega, by go_num, HO.out.trans (((Only.put wr _ _).trans (Only.put _ _ _)).trans (Only.dr _)), HPQ.out.only (S := fun _ => False) (Only.dr _) (fun h => h), HL.out⟩
      case measure => simp [intOf] <;> omega
    · obtain rfl : k = n := by omega
      go_wp2
      go_end0
      exact ⟨rfl, HO.out, R, HR.out, HS.out⟩

set_option maxHeartbeats 4000000 in
set_option maxRecDepth 100000 in
theorem yrot_any (b z a1 m1 b1 m c : Nat) (fv : Value) (P : List Prob) (w : World) (h : PRow w b z P) (hm : m = P.length) (hc : m ≤ 100000) (h1 : a1 < m1) (h2 : m1 < b1) (hb : b1 ≤ m) :
    Calls Tryz.prog 127 #[.slice (some ⟨b, 0, none⟩) m c, .int .i64 a1, .int .i64 m1, .int .i64 b1, fv] w fun e w' => e = .returned (.tuple #[]) ∧ Only (· = b) w w' ∧ ∃ R, PRow w' b z R ∧ R.Perm P ∧ IsRot P R a1 m1 b1 := by
  have HH := Lib.hid h
  have HM := Lib.hid hm
  have HI : Hid (∀ R, IsRot P R (m1 - (m1 - a1)) m1 (m1 + (b1 - m1)) → IsRot P R a1 m1 b1) := fun R hR => by
    rw [show m1 - (m1 - a1) = a1 by omega, show m1 + (b1 - m1) = b1 by omega] at hR
    exact hR
  clear h hm
  go_enter Tryz.func127, Tryz.ntmps127
  go_wp2_with (fail)
  go_loopw [10, 11] (fun s t wr => ∃ (i j : Nat) (R : List Prob), 0 < i ∧ 0 < j ∧ i ≤ m1 ∧ m1 + j ≤ m ∧ s = .int .i64 i ∧ t = .int .i64 j ∧ Hid (Only (· = b) w wr) ∧ Hid (PRow wr b z R) ∧ Hid (R.Perm P) ∧ Hid (∀ R', IsRot R R' (m1 - i) m1 (m1 + j) → IsRot P R' a1 m1 b1)) (fun s t _ => (intOf s).toNat + (intOf t).toNat)
  case atStart =>
    refine ⟨m1 - a1, b1 - m1, P, by omega, by omega, by omega, by omega, ?_, ?_, Only.refl _ _, HH.out, List.Perm.refl _, HI.out⟩
    · congr 1; omega
    · congr 1; omega
  case round =>
    obtain ⟨i, j, R, hi0, hj0, hi, hj, rfl, rfl, HO, HR, HP, HS⟩ := hrel
    have HRl := Lib.hid (show m = R.length by rw [HP.out.length_eq]; exact HM.out)
    have es : (m1 : Int) - (i : Int) = ((m1 - i : Nat) : Int) := by omega
    by_cases hij : i = j
    · subst hij
      have q2 : m1 - i + i ≤ m1 := by omega
      go_wp2_with (fail)
      refine (yswap_any b z (m1 - i) m1 i m c fv R wr HR.out HRl.out hc q2 hj).mono ?_
      rintro e w2 ⟨rfl, ho, R', hr, hs⟩
      have HO2 := Lib.hid (HO.out.trans ho)
      have HR2 := Lib.hid hr
      have HP2 := Lib.hid (hs.1.trans HP.out)
      have HS2 := Lib.hid (HS.out R' (rot_eq hi hs))
      clear ho hr hs
      go_wp2
      go_end0
      exact ⟨rfl, HO2.out, R', HR2.out, HP2.out, HS2.out⟩
    · by_cases hgt : j < i
      · have q2 : m1 - i + j ≤ m1 := by omega
        go_wp2_with (fail)
        refine (yswap_any b z (m1 - i) m1 j m c fv R wr HR.out HRl.out hc q2 hj).mono ?_
        rintro e w2 ⟨rfl, ho, R', hr, hs⟩
        have HO2 := Lib.hid (HO.out.trans ho)
        have HR2 := Lib.hid hr
        have HP2 := Lib.hid (hs.1.trans HP.out)
        have HS2 : Hid (∀ R'', IsRot R' R'' (m1 - (i - j)) m1 (m1 + j) → IsRot P R'' a1 m1 b1) := fun R'' h => HS.out R'' (rot_gt hi hgt hs h)
        clear ho hr hs
        go_wp2_with (fail)
        go_roundw
        case rel => refine ⟨i - j, j, R', by omega, hj0, by omega, hj, ?_, rfl, HO2.out, HR2.out, HP2.out, HS2.out⟩; congr 1; omega
        case measure => simp [intOf] <;> omega
      · have hlt : i < j := by omega
        have q2 : m1 - i + i ≤ m1 + j - i := by omega
        have q3 : m1 + j - i + i ≤ m := by omega
        have et : (m1 : Int) + (j : Int) - (i : Int) = ((m1 + j - i : Nat) : Int) := by omega
        go_wp2_with (fail)
        refine (yswap_any b z (m1 - i) (m1 + j - i) i m c fv R wr HR.out HRl.out hc q2 q3).mono ?_
        rintro e w2 ⟨rfl, ho, R', hr, hs⟩
        have HO2 := Lib.hid (HO.out.trans ho)
        have HR2 := Lib.hid hr
        have HP2 := Lib.hid (hs.1.trans HP.out)
        have HS2 : Hid (∀ R'', IsRot R' R'' (m1 - i) m1 (m1 + (j - i)) → IsRot P R'' a1 m1 b1) := fun R'' h => HS.out R'' (rot_lt hi hlt hs h)
        clear ho hr hs
        go_wp2_with (fail)
        go_roundw
        case rel => refine ⟨i, j - i, R', hi0, by omega, hi, by omega, rfl, ?_, HO2.out, HR2.out, HP2.out, HS2.out⟩; congr 1; omega
        case measure => simp [intOf] <;> omega

set_option maxHeartbeats 4000000 in
set_option maxRecDepth 100000 in
theorem yins_any (b z a1 b1 m c : Nat) (P : List Prob) (w : World) (h : PRow w b z P) (hm : m = P.length) (hc : m ≤ 100000) (h1 : a1 ≤ b1) (hb : b1 ≤ m) :
    Calls Tryz.prog 98 #[.slice (some ⟨b, 0, none⟩) m c, .int .i64 a1, .int .i64 b1, .func (.func 39) #[] #[]] w fun e w' => e = .returned (.tuple #[]) ∧ Only (· = b) w w' ∧ ∃ R, PRow w' b z R ∧ Within P R a1 b1 ∧ SortedR R a1 b1 := by
  have HH := Lib.hid h
  have HM := Lib.hid hm
  have HST := Lib.hid (show SortedR P a1 (a1 + 1) from SortedR.short (by omega))
  have hmix := hmixP
  have eg : ∀ args w, (callFunc 39 args).run Tryz.prog w = .ok (.enter 39 args) w := enters_of Tryz.func39 (by kernel_rfl) rfl
  clear h hm
  go_enter Tryz.func98, Tryz.ntmps98
  go_wp2_with (fail)
  go_loopw [8] (fun s wr => ∃ (i : Nat) (R : List Prob), a1 + 1 ≤ i ∧ (i ≤ b1 ∨ i = a1 + 1) ∧ s = .int .i64 i ∧ Hid (Only (· = b) w wr) ∧ Hid (PRow wr b z R) ∧ Hid (Within P R a1 b1) ∧ Hid (SortedR R a1 i)) (fun s _ => b1 + 1 - (intOf s).toNat)
  case atStart => exact ⟨a1 + 1, P, Nat.le_refl _, .inr rfl, by go_num, Only.refl _ _, HH.out, Within.refl _ _ _, HST.out⟩
  case round =>
    obtain ⟨i, R, hi, hib, rfl, HO, HR, HW, HS⟩ := hrel
    by_cases hlt : i < b1
    · have HIN := Lib.hid (InsAt.start HS.out)
      go_wp2_with (fail)
      go_loopw [9] (fun s wr => ∃ (j : Nat) (Q : List Prob), a1 ≤ j ∧ j ≤ i ∧ s = .int .i64 j ∧ Hid (Only (· = b) w wr) ∧ Hid (PRow wr b z Q) ∧ Hid (Within P Q a1 b1) ∧ Hid (InsAt Q a1 i j)) (fun s _ => (intOf s).toNat)
      case atStart => exact ⟨i, R, by omega, Nat.le_refl _, rfl, HO.out, HR.out, HW.out, HIN.out⟩
      case round =>
        obtain ⟨j, Q, hja, hji, rfl, HO2, HR2, HW2, HS2⟩ := hrel
        have hbl := HR2.out.lt
        by_cases hj : a1 < j
        · obtain ⟨k, rfl⟩ : ∃ k, j = k + 1 := ⟨j - 1, by omega⟩
          have hl := HW2.out.len
          have hm := HM.out
          obtain ⟨p, hp⟩ : ∃ p, Q[k + 1]? = some p := ⟨_, List.getElem?_eq_getElem (by omega)⟩
          obtain ⟨q, hq⟩ : ∃ p, Q[k]? = some p := ⟨_, List.getElem?_eq_getElem (by omega)⟩
          have HLQ := Lib.hid (show i < Q.length by omega)
          have hwp : IntKind.i64.wrap (k : Int) = (k : Int) := by rw [IntKind.wrap_i64]; omega
          have hj1 : (a1 : Int) < (k : Int) + 1 := by omega
          have jz : (k : Int) + 1 < (m : Int) := by omega
          have jz1 : (k : Int) < (m : Int) := by omega
          have p0 : (0 : Int) ≤ (k : Int) + 1 := by omega
          have e0 : ((k : Int) + 1).toNat = k + 1 := by omega
          obtain ⟨x0, x1⟩ := HR2.out.cell hp
          obtain ⟨y0, y1⟩ := HR2.out.cell hq
          have HKP := Lib.hid (show ky Q (k + 1) = p.at_ by unfold ky; rw [hp])
          have HKQ := Lib.hid (show ky Q k = q.at_ by unfold ky; rw [hq])
          have HPp := Lib.hid hp
          have HQq := Lib.hid hq
          clear hl hm hp hq
          have X0 := cell_grown hbl x0
          have X1 := cell_grown hbl x1
          have Y0 := cell_grown hbl y0
          have Y1 := cell_grown hbl y1
          have hcg : ∀ n os, Calls Tryz.prog 39 #[.agg #[.int .i64 p.at_, .int .i64 p.code], .agg #[.int .i64 q.at_, .int .i64 q.code]] (grow (wr.drewN n) os) fun e w' => e = .returned (.int .i64 (cmpV p.at_ q.at_)) ∧ ∃ g : GrownBy, w' = grow (wr.drewN g.n) g.os := fun n os => Calls.grown_of (ydoc1_grown p q _)
          clear x0 x1 y0 y1
          by_cases hlv : p.at_ < q.at_
          · have hcv : cmpV p.at_ q.at_ < 0 := (cmp_lt _ _).2 hlv
            have HIS := Lib.hid (HS2.out.step (by omega) hji HLQ.out (by rw [HKP.out, HKQ.out]; exact hlv))
            have HWS := Lib.hid (HW2.out.trans (exch_within (i := k + 1) (j := k) (a := a1) (b := b1) (by have := HLQ.out; omega) (by have := HLQ.out; omega) (by omega) (by omega) (by omega) (by omega)))
            clear hlv
            generalize cmpV p.at_ q.at_ = cv at hcv hcg
            go_wp2_with (fail)
            go_quiet_grown (first | (go_at_fn 39; exact hcg _ _))
            go_wp2_with (fail)
            have HG : Hid (Only (fun _ => False) wr (grow (wr.drewN nq) osq)) := Only.gr wr nq osq
            have HRq := HR2.out.only HG.out (fun h => h)
            obtain ⟨x0, x1⟩ := HRq.cell HPp.out
            obtain ⟨y0, y1⟩ := HRq.cell HQq.out
            have fz := HRq.frozen
            have hbl2 := HRq.lt
            have HPQ := Lib.hid (HRq.exch HPp.out HQq.out)
            have HO3 := Lib.hid (HO2.out.trans (Only.gr wr nq osq))
            clear X0 X1 Y0 Y1 hcg HRq HG
            generalize grow (wr.drewN nq) osq = wq at *
            go_big_region_o
            all_goals go_wp2_with (fail)
            go_roundw
            case rel => exact ⟨k, exch Q (k + 1) k, by omega, by omega, by go_num, HO3.out.trans (((Only.put wq _ _).trans (Only.put _ _ _)).trans (Only.dr _)), HPQ.out.only (S := fun _ => False) (Only.dr _) (fun h => h), HWS.out, HIS.out⟩
            case measure => simp [intOf] <;> omega
          · have hcv : ¬ cmpV p.at_ q.at_ < 0 := fun e => hlv ((cmp_lt _ _).1 e)
            have HSS := Lib.hid (HS2.out.stop hja hji (.inr (by rw [Nat.add_sub_cancel, HKP.out, HKQ.out]; exact hlv)))
            clear hlv
            generalize cmpV p.at_ q.at_ = cv at hcv hcg
            go_wp2_with (fail)
            go_quiet_grown (first | (go_at_fn 39; exact hcg _ _))
            go_wp2_with (fail)
            go_roundw
            case rel => exact ⟨i + 1, Q, by omega, by omega, by go_num, HO2.out.trans (Only.gr wr nq osq), HR2.out.only (S := fun _ => False) (Only.gr wr nq osq) (fun h => h), HW2.out, HSS.out⟩
            case measure => simp [intOf] <;> omega
        · obtain rfl : j = a1 := by omega
          have HSS := Lib.hid (HS2.out.stop hja hji (.inl rfl))
          go_wp2_with (fail)
          go_big_region_o
          all_goals go_wp2_with (fail)
          go_roundw
          case rel => exact ⟨i + 1, Q, by omega, by omega, by go_num, HO2.out.trans (Only.dr _), HR2.out.only (S := fun _ => False) (Only.dr _) (fun h => h), HW2.out, HSS.out⟩
          case measure => simp [intOf] <;> omega
    · have HSS := Lib.hid (HS.out.sub (Nat.le_refl _) (show b1 ≤ i by omega))
      go_wp2
      go_end0
      exact ⟨rfl, HO.out, R, HR.out, HW.out, HSS.out⟩
end Go.Proofs.YtlgdmbdhffdenaaGreatDoor
