/- Plain laws of amounts, sums and splits. No program. -/
import Derived.Test.YtnigdcppdkcllaaDoorSplitPlain
namespace Go.Proofs.YtnigdcppdkcllaaDoor
set_option linter.unusedVariables false
set_option linter.unusedSimpArgs false

/-- An amount of money. -/
def amtB (x : Int) : Bool := decide (-1125899906842624 ≤ x ∧ x ≤ 1125899906842624)
theorem amtB_iff {x : Int} : amtB x = true ↔ -1125899906842624 ≤ x ∧ x ≤ 1125899906842624 := by simp [amtB]
theorem amtB_no {x : Int} : amtB x = false ↔ (x < -1125899906842624 ∨ 1125899906842624 < x) := by
  unfold amtB; rw [decide_eq_false_iff_not]; omega
/-- The error code of Check. -/
def amtE (x : Int) : Int := if amtB x then 0 else 50
theorem amtE_yes {x : Int} (h : amtB x = true) : amtE x = 0 := by simp [amtE, h]
theorem amtE_no {x : Int} (h : amtB x = false) : amtE x = 50 := by simp [amtE, h]

/-- Element k of a list of numbers. -/
def gi (l : List Int) (k : Nat) : Int := l.getD k 0
theorem gi_get (l : List Int) (k : Nat) (h : k < l.length) : gi l k = l[k] := by simp [gi, h]
theorem gi_cons (x : Int) (l : List Int) (k : Nat) : gi (x :: l) (k + 1) = gi l k := by simp [gi]
theorem gi_zero (x : Int) (l : List Int) : gi (x :: l) 0 = x := rfl
theorem gi_out (l : List Int) (k : Nat) (h : l.length ≤ k) : gi l k = 0 := by simp [gi, h]
theorem gi_ext {a b : List Int} (hl : a.length = b.length) (h : ∀ i, i < a.length → gi a i = gi b i) : a = b := by
  apply List.ext_getElem hl
  intro i h1 h2
  have := h i h1
  rwa [gi_get a i h1, gi_get b i h2] at this

/-- The sum of amounts, checked on the way. -/
def sumF : Int → List Int → Option Int
  | n, [] => some n
  | n, x :: l => if amtB x && amtB (n + x) then sumF (n + x) l else none
def sumN (l : List Int) : Int := (sumF 0 l).getD 0
def sumE (l : List Int) : Int := if (sumF 0 l).isSome then 0 else 50
theorem sumF_step {l : List Int} {k : Nat} {n m : Int} (h : sumF m l = sumF n (l.drop k)) (hk : k < l.length) : sumF m l = if amtB (gi l k) && amtB (n + gi l k) then sumF (n + gi l k) (l.drop (k + 1)) else none := by
  rw [h, List.drop_eq_getElem_cons hk, sumF, gi_get l k hk]
theorem sumF_yes {l : List Int} {k : Nat} {n m : Int} (h : sumF m l = sumF n (l.drop k)) (hk : k < l.length) (h1 : amtB (gi l k) = true) (h2 : amtB (n + gi l k) = true) : sumF m l = sumF (n + gi l k) (l.drop (k + 1)) := by
  rw [sumF_step h hk, h1, h2]; rfl
theorem sumF_no {l : List Int} {k : Nat} {n m : Int} (h : sumF m l = sumF n (l.drop k)) (hk : k < l.length) (h1 : amtB (gi l k) = false ∨ amtB (n + gi l k) = false) : sumF m l = none := by
  rw [sumF_step h hk]
  rcases h1 with h1 | h1 <;> simp [h1]
theorem sumF_end {l : List Int} {k : Nat} {n m : Int} (h : sumF m l = sumF n (l.drop k)) (hk : l.length ≤ k) : sumF m l = some n := by
  rw [h, List.drop_eq_nil_of_le hk]; rfl
theorem sum_none {l : List Int} (h : sumF 0 l = none) : sumN l = 0 ∧ sumE l = 50 := by simp [sumN, sumE, h]
theorem sum_some {l : List Int} {n : Int} (h : sumF 0 l = some n) : sumN l = n ∧ sumE l = 0 := by simp [sumN, sumE, h]
theorem sum_of {l : List Int} (h : sumE l = 0) : sumF 0 l = some (sumN l) := by
  unfold sumE at h
  cases hx : sumF 0 l with
  | none => rw [hx] at h; simp at h
  | some n => simp [sumN, hx]
theorem sumF_sum : ∀ (l : List Int) (n m : Int), sumF n l = some m → amtB n = true → m = n + l.sum ∧ amtB m = true
  | [], n, m, h, hn => by simp [sumF] at h; subst h; simp [hn]
  | x :: l, n, m, h, _ => by
    unfold sumF at h
    split at h
    · rename_i hx
      simp at hx
      obtain ⟨h1, h2⟩ := sumF_sum l _ m h hx.2
      refine ⟨?_, h2⟩
      rw [h1, List.sum_cons]; omega
    · cases h
theorem sumF_pos : ∀ (l : List Int) (n : Int), 0 ≤ n → (∀ x ∈ l, 0 ≤ x) → n + l.sum ≤ 1125899906842624 → sumF n l = some (n + l.sum)
  | [], n, _, _, _ => by simp [sumF]
  | x :: l, n, hn, hx, hs => by
    rw [List.sum_cons] at hs ⊢
    have h0 := hx x (by simp)
    have hl : ∀ y ∈ l, 0 ≤ y := fun y hy => hx y (by simp [hy])
    have hls : 0 ≤ l.sum := by
      clear hs hx hn h0
      induction l with
      | nil => simp
      | cons y l ih => rw [List.sum_cons]; have := hl y (by simp); have := ih (fun z hz => hl z (by simp [hz])); omega
    have b1 : amtB x = true := amtB_iff.2 (by omega)
    have b2 : amtB (n + x) = true := amtB_iff.2 (by omega)
    unfold sumF
    rw [b1, b2, show (true && true) = true from rfl, if_pos rfl, sumF_pos l (n + x) (by omega) hl (by omega)]
    congr 1; omega
theorem sumF_neg : ∀ (l : List Int) (n : Int), n ≤ 0 → (∀ x ∈ l, x ≤ 0) → -1125899906842624 ≤ n + l.sum → sumF n l = some (n + l.sum)
  | [], n, _, _, _ => by simp [sumF]
  | x :: l, n, hn, hx, hs => by
    rw [List.sum_cons] at hs ⊢
    have h0 := hx x (by simp)
    have hl : ∀ y ∈ l, y ≤ 0 := fun y hy => hx y (by simp [hy])
    have hls : l.sum ≤ 0 := by
      clear hs hx hn h0
      induction l with
      | nil => simp
      | cons y l ih => rw [List.sum_cons]; have := hl y (by simp); have := ih (fun z hz => hl z (by simp [hz])); omega
    have b1 : amtB x = true := amtB_iff.2 (by omega)
    have b2 : amtB (n + x) = true := amtB_iff.2 (by omega)
    unfold sumF
    rw [b1, b2, show (true && true) = true from rfl, if_pos rfl, sumF_neg l (n + x) (by omega) hl (by omega)]
    congr 1; omega
/-- The law of MoneyAdds. -/
theorem adds_law {a b : List Int} (ha : sumE a = 0) (hb : sumE b = 0) (hab : sumE (a ++ b) = 0) (hba : sumE (b ++ a) = 0) :
    sumE [sumN a, sumN b] = 0 ∧ sumN [sumN a, sumN b] = sumN (a ++ b) ∧ sumN (b ++ a) = sumN (a ++ b) := by
  obtain ⟨a1, a2⟩ := sumF_sum _ _ _ (sum_of ha) (by decide)
  obtain ⟨b1, b2⟩ := sumF_sum _ _ _ (sum_of hb) (by decide)
  obtain ⟨c1, c2⟩ := sumF_sum _ _ _ (sum_of hab) (by decide)
  obtain ⟨d1, d2⟩ := sumF_sum _ _ _ (sum_of hba) (by decide)
  rw [List.sum_append] at c1 d1
  have e : sumN (a ++ b) = sumN a + sumN b := by omega
  have hs : sumF 0 [sumN a, sumN b] = some (sumN a + sumN b) := by
    rw [e] at c2
    simp [sumF, a2, b2, c2]
  obtain ⟨e1, e2⟩ := sum_some hs
  exact ⟨e2, by rw [e1, e], by omega⟩

/-- f 0 + .. + f (n - 1). -/
def sumTo (f : Nat → Int) : Nat → Int
  | 0 => 0
  | n + 1 => sumTo f n + f n
theorem sumTo_congr {f g : Nat → Int} : ∀ n, (∀ i, i < n → f i = g i) → sumTo f n = sumTo g n
  | 0, _ => rfl
  | n + 1, h => by rw [sumTo, sumTo, sumTo_congr n (fun i hi => h i (by omega)), h n (by omega)]
theorem sumTo_add (f g : Nat → Int) : ∀ n, sumTo (fun i => f i + g i) n = sumTo f n + sumTo g n
  | 0 => rfl
  | n + 1 => by rw [sumTo, sumTo, sumTo, sumTo_add f g n]; omega
theorem sumTo_mul (a : Int) (f : Nat → Int) : ∀ n, sumTo (fun i => a * f i) n = a * sumTo f n
  | 0 => by simp [sumTo]
  | n + 1 => by rw [sumTo, sumTo, sumTo_mul a f n, Int.mul_add]
theorem sumTo_nonneg {f : Nat → Int} : ∀ n, (∀ i, i < n → 0 ≤ f i) → 0 ≤ sumTo f n
  | 0, _ => by simp [sumTo]
  | n + 1, h => by rw [sumTo]; have := sumTo_nonneg n (fun i hi => h i (by omega)); have := h n (by omega); omega
theorem sumTo_le {f g : Nat → Int} : ∀ n, (∀ i, i < n → f i ≤ g i) → sumTo f n ≤ sumTo g n
  | 0, _ => by simp [sumTo]
  | n + 1, h => by rw [sumTo, sumTo]; have := sumTo_le n (fun i hi => h i (by omega)); have := h n (by omega); omega
theorem sumTo_mono {f : Nat → Int} (k : Nat) : ∀ n, k ≤ n → (∀ i, i < n → 0 ≤ f i) → sumTo f k ≤ sumTo f n
  | 0, h, _ => by have : k = 0 := by omega
                  subst this; exact Int.le_refl _
  | n + 1, h, hf => by
    rcases Nat.eq_or_lt_of_le h with rfl | hlt
    · exact Int.le_refl _
    · rw [sumTo]; have := sumTo_mono k n (by omega) (fun i hi => hf i (by omega)); have := hf n (by omega); omega
theorem sumTo_one {f : Nat → Int} {n i : Nat} (hi : i < n) (hf : ∀ i, i < n → 0 ≤ f i) : f i ≤ sumTo f n := by
  have h1 := sumTo_mono (f := f) (i + 1) n hi hf
  rw [sumTo] at h1
  have := sumTo_nonneg (f := f) i (fun j hj => hf j (by omega))
  omega
theorem sumTo_count (c : Nat → Bool) : ∀ n, sumTo (fun i => if c i then 1 else 0) n = ((List.range n).countP c : Nat)
  | 0 => by simp [sumTo]
  | n + 1 => by rw [sumTo, sumTo_count c n, List.range_succ, List.countP_append]; cases h : c n <;> simp [h]
theorem sumTo_list : ∀ (l : List Int), sumTo (gi l) l.length = l.sum := by
  intro l
  have key : ∀ (l : List Int) (n : Nat), n ≤ l.length → sumTo (gi l) n = (l.take n).sum := by
    intro l n
    induction n with
    | zero => intro _; simp [sumTo]
    | succ n ih =>
      intro h
      rw [sumTo, ih (by omega), List.take_succ_eq_append_getElem (by omega), List.sum_append, gi_get l n (by omega)]
      simp
  rw [key l l.length (Nat.le_refl _), List.take_length]

def okW (ws : List Int) : Prop := ∀ i, i < ws.length → 0 ≤ gi ws i ∧ gi ws i ≤ 1000
def wsum (ws : List Int) : Int := sumTo (gi ws) ws.length
def cen (a s : Int) (ws : List Int) (i : Nat) : Int := a * gi ws i / s
def rst (a s : Int) (ws : List Int) (i : Nat) : Int := a * gi ws i % s
def lft (a s : Int) (ws : List Int) : Int := a - sumTo (cen a s ws) ws.length
def absI (m : Int) : Int := if m < 0 then -m else m
def sgn (m : Int) : Int := if m < 0 then -1 else 1
theorem absI_nonneg (m : Int) : 0 ≤ absI m := by unfold absI; split <;> omega
theorem absI_le {m : Int} (h : amtB m = true) : absI m ≤ 1125899906842624 := by have := amtB_iff.1 h; unfold absI; split <;> omega
theorem sgn_abs (m : Int) : sgn m * absI m = m := by unfold sgn absI; split <;> omega
theorem sgn_cases (m : Int) : (m < 0 ∧ sgn m = -1 ∧ absI m = -m) ∨ (0 ≤ m ∧ sgn m = 1 ∧ absI m = m) := by unfold sgn absI; split <;> omega
theorem wsum_le {ws : List Int} (h : okW ws) : wsum ws ≤ 1000 * ws.length := by
  have h1 := sumTo_le (f := gi ws) (g := fun _ => 1000) ws.length (fun i hi => (h i hi).2)
  have h2 : ∀ n : Nat, sumTo (fun _ => 1000) n = 1000 * n := by
    intro n
    induction n with
    | zero => rfl
    | succ n ih => rw [sumTo, ih]; omega
  rw [h2] at h1
  exact h1
theorem wsum_nonneg {ws : List Int} (h : okW ws) : 0 ≤ wsum ws := sumTo_nonneg _ (fun i hi => (h i hi).1)
theorem w_le_sum {ws : List Int} (h : okW ws) {i : Nat} (hi : i < ws.length) : gi ws i ≤ wsum ws := sumTo_one hi (fun i hi => (h i hi).1)

section
variable {a s : Int} {ws : List Int}
theorem cr (hs : 0 < s) (i : Nat) : a * gi ws i = s * cen a s ws i + rst a s ws i ∧ 0 ≤ rst a s ws i ∧ rst a s ws i < s := by
  refine ⟨?_, Int.emod_nonneg _ (by omega), Int.emod_lt_of_pos _ hs⟩
  unfold cen rst
  exact (Int.mul_ediv_add_emod _ _).symm
theorem cen_nonneg (ha : 0 ≤ a) (hs : 0 < s) (hw : okW ws) {i : Nat} (hi : i < ws.length) : 0 ≤ cen a s ws i :=
  Int.ediv_nonneg (Int.mul_nonneg ha (hw i hi).1) (by omega)
theorem sum_rst (hs : s = wsum ws) (h0 : 0 < s) : s * lft a s ws = sumTo (rst a s ws) ws.length := by
  have h1 : sumTo (fun i => a * gi ws i) ws.length = sumTo (fun i => s * cen a s ws i + rst a s ws i) ws.length := sumTo_congr _ (fun i _ => (cr h0 i).1)
  rw [sumTo_mul, sumTo_add, sumTo_mul] at h1
  have h2 : sumTo (gi ws) ws.length = s := hs.symm
  rw [h2] at h1
  unfold lft
  rw [Int.mul_sub, Int.mul_comm s a]
  omega
theorem rst_count (h0 : 0 < s) : ∀ n, sumTo (rst a s ws) n ≤ (s - 1) * ((List.range n).countP (fun i => decide (0 < rst a s ws i)) : Nat)
  | 0 => by simp [sumTo]
  | n + 1 => by
    have ih := rst_count h0 n
    obtain ⟨_, h1, h2⟩ := cr (a := a) (ws := ws) h0 n
    rw [sumTo, List.range_succ, List.countP_append]
    by_cases h : 0 < rst a s ws n
    · simp only [List.countP_singleton, h, decide_true, if_true]
      rw [Int.natCast_add, Int.mul_add]
      simp
      omega
    · simp only [List.countP_singleton, h, decide_false]
      simp
      omega
theorem left_lt (hs : s = wsum ws) (h0 : 0 < s) : 0 ≤ lft a s ws ∧ (lft a s ws = 0 ∨ lft a s ws < ((List.range ws.length).countP (fun i => decide (0 < rst a s ws i)) : Nat)) := by
  have h1 := sum_rst (a := a) hs h0
  have h2 := rst_count (a := a) (ws := ws) h0 ws.length
  have h3 := sumTo_nonneg (f := rst a s ws) ws.length (fun i _ => (cr h0 i).2.1)
  generalize ((List.range ws.length).countP (fun i => decide (0 < rst a s ws i)) : Nat) = c at h2 ⊢
  generalize lft a s ws = x at h1 ⊢
  have hx : 0 ≤ x := by
    rcases Int.lt_or_le x 0 with h | h
    · have : s * x < 0 := Int.mul_neg_of_pos_of_neg h0 h
      omega
    · exact h
  refine ⟨hx, ?_⟩
  rcases Int.lt_or_le x c with h | h
  · exact .inr h
  · left
    have h4 : 0 ≤ s * (x - c) := Int.mul_nonneg (by omega) (by omega)
    rw [Int.mul_sub] at h4
    rw [Int.sub_mul] at h2
    have hc : (c : Int) = 0 := by omega
    rw [hc] at h2
    simp at h2
    rcases Int.lt_or_le 0 x with h5 | h5
    · have : 0 < s * x := Int.mul_pos h0 h5
      omega
    · omega
theorem count_range_le (c : Nat → Bool) (n : Nat) : (List.range n).countP c ≤ n := by
  have := List.countP_le_length (p := c) (l := List.range n)
  simpa using this
theorem left_le (hs : s = wsum ws) (h0 : 0 < s) : (lft a s ws).toNat ≤ ws.length := by
  obtain ⟨h1, h2⟩ := left_lt (a := a) hs h0
  have := count_range_le (fun i => decide (0 < rst a s ws i)) ws.length
  omega
/-- Whoever is chosen has a remainder. -/
theorem First.some_rest {c : Nat → Bool} (hs : s = wsum ws) (h0 : 0 < s) (h : First ws.length (rst a s ws) (lft a s ws).toNat c) {i : Nat} (hi : i < ws.length) (hc : c i = true) : 0 < rst a s ws i := by
  obtain ⟨h1, h2⟩ := left_lt (a := a) hs h0
  rcases Int.lt_or_le 0 (rst a s ws i) with h3 | h3
  · exact h3
  · exfalso
    have hcnt := h.cnt
    have hle : (List.range ws.length).countP (fun i => decide (0 < rst a s ws i)) ≤ (List.range ws.length).countP c := by
      refine count_le _ _ _ (fun j hj hjr => ?_)
      cases hcj : c j with
      | true => rfl
      | false =>
        exfalso
        have := h.fst i j hi hj hc hcj
        have hr := (cr (a := a) (ws := ws) h0 j).2.1
        unfold ahead at this
        simp at hjr
        omega
    have hpos : 0 < (List.range ws.length).countP c := List.countP_pos_iff.2 ⟨i, List.mem_range.2 hi, hc⟩
    omega
end

/-- What Split answers at weights that it accepts. -/
structure IsSplit (m : Int) (ws : List Int) (l : List Int) : Prop where
  len : l.length = ws.length
  ch : ∃ c, First ws.length (rst (absI m) (wsum ws) ws) (lft (absI m) (wsum ws) ws).toNat c ∧ ∀ i, i < ws.length → gi l i = sgn m * (cen (absI m) (wsum ws) ws i + if c i then 1 else 0)
/-- Weights that Split accepts. -/
def WOk (ws : List Int) : Prop := ws.length ≤ 256 ∧ okW ws ∧ wsum ws ≠ 0
theorem WOk.pos {ws : List Int} (h : WOk ws) : 0 < wsum ws := by have := wsum_nonneg h.2.1; have := h.2.2; omega
theorem IsSplit.unique {m : Int} {ws l l' : List Int} (h : IsSplit m ws l) (h' : IsSplit m ws l') : l = l' := by
  obtain ⟨c, h1, h2⟩ := h.ch
  obtain ⟨c', h1', h2'⟩ := h'.ch
  refine gi_ext (by rw [h.len, h'.len]) (fun i hi => ?_)
  rw [h.len] at hi
  rw [h2 i hi, h2' i hi, First.unique h1 h1' i hi]
open Classical in
/-- The error code of Split. -/
noncomputable def splitE (m : Int) (ws : List Int) : Int := if amtB m then if WOk ws then 0 else 1 else 50
theorem splitE_ok {m : Int} {ws : List Int} (h : amtB m = true) (hw : WOk ws) : splitE m ws = 0 := by unfold splitE; rw [if_pos h, if_pos hw]
theorem splitE_arg {m : Int} {ws : List Int} (h : amtB m = true) (hw : ¬ WOk ws) : splitE m ws = 1 := by unfold splitE; rw [if_pos h, if_neg hw]
theorem splitE_amt {m : Int} {ws : List Int} (h : amtB m = false) : splitE m ws = 50 := by unfold splitE; rw [if_neg (by simp [h])]
theorem splitE_zero {m : Int} {ws : List Int} (h : splitE m ws = 0) : amtB m = true ∧ WOk ws := by
  by_cases h1 : amtB m = true
  · by_cases h2 : WOk ws
    · exact ⟨h1, h2⟩
    · rw [splitE_arg h1 h2] at h; omega
  · rw [splitE_amt (by simpa using h1)] at h; omega
/-- What Split answers. -/
def SplitIs (m : Int) (ws l : List Int) : Prop := (splitE m ws = 0 ∧ IsSplit m ws l) ∨ (splitE m ws ≠ 0 ∧ l = [])
theorem SplitIs.unique {m : Int} {ws l l' : List Int} (h : SplitIs m ws l) (h' : SplitIs m ws l') : l = l' := by
  rcases h with ⟨h1, h2⟩ | ⟨h1, h2⟩ <;> rcases h' with ⟨h3, h4⟩ | ⟨h3, h4⟩
  · exact h2.unique h4
  · exact absurd h1 h3
  · exact absurd h3 h1
  · rw [h2, h4]
end Go.Proofs.YtnigdcppdkcllaaDoor
