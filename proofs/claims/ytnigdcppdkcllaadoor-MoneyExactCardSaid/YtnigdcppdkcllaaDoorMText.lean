/- Plain laws of the texts of amounts. No program. -/
import Derived.Test.YtnigdcppdkcllaaDoorMPlain
import Derived.Lib.ItoaNum
import Derived.Lib.ItoaLen
import Derived.Lib.Replace
import Derived.Lib.IndexBytes
import Derived.Lib.IndexMore
import Derived.Lib.AtoiAll
namespace Go.Proofs.YtnigdcppdkcllaaDoor
set_option linter.unusedVariables false
set_option linter.unusedSimpArgs false
open Go

theorem of_nat (n : Nat) (h : n < 256) : (UInt8.ofNat n).toNat = n := by simp; omega
/-- The last two digits. -/
def two (a : Nat) : List UInt8 := [UInt8.ofNat (48 + a / 10 % 10), UInt8.ofNat (48 + a % 10)]
/-- The digits of a number, three at least. -/
def num3 (a : Nat) : List UInt8 := Lib.decDigits (a / 100) ++ two a
/-- The text of an amount. -/
def txt (n : Int) : List UInt8 := (if n < 0 then [45] else []) ++ (Lib.decDigits (n.natAbs / 100) ++ ([46] ++ two n.natAbs))
theorem dec_small {a : Nat} (h : a < 10) : Lib.decDigits a = [UInt8.ofNat (48 + a)] := by rw [Lib.decDigits, dif_pos h]
theorem dec_big {a : Nat} (h : ¬ a < 10) : Lib.decDigits a = Lib.decDigits (a / 10) ++ [UInt8.ofNat (48 + a % 10)] := by rw [Lib.decDigits, dif_neg h]
theorem dec_ne (a : Nat) : Lib.decDigits a ≠ [] := by
  by_cases h : a < 10
  · rw [dec_small h]; simp
  · rw [dec_big h]; simp
theorem dec_digits : ∀ (a : Nat), ∀ c ∈ Lib.decDigits a, 48 ≤ c.toNat ∧ c.toNat ≤ 57 := by
  intro a
  induction a using Nat.strongRecOn with
  | _ a ih =>
    intro c hc
    by_cases h : a < 10
    · rw [dec_small h] at hc
      obtain rfl := List.mem_singleton.1 hc
      rw [of_nat _ (by omega)]; omega
    · rw [dec_big h] at hc
      rcases List.mem_append.1 hc with h1 | h1
      · exact ih _ (by omega) c h1
      · obtain rfl := List.mem_singleton.1 h1
        rw [of_nat _ (by omega)]; omega
theorem num3_digits (a : Nat) : ∀ c ∈ num3 a, 48 ≤ c.toNat ∧ c.toNat ≤ 57 := by
  intro c hc
  rcases List.mem_append.1 hc with h | h
  · exact dec_digits _ c h
  · unfold two at h
    simp only [List.mem_cons, List.not_mem_nil, or_false] at h
    rcases h with rfl | rfl <;> rw [of_nat _ (by omega)] <;> omega
theorem num3_len (a : Nat) : (num3 a).length = (Lib.decDigits (a / 100)).length + 2 := by simp [num3, two]
/-- Padding with zeros. -/
theorem pad3 (a : Nat) : List.replicate (3 - (Lib.decDigits a).length) (48 : UInt8) ++ Lib.decDigits a = num3 a := by
  unfold num3 two
  by_cases h : a < 10
  · rw [dec_small h, show a / 100 = 0 from by omega, dec_small (by omega), show a / 10 = 0 from by omega, show a % 10 = a from by omega]
    rfl
  · by_cases h2 : a < 100
    · rw [dec_big h, dec_small (a := a / 10) (by omega), show a / 100 = 0 from by omega, dec_small (by omega), show a / 10 % 10 = a / 10 from by omega]
      rfl
    · have hl : 3 - (Lib.decDigits a).length = 0 := by
        rw [dec_big h, dec_big (a := a / 10) (by omega)]
        have := List.length_pos_iff.2 (dec_ne (a / 10 / 10))
        simp; omega
      rw [hl, dec_big h, dec_big (a := a / 10) (by omega), show a / 10 / 10 = a / 100 from by omega]
      simp
theorem pad_len (a : Nat) : (List.replicate (3 - (Lib.decDigits a).length) (48 : UInt8)).length + (Lib.decDigits a).length = (num3 a).length := by
  rw [← pad3, List.length_append]
theorem dec_len {a : Nat} (h : a ≤ 1125899906842624) : 1 ≤ (Lib.decDigits a).length ∧ (Lib.decDigits a).length ≤ 20 := by
  rw [Lib.decDigits_length]
  exact ⟨Lib.nDigits_pos a, Lib.nDigits_le20 a (by omega)⟩
theorem txt_len {n : Int} (h : amtB n = true) : 4 ≤ (txt n).length ∧ (txt n).length ≤ 24 := by
  have hb := amtB_iff.1 h
  have := dec_len (a := n.natAbs / 100) (by omega)
  unfold txt two
  by_cases h0 : n < 0
  · rw [if_pos h0]; simp; omega
  · rw [if_neg h0]; simp; omega

/-! ### Reading the digits -/
theorem pu_append : ∀ (l r : List UInt8) (acc u : Nat), Lib.parseUint10 acc l = .ok u → Lib.parseUint10 acc (l ++ r) = Lib.parseUint10 u r
  | [], r, acc, u, h => by simp only [Lib.parseUint10] at h; injection h with h; subst h; rfl
  | c :: l, r, acc, u, h => by
    rw [List.cons_append, Lib.parseUint10]
    rw [Lib.parseUint10] at h
    split at h
    · rename_i h1
      rw [if_pos h1]
      split at h
      · cases h
      · rename_i h2
        rw [if_neg h2]
        split at h
        · cases h
        · rename_i h3
          rw [if_neg h3]
          exact pu_append l r _ u h
    · cases h
theorem pu_one (acc d : Nat) (hd : d < 10) (ha : acc < 1844674407370955161) : Lib.parseUint10 acc [UInt8.ofNat (48 + d)] = .ok (acc * 10 + d) := by
  rw [Lib.parseUint10, of_nat _ (by omega), if_pos (by omega), if_neg (by omega), if_neg (by omega), Lib.parseUint10, show 48 + d - 48 = d from by omega]
theorem pu_dec : ∀ (a : Nat), a ≤ 1125899906842624 → Lib.parseUint10 0 (Lib.decDigits a) = .ok a := by
  intro a
  induction a using Nat.strongRecOn with
  | _ a ih =>
    intro ha
    by_cases h : a < 10
    · rw [dec_small h, pu_one 0 a h (by omega)]; simp
    · rw [dec_big h, pu_append _ _ _ _ (ih (a / 10) (by omega) (by omega)), pu_one _ _ (by omega) (by omega)]
      congr 1; omega
theorem pu_num3 (a : Nat) (ha : a ≤ 1125899906842624) : Lib.parseUint10 0 (num3 a) = .ok a := by
  unfold num3 two
  rw [pu_append _ _ _ _ (pu_dec (a / 100) (by omega)), show [UInt8.ofNat (48 + a / 10 % 10), UInt8.ofNat (48 + a % 10)] = [UInt8.ofNat (48 + a / 10 % 10)] ++ [UInt8.ofNat (48 + a % 10)] from rfl,
    pu_append _ _ _ _ (pu_one _ _ (by omega) (by omega)), pu_one _ _ (by omega) (by omega)]
  congr 1; omega
theorem num3_cons (a : Nat) : ∃ c r, num3 a = c :: r ∧ 48 ≤ c.toNat ∧ c.toNat ≤ 57 := by
  have hd := num3_digits a
  have hl := num3_len a
  cases hx : num3 a with
  | nil => rw [hx] at hl; simp at hl
  | cons c r => rw [hx] at hd; exact ⟨c, r, rfl, hd c (by simp)⟩
theorem atoi_num3 {n : Int} (h : amtB n = true) : Lib.atoiAll ((if n < 0 then [45] else []) ++ num3 n.natAbs) = .ok n := by
  have hb := amtB_iff.1 h
  have hp := pu_num3 n.natAbs (by omega)
  obtain ⟨c, r, hc, h1, h2⟩ := num3_cons n.natAbs
  by_cases h0 : n < 0
  · rw [if_pos h0]
    have hm : Lib.parseMag (num3 n.natAbs) = .ok n.natAbs := by rw [Lib.parseMag, if_neg (by rw [hc]; simp), hp]
    rw [List.cons_append, List.nil_append]
    unfold Lib.atoiAll
    simp only [show (45 : UInt8).toNat = 45 from rfl, or_true, if_true]
    rw [hm]
    simp only [not_true_eq_false, false_and, if_false, true_and]
    rw [if_neg (by omega)]
    congr 1; omega
  · rw [if_neg h0, List.nil_append]
    have hm : Lib.parseMag (c :: r) = .ok n.natAbs := by rw [Lib.parseMag, if_neg (by simp), ← hc, hp]
    rw [hc]
    unfold Lib.atoiAll
    simp only []
    rw [if_neg (show ¬ (c.toNat = 43 ∨ c.toNat = 45) by omega), hm]
    have h45 : ¬ c.toNat = 45 := by omega
    simp only [h45, not_false_eq_true, true_and, false_and, if_false]
    rw [if_neg (by omega)]
    congr 1; omega

/-! ### Without its dot -/
theorem dot_index : ∀ (p q : List UInt8), (∀ c ∈ p, c ≠ 46) → Lib.index (p ++ 46 :: q) [46] = p.length
  | [], q, _ => by simp [Lib.index]
  | b :: p, q, h => by
    have ih := dot_index p q (fun c hc => h c (by simp [hc]))
    have hb : ¬ (46 : UInt8) = b := fun e => h b (by simp) e.symm
    rw [List.cons_append, Lib.index, ih]
    have hp : ([46] : List UInt8).isPrefixOf (b :: (p ++ 46 :: q)) = false := by simp [List.isPrefixOf, hb]
    rw [hp]
    have : ((p.length : Int) == -1) = false := by rw [beq_eq_false_iff_ne]; omega
    simp [this]
/-- A text without its first dot. -/
def undot (s : List UInt8) : List UInt8 := Lib.replace s [46] [] 1
theorem undot_at (p q : List UInt8) (h : ∀ c ∈ p, c ≠ 46) : undot (p ++ 46 :: q) = p ++ q := by
  have hi := dot_index p q h
  have hc : 1 ≤ Lib.count (p ++ 46 :: q) [46] := by
    unfold Lib.count
    rw [Lib.countFrom, hi, if_neg (by rw [beq_iff_eq]; omega)]
    omega
  unfold undot Lib.replace Lib.replaceNum
  rw [if_neg (by simp), if_neg (by omega), show (1 : Int).toNat = 0 + 1 from rfl, Lib.replaceK_hit _ _ _ _ _ hi, Lib.replaceK]
  simp
theorem rk_len (old : List UInt8) : ∀ (k : Nat) (s : List UInt8), (Lib.replaceK old [] k s).length ≤ s.length
  | 0, s => by rw [Lib.replaceK]; exact Nat.le_refl _
  | k + 1, s => by
    rw [Lib.replaceK]
    split
    · exact Nat.le_refl _
    · have ih := rk_len old k (s.drop ((Lib.index s old).toNat + old.length))
      rw [List.length_drop] at ih
      simp
      omega
theorem undot_len (s : List UInt8) : (undot s).length ≤ s.length := by
  unfold undot Lib.replace
  split
  · exact Nat.le_refl _
  · exact rk_len _ _ _
theorem txt_undot (n : Int) : undot (txt n) = (if n < 0 then [45] else []) ++ num3 n.natAbs := by
  unfold txt
  rw [← List.append_assoc, show ([46] : List UInt8) ++ two n.natAbs = 46 :: two n.natAbs from rfl, undot_at, List.append_assoc]
  · rfl
  · intro c hc
    rcases List.mem_append.1 hc with h | h
    · split at h
      · obtain rfl := List.mem_singleton.1 h; decide
      · cases h
    · intro e
      have := dec_digits _ c h
      rw [e] at this
      simp at this
theorem txt_atoi {n : Int} (h : amtB n = true) : Lib.atoiAll (undot (txt n)) = .ok n := by rw [txt_undot, atoi_num3 h]
theorem txt_inj {n m : Int} (h : amtB n = true) (h' : amtB m = true) (e : txt n = txt m) : n = m := by
  have h1 := txt_atoi h
  rw [e, txt_atoi h'] at h1
  injection h1 with h1
  exact h1.symm

/-! ### The reference's reading -/
def rstep (n : Int) (c : UInt8) : Int := if 48 ≤ c.toNat ∧ c.toNat ≤ 57 ∧ n ≤ 11258999068426240 then 10 * n + ((c.toNat : Int) - 48) else n
def rfold (l : List UInt8) : Int := l.foldl rstep 0
theorem rstep_bd (n : Int) (c : UInt8) (h : 0 ≤ n ∧ n ≤ 112589990684262409) : 0 ≤ rstep n c ∧ rstep n c ≤ 112589990684262409 := by
  unfold rstep
  split <;> omega
theorem rfold_bd : ∀ (l : List UInt8) (n : Int), 0 ≤ n ∧ n ≤ 112589990684262409 → 0 ≤ l.foldl rstep n ∧ l.foldl rstep n ≤ 112589990684262409
  | [], _, h => h
  | c :: l, n, h => by rw [List.foldl_cons]; exact rfold_bd l _ (rstep_bd n c h)
theorem rfold_take_bd (l : List UInt8) (k : Nat) : 0 ≤ rfold (l.take k) ∧ rfold (l.take k) ≤ 112589990684262409 := rfold_bd _ 0 (by omega)
theorem rstep_dig (n : Int) (d : Nat) (hd : d < 10) (hn : n ≤ 11258999068426240) : rstep n (UInt8.ofNat (48 + d)) = 10 * n + d := by
  unfold rstep
  rw [of_nat _ (by omega), if_pos (by omega)]
  omega
theorem rfold_dec : ∀ (a : Nat), a ≤ 1125899906842624 → (Lib.decDigits a).foldl rstep 0 = a := by
  intro a
  induction a using Nat.strongRecOn with
  | _ a ih =>
    intro ha
    by_cases h : a < 10
    · rw [dec_small h, List.foldl_cons, List.foldl_nil, rstep_dig _ _ h (by omega)]; omega
    · rw [dec_big h, List.foldl_append, ih (a / 10) (by omega) (by omega), List.foldl_cons, List.foldl_nil, rstep_dig _ _ (by omega) (by omega)]
      omega
theorem rfold_txt {n : Int} (h : amtB n = true) : rfold (txt n) = n.natAbs := by
  have hb := amtB_iff.1 h
  unfold rfold txt two
  rw [List.foldl_append]
  have h0 : List.foldl rstep 0 (if n < 0 then [45] else []) = 0 := by split <;> simp [rstep]
  rw [h0, List.foldl_append, rfold_dec _ (by omega), List.foldl_append]
  have h46 : List.foldl rstep ((n.natAbs / 100 : Nat) : Int) [46] = ((n.natAbs / 100 : Nat) : Int) := by simp [rstep]
  rw [h46, List.foldl_cons, List.foldl_cons, List.foldl_nil, rstep_dig ((n.natAbs / 100 : Nat) : Int) (n.natAbs / 10 % 10) (by omega) (by omega), rstep_dig _ _ (by omega) (by omega)]
  omega
/-- The reference's sign. -/
theorem txt_head {n : Int} (h : amtB n = true) : ∃ c r, txt n = c :: r ∧ (n < 0 ↔ c.toNat = 45) := by
  unfold txt
  by_cases h0 : n < 0
  · rw [if_pos h0]; exact ⟨45, _, rfl, by simp [h0]⟩
  · rw [if_neg h0, List.nil_append]
    have hd := dec_digits (n.natAbs / 100)
    cases hx : Lib.decDigits (n.natAbs / 100) with
    | nil => exact absurd hx (dec_ne _)
    | cons c r =>
      rw [hx] at hd
      have := hd c (by simp)
      exact ⟨c, _, rfl, by omega⟩

/-! ### What Text and Parse answer -/
def txtR (n : Int) : List UInt8 := if amtB n then txt n else []
theorem txtR_yes {n : Int} (h : amtB n = true) : txtR n = txt n := by simp [txtR, h]
theorem txtR_no {n : Int} (h : amtB n = false) : txtR n = [] := by simp [txtR, h]
def ParseIs (s : List UInt8) (n e : Int) : Prop := (e = 0 ∧ amtB n = true ∧ txt n = s) ∨ (e = 50 ∧ n = 0 ∧ ∀ k, amtB k = true → txt k ≠ s)
theorem ParseIs.unique {s : List UInt8} {n e n' e' : Int} (h : ParseIs s n e) (h' : ParseIs s n' e') : n = n' ∧ e = e' := by
  rcases h with ⟨h1, h2, h3⟩ | ⟨h1, h2, h3⟩ <;> rcases h' with ⟨h4, h5, h6⟩ | ⟨h4, h5, h6⟩
  · exact ⟨txt_inj h2 h5 (h3.trans h6.symm), by omega⟩
  · exact absurd h3 (h6 n h2)
  · exact absurd h6 (h3 n' h5)
  · omega
/-- A text that reads as v and is v's text. -/
theorem parse_hit {s : List UInt8} {v : Int} (h : amtB v = true) (e : txt v = s) : ParseIs s v 0 := .inl ⟨rfl, h, e⟩
theorem parse_miss {s : List UInt8} (h : ∀ v, Lib.atoiAll (undot s) = .ok v → ¬ (amtB v = true ∧ txt v = s)) : ParseIs s 0 50 :=
  .inr ⟨rfl, rfl, fun k hk e => h k (by rw [← e, txt_atoi hk]) ⟨hk, e⟩⟩
def rsign (s : List UInt8) : Int := if s.head?.map (·.toNat) = some 45 then - rfold s else rfold s
theorem rparse_miss {s : List UInt8} (h : ¬ (amtB (rsign s) = true ∧ txt (rsign s) = s)) : ParseIs s 0 50 := by
  refine .inr ⟨rfl, rfl, fun k hk e => h ?_⟩
  have hr : rsign s = k := by
    have h1 := rfold_txt hk
    obtain ⟨c, r, h2, h3⟩ := txt_head hk
    unfold rsign
    rw [← e, h1, h2]
    simp only [List.head?_cons, Option.map_some, Option.some.injEq]
    by_cases h0 : k < 0
    · rw [if_pos (h3.1 h0)]; omega
    · rw [if_neg (fun e => h0 (h3.2 e))]; omega
  rw [hr]
  exact ⟨hk, e⟩
theorem long_miss {s : List UInt8} (h : 30 < s.length) : ParseIs s 0 50 :=
  .inr ⟨rfl, rfl, fun k hk e => by have := (txt_len hk).2; rw [e] at this; omega⟩
end Go.Proofs.YtnigdcppdkcllaaDoor
