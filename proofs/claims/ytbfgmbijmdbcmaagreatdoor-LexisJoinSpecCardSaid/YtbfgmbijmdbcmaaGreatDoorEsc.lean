/- Plain laws about what is written between quotes, byte by byte. No program. -/
import Derived.Test.YtbfgmbijmdbcmaaGreatDoorJoinPlain
import Derived.Laws.CopyOwn
namespace Go.Proofs.YtbfgmbijmdbcmaaGreatDoor
set_option linter.unusedVariables false
set_option linter.unusedSimpArgs false

/-- A byte that takes two bytes between quotes. -/
def sp (c : UInt8) : Bool := c == 34 || c == 92 || c == 10
theorem sp_not {c : UInt8} (h : sp c = false) : esc1 c = [c] := by
  simp [sp] at h
  have h1 : c.toNat ≠ 34 := fun e => h.1.1 (UInt8.toNat_inj.1 e)
  have h2 : c.toNat ≠ 92 := fun e => h.1.2 (UInt8.toNat_inj.1 e)
  have h3 : c.toNat ≠ 10 := fun e => h.2 (UInt8.toNat_inj.1 e)
  unfold esc1
  rw [if_neg h1, if_neg h2, if_neg h3]
theorem sp_len {c : UInt8} (h : sp c = true) : (esc1 c).length = 2 := by
  simp [sp] at h
  rcases h with (rfl | rfl) | rfl <;> rfl
theorem escape_cons (c : UInt8) (s : List UInt8) : escape (c :: s) = esc1 c ++ escape s := by simp [escape]
theorem escape_app (a b : List UInt8) : escape (a ++ b) = escape a ++ escape b := by simp [escape]
theorem escape_len (l : List UInt8) : (escape l).length = l.length + l.countP sp := by
  induction l with
  | nil => rfl
  | cons c s ih =>
    rw [escape_cons, List.length_append, ih, List.countP_cons]
    cases h : sp c
    · rw [sp_not h]; simp; omega
    · rw [sp_len h]; simp; omega
theorem escape_same (l : List UInt8) (h : l.countP sp = 0) : escape l = l := by
  induction l with
  | nil => rfl
  | cons c s ih =>
    rw [List.countP_cons] at h
    cases hc : sp c
    · rw [escape_cons, sp_not hc, ih (by omega)]; rfl
    · rw [hc] at h; simp at h
theorem escape_take (l : List UInt8) (i : Nat) (h : i < l.length) : escape (l.take (i + 1)) = escape (l.take i) ++ esc1 (UInt8.ofNat (bt l i)) := by
  rw [take_bt l i h, escape_app]
  simp [escape]
theorem escape_split (l : List UInt8) (i : Nat) (h : i < l.length) : (escape (l.take i)).length + (esc1 (UInt8.ofNat (bt l i))).length ≤ (escape l).length := by
  have := escape_take l i h
  have e : escape l = escape (l.take (i + 1)) ++ escape (l.drop (i + 1)) := by rw [← escape_app, List.take_append_drop]
  rw [e, this]
  simp
theorem count_take (l : List UInt8) (i : Nat) (h : i < l.length) : (l.take (i + 1)).countP sp = (l.take i).countP sp + if sp (UInt8.ofNat (bt l i)) then 1 else 0 := by
  rw [take_bt l i h, List.countP_append]
  simp [List.countP_cons]
/-- The three bytes, in the order in which they are looked for. -/
def chq : Nat → UInt8 | 0 => 10 | 1 => 92 | _ => 34
def pc (l : List UInt8) : Nat → Nat | 0 => 0 | 1 => l.count 10 | 2 => l.count 10 + l.count 92 | _ => l.count 10 + l.count 92 + l.count 34
theorem pc_succ (l : List UInt8) (k : Nat) (h : k < 3) : pc l (k + 1) = pc l k + l.count (chq k) := by
  obtain rfl | rfl | rfl : k = 0 ∨ k = 1 ∨ k = 2 := by omega
  · simp [pc, chq]
  · simp [pc, chq]
  · simp [pc, chq]
theorem pc_all (l : List UInt8) : pc l 3 = l.countP sp := by
  show l.count 10 + l.count 92 + l.count 34 = _
  induction l with
  | nil => rfl
  | cons c s ih =>
    rw [List.count_cons, List.count_cons, List.count_cons, List.countP_cons, ← ih]
    by_cases h1 : c = 10
    · subst h1; simp [sp]; omega
    · by_cases h2 : c = 92
      · subst h2; simp [sp]; omega
      · by_cases h3 : c = 34
        · subst h3; simp [sp]; omega
        · simp [sp, h1, h2, h3]
/-- What the new row holds behind i bytes. -/
def bufL (l : List UInt8) (i : Nat) : List Value := (escape (l.take i)).map vb ++ List.replicate ((escape l).length - (escape (l.take i)).length) (.int .u8 0)
theorem esc_le (l : List UInt8) (i : Nat) : (escape (l.take i)).length ≤ (escape l).length := by
  have e : escape l = escape (l.take i) ++ escape (l.drop i) := by rw [← escape_app, List.take_append_drop]
  rw [e]; simp
theorem bufL_len (l : List UInt8) (i : Nat) : (bufL l i).length = (escape l).length := by
  have := esc_le l i
  simp [bufL]; omega
theorem bufL_zero (l : List UInt8) : bufL l 0 = List.replicate (escape l).length (.int .u8 0) := by simp [bufL, escape]
theorem bufL_end (l : List UInt8) : bufL l l.length = (escape l).map vb := by
  unfold bufL
  rw [List.take_of_length_le (Nat.le_refl _)]
  simp
theorem bufL_splice (l : List UInt8) (i : Nat) (h : i < l.length) : splice (bufL l i) (escape (l.take i)).length ((esc1 (UInt8.ofNat (bt l i))).map vb) = bufL l (i + 1) := by
  have hs := escape_split l i h
  unfold splice bufL
  rw [escape_take l i h]
  have e1 : ((escape (l.take i)).map vb ++ List.replicate ((escape l).length - (escape (l.take i)).length) (Value.int .u8 0)).take (escape (l.take i)).length = (escape (l.take i)).map vb := by
    rw [List.take_append_of_le_length (by simp)]
    exact List.take_of_length_le (by simp)
  have e2 : ((escape (l.take i)).map vb ++ List.replicate ((escape l).length - (escape (l.take i)).length) (Value.int .u8 0)).drop ((escape (l.take i)).length + ((esc1 (UInt8.ofNat (bt l i))).map vb).length) = List.replicate ((escape l).length - (escape (l.take i) ++ esc1 (UInt8.ofNat (bt l i))).length) (Value.int .u8 0) := by
    rw [List.drop_append, List.drop_of_length_le (by simp), List.drop_replicate, List.nil_append]
    congr 1
    simp
    omega
  rw [e1, e2]
  simp
theorem bufL_set (l : List UInt8) (i : Nat) (h : i < l.length) (hs : sp (UInt8.ofNat (bt l i)) = false) : (bufL l i).toArray.setIfInBounds (escape (l.take i)).length (.int .u8 (bt l i : Int)) = (bufL l (i + 1)).toArray := by
  have h1 := bufL_splice l i h
  have h2 := escape_split l i h
  rw [sp_not hs] at h1 h2
  rw [← h1, List.setIfInBounds_toArray]
  congr 1
  have h3 := bufL_len l i
  have hv : vb (UInt8.ofNat (bt l i)) = .int .u8 (bt l i : Int) := by
    have hlt := bt_lt l i
    simp [vb, Nat.mod_eq_of_lt hlt]
  simp only [List.length_singleton] at h2
  generalize bufL l i = X at *
  generalize (escape (l.take i)).length = j at *
  unfold splice
  rw [List.map_singleton, hv]
  rw [List.set_eq_take_append_cons_drop, if_pos (by omega)]
  simp
end Go.Proofs.YtbfgmbijmdbcmaaGreatDoor
