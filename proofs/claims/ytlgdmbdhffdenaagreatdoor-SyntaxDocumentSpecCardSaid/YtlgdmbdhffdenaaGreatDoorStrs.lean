/- isInteger by its contract; the library's TrimPrefix, Trim over lists of bytes. -/
import Derived.Test.YtlgdmbdhffdenaaGreatDoorShelf
import Derived.Test.YtlgdmbdhffdenaaGreatDoorClasses
import Derived.Shelf.Strings.SlTrimAscii
namespace Go.Proofs.YtlgdmbdhffdenaaGreatDoor
set_option linter.unusedVariables false
set_option linter.unusedSimpArgs false
open Go.RowKit

theorem zeroSet (w : World) : (zeroValue 145).run Tryz.prog w = .ok (.agg (Array.replicate 256 (.bool false))) w := by kernel_rfl
theorem infoSet : (Tryz.prog.info? 145).map (·.size) = some 256 := by kernel_rfl

def unsigned (l : List UInt8) : List UInt8 := if bt l 0 = 45 then l.drop 1 else l
theorem unsigned_len (l : List UInt8) : (unsigned l).length ≤ l.length := by unfold unsigned; split <;> simp
theorem trimPrefix_minus (l : List UInt8) : Lib.trimPrefix l [45] = unsigned l := by
  unfold Lib.trimPrefix Lib.hasPrefix unsigned
  cases l with
  | nil => simp [bt]
  | cons a l =>
    by_cases h : a = 45
    · subst h; simp [bt]
    · have h' : ¬ a.toNat = 45 := by
        intro e
        apply h
        exact UInt8.toNat_inj.1 e
      have h2 : ¬ (45 : UInt8) = a := fun e => h e.symm
      simp [bt, h', h, h2]
theorem trimPrefix_any (l : List UInt8) (w : World) :
    Calls Tryz.prog 83 #[.string (bs l), .string ⟨#[45]⟩] w fun e w' => e = .returned (.string (bs (unsigned l))) ∧ w = w' :=
  (Tryz.strings_TrimPrefix (bs l) ⟨#[45]⟩ w).mono fun e w' ⟨he, hw⟩ => ⟨by
    rw [he, ← trimPrefix_minus l]
    rfl, hw.symm⟩

def digits : List UInt8 := [48, 49, 50, 51, 52, 53, 54, 55, 56, 57]
theorem digits_has (c : UInt8) : digits.contains c = isDigit c.toNat := by
  have h : ∀ n : Nat, n < 256 → digits.contains (UInt8.ofNat n) = isDigit n := by decide +kernel
  have := h c.toNat (UInt8.toNat_lt c)
  simpa using this
theorem dropWhile_nil {α : Type} (p : α → Bool) (l : List α) : l.dropWhile p = [] ↔ l.all p = true := by
  induction l with
  | nil => simp
  | cons a l ih => by_cases h : p a <;> simp [List.dropWhile_cons, h, ih]
theorem all_rev {α : Type} (p : α → Bool) (l : List α) : l.reverse.all p = l.all p := by
  rw [Bool.eq_iff_iff]
  simp
theorem trimS_nil (l : List UInt8) : Lib.trimS l digits = [] ↔ (l.all fun c => isDigit c.toNat) = true := by
  have e : (l.all fun c => isDigit c.toNat) = l.all (digits.contains ·) := by
    congr 1
    funext c
    exact (digits_has c).symm
  rw [e]
  unfold Lib.trimS Lib.trimLeftS Lib.trimRightS
  rw [dropWhile_nil]
  constructor
  · intro h
    have h2 : (l.reverse.dropWhile (digits.contains ·)).all (digits.contains ·) = true := by rw [all_rev] at h; exact h
    by_cases hn : l.reverse.dropWhile (digits.contains ·) = []
    · rw [dropWhile_nil, all_rev] at hn
      exact hn
    · exfalso
      obtain ⟨a, r, har⟩ : ∃ a r, l.reverse.dropWhile (digits.contains ·) = a :: r := by
        cases hc : l.reverse.dropWhile (digits.contains ·) with
        | nil => exact absurd hc hn
        | cons a r => exact ⟨a, r, rfl⟩
      have h3 : ∀ (m : List UInt8) a r, m.dropWhile (digits.contains ·) = a :: r → digits.contains a = false := by
        intro m
        induction m with
        | nil => intro a r h; simp at h
        | cons x m ih =>
          intro a r h
          rw [List.dropWhile_cons] at h
          split at h
          · exact ih _ _ h
          · rename_i hx
            injection h with h1 h2
            subst h1
            simpa using hx
      have h4 := h3 _ _ _ har
      rw [har] at h2
      rw [List.all_cons, h4] at h2
      simp at h2
  · intro h
    rw [all_rev]
    have : l.reverse.dropWhile (digits.contains ·) = [] := by rw [dropWhile_nil, all_rev]; exact h
    rw [this]
    rfl
theorem trim_any (l : List UInt8) (w : World) (h0 : 0 < l.length) (hl : l.length ≤ 9223372036854775807) :
    Calls Tryz.prog 84 #[.string (bs l), .string ⟨#[48, 49, 50, 51, 52, 53, 54, 55, 56, 57]⟩] w fun e w' => e = .returned (.string (bs (Lib.trimS l digits))) ∧ Below w.heap.size w w' :=
  (Any.strings_Trim_set Tryz.lays160 zeroSet infoSet (bs l) (bs digits) w (by decide) h0 hl (by decide) (fun j b hb => by
    have h : ∀ b ∈ digits, b.toNat < 128 := by decide
    exact h b (List.mem_of_getElem? hb))).mono fun e w' ⟨he, q, hw⟩ => ⟨he, by
    subst hw
    exact ((((Below.refl _ w).alloc (Nat.le_refl _) _).alloc (by simp) _).trans (below_drewNg _ q |>.mono (by simp; omega)))⟩

set_option maxHeartbeats 1000000 in
theorem isInteger_any (l : List UInt8) (w : World) (hl : l.length ≤ 9223372036854775807) :
    Calls Tryz.prog 49 #[.string (bs l)] w fun e w' => e = .returned (.bool (intB l)) ∧ Below w.heap.size w w' := by
  by_cases hz : l = [48]
  · have hz1 : (l == [48]) = true := by simp [hz]
    have H := Lib.hid (show intB l = true by unfold intB; rw [hz1]; rfl)
    clear hz
    go_enter Tryz.func49, Tryz.ntmps49
    go_wp2
    go_ret
    exact ⟨ret_bool H.out.symm, Below.refl _ _⟩
  · have hz1 : (l == [48]) = false := by simp [hz]
    have H := Lib.hid (show intB l = numB (unsigned l) by unfold intB unsigned; rw [hz1]; split <;> simp)
    clear hz
    have hul := unsigned_len l
    generalize hu : unsigned l = u at *
    have Hu := Lib.hid hu
    clear hu
    by_cases h1 : u = []
    · have e1 : u.isEmpty = true := by simp [h1]
      have Hn := Lib.hid (show numB u = false by simp [numB, h1])
      clear h1
      go_enter Tryz.func49, Tryz.ntmps49
      go_wp2_with (go_at_call 83; refine (trimPrefix_any _ _).mono ?_; rw [Hu.out]; rintro e w' ⟨rfl, rfl⟩)
      go_ret
      exact ⟨ret_bool (by rw [H.out, Hn.out]), Below.refl _ _⟩
    · have e1 : u.isEmpty = false := by simpa using h1
      have hpos : 0 < u.length := List.length_pos_iff.2 h1
      by_cases h2 : u.length ≤ 18
      · by_cases h3 : bt u 0 = 48
        · have e3 := ynb (a := bt u 0) (m := 48) (by omega)
          have Hn := Lib.hid (show numB u = false by simp [numB, h3])
          clear h1 h3
          go_enter Tryz.func49, Tryz.ntmps49
          go_wp2_with (go_at_call 83; refine (trimPrefix_any _ _).mono ?_; rw [Hu.out]; rintro e w' ⟨rfl, rfl⟩)
          go_ret
          exact ⟨ret_bool (by rw [H.out, Hn.out]), Below.refl _ _⟩
        · have e3 := nnb (a := bt u 0) (m := 48) (by omega)
          have hb : numB u = (Lib.trimS u digits).isEmpty := by
            have h4 := trimS_nil u
            have h5 : (bt u 0 != 48) = true := by simpa using h3
            unfold numB
            rw [e1, h5]
            simp only [h2, decide_true, Bool.not_false, Bool.true_and]
            rw [Bool.eq_iff_iff, List.isEmpty_iff, h4]
          have Hn := Lib.hid hb
          clear h1 h3 hb
          go_enter Tryz.func49, Tryz.ntmps49
          go_wp2_with (first
            | (go_at_call 83; refine (trimPrefix_any _ _).mono ?_; rw [Hu.out]; rintro e w' ⟨rfl, rfl⟩)
            | (go_at_call 84; refine (trim_any _ _ hpos (by omega)).mono ?_; rintro e w' ⟨rfl, hb⟩))
          go_ret
          exact ⟨ret_bool (by rw [H.out, Hn.out]), by assumption⟩
      · have Hn := Lib.hid (show numB u = false by simp [numB, h2])
        clear h1
        go_enter Tryz.func49, Tryz.ntmps49
        go_wp2_with (go_at_call 83; refine (trimPrefix_any _ _).mono ?_; rw [Hu.out]; rintro e w' ⟨rfl, rfl⟩)
        go_ret
        exact ⟨ret_bool (by rw [H.out, Hn.out]), Below.refl _ _⟩
end Go.Proofs.YtlgdmbdhffdenaaGreatDoor
