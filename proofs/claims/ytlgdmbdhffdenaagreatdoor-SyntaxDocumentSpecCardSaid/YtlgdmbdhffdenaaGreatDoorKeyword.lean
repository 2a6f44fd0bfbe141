/- lexis.Keyword by its contract. -/
import Derived.Test.YtlgdmbdhffdenaaGreatDoorStrs2
namespace Go.Proofs.YtlgdmbdhffdenaaGreatDoor
set_option linter.unusedVariables false
set_option linter.unusedSimpArgs false
open Go.RowKit

/-- The words of the keywords, as the program's constant has them. -/
def wordsL : List UInt8 := (([32, 114, 117, 108, 101, 115, 32, 119, 105, 110, 32, 100, 114, 97, 119, 32, 108, 111, 115, 115, 32, 111, 114, 100, 101, 114, 32, 122, 111, 110, 101, 115].append [32, 116, 111, 32, 105, 102, 32, 101, 108, 115, 101, 32, 97, 110, 100, 32, 111, 114, 32, 110, 111, 116, 32, 116, 105, 101, 100, 32, 114, 111, 117, 110, 100]).append ([32, 102, 105, 110, 105, 115, 104, 101, 100, 32, 99, 108, 117, 98, 115, 32, 112, 111, 105, 110, 116, 115, 32, 100, 105, 102, 102, 101, 114, 101, 110, 99].append [101, 32, 103, 111, 97, 108, 115, 32, 119, 105, 110, 115, 32, 97, 119, 97, 121, 32, 102, 97, 105, 114, 32, 104, 101, 97, 100, 32, 108, 111, 116, 115, 32]))
/-- A list of bytes cut at spaces. -/
def cuts : List UInt8 → List (List UInt8)
  | [] => [[]]
  | c :: r => if c = 32 then [] :: cuts r else match cuts r with | [] => [[c]] | x :: xs => (c :: x) :: xs
/-- The keywords. -/
def kws : List (List UInt8) := (cuts wordsL).filter fun x => !x.isEmpty
/-- Is it a keyword? -/
def kwB (l : List UInt8) : Bool := kws.contains l

theorem str_sp (l : List UInt8) : (({ data := #[32] } : ByteArray) ++ bs l ++ { data := #[32] }) = bs (32 :: l ++ [32]) := by
  apply ByteArray.ext
  simp [bs]

/-- An occurrence begins at some place. -/
theorem contains_iff (s sub : List UInt8) : Lib.contains s sub = true ↔ ∃ i, i ≤ s.length ∧ sub.isPrefixOf (s.drop i) = true := by
  unfold Lib.contains
  rw [decide_eq_true_iff]
  induction s with
  | nil =>
    unfold Lib.index
    cases sub with
    | nil => simp
    | cons a sub => simp
  | cons b s ih =>
    unfold Lib.index
    by_cases hp : sub.isPrefixOf (b :: s) = true
    · rw [if_pos hp]
      constructor
      · intro _; exact ⟨0, Nat.zero_le _, hp⟩
      · intro _; omega
    · rw [if_neg hp]
      have h1 : (∃ i, i ≤ (b :: s).length ∧ sub.isPrefixOf ((b :: s).drop i) = true) ↔ ∃ i, i ≤ s.length ∧ sub.isPrefixOf (s.drop i) = true := by
        constructor
        · rintro ⟨i, hi, h⟩
          cases i with
          | zero => exact absurd h hp
          | succ i => exact ⟨i, by simpa using hi, h⟩
        · rintro ⟨i, hi, h⟩
          exact ⟨i + 1, by simpa using hi, h⟩
      rw [h1, ← ih]
      have hge := Lib.index_ge s sub
      by_cases hm : (Lib.index s sub == -1) = true
      · rw [if_pos hm]
        have : Lib.index s sub = -1 := by simpa using hm
        omega
      · rw [if_neg hm]
        have : ¬ Lib.index s sub = -1 := by simpa using hm
        omega
/-- What stands between the space at place i and the next. -/
def wordAt (s : List UInt8) (i : Nat) : List UInt8 := (s.drop (i + 1)).takeWhile (· != 32)
theorem words_all : ∀ i, i ≤ wordsL.length → bt wordsL i = 32 → ¬ wordAt wordsL i = [] → wordAt wordsL i ∈ kws := by decide +kernel
theorem kws_in : ∀ x ∈ kws, Lib.contains wordsL (32 :: x ++ [32]) = true ∧ wordB x = true := by decide +kernel
theorem prefix_word {l r : List UInt8} (hl : ∀ c ∈ l, c ≠ 32) (h : (l ++ [32]).isPrefixOf r = true) : r.takeWhile (· != 32) = l := by
  rw [List.isPrefixOf_iff_prefix] at h
  obtain ⟨t, rfl⟩ := h
  induction l with
  | nil => simp
  | cons a l ih =>
    have ha := hl a (by simp)
    have := ih (fun c hc => hl c (by simp [hc]))
    simp only [List.cons_append, List.takeWhile_cons]
    rw [if_pos (by simpa using ha)]
    congr 1
theorem kw_eq (l : List UInt8) : (wordB l && Lib.contains wordsL (32 :: l ++ [32])) = kwB l := by
  unfold kwB
  rw [Bool.eq_iff_iff, Bool.and_eq_true, List.contains_iff_mem]
  constructor
  · rintro ⟨hw, hc⟩
    rw [contains_iff] at hc
    obtain ⟨i, hi, hp⟩ := hc
    have hne : l ≠ [] := by rintro rfl; cases hw
    have hsp : ∀ c ∈ l, c ≠ 32 := by
      intro c hc e
      unfold wordB at hw
      rw [Bool.and_eq_true] at hw
      have := List.all_eq_true.1 hw.2 c hc
      subst e
      cases this
    have h2 : bt wordsL i = 32 ∧ (l ++ [32]).isPrefixOf (wordsL.drop (i + 1)) = true := by
      cases hd : wordsL.drop i with
      | nil => rw [hd] at hp; cases hp
      | cons a r =>
        rw [hd, List.cons_append, List.isPrefixOf_cons_cons, Bool.and_eq_true] at hp
        have h3 : wordsL.drop (i + 1) = r := by
          have := congrArg (List.drop 1) hd
          simpa [List.drop_drop] using this
        rw [h3]
        have h4 : bt wordsL i = a.toNat := by
          have := bt_drop wordsL i 0
          rw [hd, Nat.add_zero] at this
          rw [← this]
          rfl
        refine ⟨?_, hp.2⟩
        rw [h4, ← beq_iff_eq.1 hp.1]
        rfl
    have h3 : wordAt wordsL i = l := prefix_word hsp h2.2
    have := words_all i hi h2.1 (by rw [h3]; exact hne)
    rwa [h3] at this
  · intro h
    have := kws_in l h
    exact ⟨this.2, this.1⟩

set_option maxHeartbeats 1000000 in
theorem keyword_any (l : List UInt8) (m : Int) (w : World) (hm : w.cell? ⟨0, 0, none⟩ = some (.int .i64 m)) (hl : l.length ≤ 70000) :
    Calls Tryz.prog 74 #[.string (bs l)] w fun e w' => e = .returned (.bool (kwB l)) ∧ Below w.heap.size w w' := by
  have hk := kw_eq l
  have hlt := World.block_lt_of_cell? w _ hm
  by_cases hw : wordB l = true
  · have H := Lib.hid hw
    have HK := Lib.hid (show kwB l = Lib.contains wordsL (32 :: l ++ [32]) by rw [← hk, hw]; rfl)
    clear hk hw
    go_enter Tryz.func74, Tryz.ntmps74
    go_wp2_with (go_at_call 48; refine (isWord_any l _ (by omega)).mono ?_; rw [H.out]; rintro e w1 ⟨rfl, hb1⟩)
    rw [str_sp]
    refine (contains_any wordsL (32 :: l ++ [32]) (kwB l) HK.out.symm m w1 ((hb1.cell (p := ⟨0, 0, none⟩) hlt).trans hm) (by decide +kernel)).mono ?_
    rintro e w2 ⟨rfl, rfl⟩
    go_wp2
    go_ret
    exact ⟨rfl, hb1⟩
  · have hw' : wordB l = false := by simpa using hw
    have H := Lib.hid hw'
    have HK := Lib.hid (show kwB l = false by rw [← hk, hw']; rfl)
    clear hk hw hw'
    go_enter Tryz.func74, Tryz.ntmps74
    go_wp2_with (go_at_call 48; refine (isWord_any l _ (by omega)).mono ?_; rw [H.out]; rintro e w1 ⟨rfl, hb1⟩)
    go_ret
    exact ⟨ret_bool HK.out.symm, hb1⟩
end Go.Proofs.YtlgdmbdhffdenaaGreatDoor
