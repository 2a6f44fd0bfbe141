/- Text (the program's), by its contract. -/
import Derived.Test.YtnigdcppdkcllaaDoorMCheck
import Derived.Test.YtnigdcppdkcllaaDoorMText
import Derived.Test.YtnigdcppdkcllaaDoorShelf
import Derived.Deep.QuietTactic
import Derived.BigQuiet
import Derived.IntWalk
namespace Go.Proofs.YtnigdcppdkcllaaDoor
set_option linter.unusedVariables false
set_option linter.unusedSimpArgs false
open Go.RowKit

theorem bs_cat (a b : List UInt8) : bs a ++ bs b = bs (a ++ b) := by
  apply ByteArray.ext
  simp [bs, ByteArray.data_append]
theorem bs_take (l : List UInt8) (k : Nat) : (bs l).extract 0 k = bs (l.take k) := by
  apply ByteArray.ext
  simp [bs, ByteArray.data_extract]
theorem bs_drop' (l : List UInt8) (k m : Nat) (hm : l.length = m) : (bs l).extract k m = bs (l.drop k) := by
  apply ByteArray.ext
  subst hm
  simp [bs, ByteArray.data_extract]
  exact List.take_of_length_le (by simp)
theorem below_grow (w : World) (k : Nat) (os : Array Obj) : Below w.heap.size w (Sort.grow (w.drewN k) os) :=
  (bdrew w k).trans ⟨rfl, rfl, rfl, by show (w.drewN k).heap.size ≤ ((w.drewN k).heap ++ os).size; simp, fun j hj => by
    show ((w.drewN k).heap ++ os)[j]? = (w.drewN k).heap[j]?
    exact Array.getElem?_append_left hj⟩
theorem itoa_any (a : Nat) (ha : a ≤ 1125899906842624) (w : World) (htab : Lib.TabIs Tryd.prog w "internal/strconv.uint64pow10" .u64 Lib.pow10Tab) :
    Calls Tryd.prog 28 #[.int .i64 (a : Int)] w fun e w' => e = .returned (.string (bs (Lib.decDigits a))) ∧ Below w.heap.size w w' :=
  (Tryd.strconv_Itoa (a : Int) (by omega) (by omega) w htab).mono fun e w' ⟨he, k, os, hw⟩ => ⟨by rw [he, Lib.itoa_nonneg]; rfl, hw ▸ below_grow w k os⟩
theorem rep_any (c : Nat) (hc : c ≤ 3) (w : World) : Calls Tryd.prog 29 #[.string ⟨#[48]⟩, .int .i64 (c : Int)] w fun e w' => e = .returned (.string (bs (List.replicate c 48))) ∧ Below w.heap.size w w' :=
  (Tryd.strings_Repeat ⟨#[48]⟩ c w (by omega) (by show 1 * c ≤ _; omega)).mono fun e w' ⟨he, hb⟩ => ⟨by
    rw [he]
    have : ∀ c, Lib.repeatL [48] c = List.replicate c 48 := fun c => by
      induction c with
      | zero => rfl
      | succ c ih => rw [Lib.repeatL, ih]; rfl
    show Ending.returned (.string ⟨(Lib.repeatL [48] c).toArray⟩) = _
    rw [this]; rfl, hb⟩

theorem txt_cat {n : Int} {P T : List UInt8} (hP : Lib.decDigits (n.natAbs / 100) = P) (hT : two n.natAbs = T) : (0 ≤ n → bs P ++ { data := #[46] } ++ bs T = bs (txt n)) ∧ (n < 0 → ({ data := #[45] } : ByteArray) ++ (bs P ++ { data := #[46] } ++ bs T) = bs (txt n)) := by
  subst hP hT
  have e : (bs (Lib.decDigits (n.natAbs / 100)) ++ { data := #[46] } ++ bs (two n.natAbs)) = bs (Lib.decDigits (n.natAbs / 100) ++ ([46] ++ two n.natAbs)) := by
    rw [show ({ data := #[46] } : ByteArray) = bs [46] from rfl, bs_cat, bs_cat, List.append_assoc]
  refine ⟨fun h => ?_, fun h => ?_⟩
  · rw [e]; unfold txt; rw [if_neg (by omega)]; rfl
  · rw [e, show ({ data := #[45] } : ByteArray) = bs [45] from rfl, bs_cat]; unfold txt; rw [if_pos h]

/-- What a call of Text leaves behind. -/
def TextPost (n : Int) (w : World) (e : Ending) (w' : World) : Prop := e = .returned (.tuple #[.string (bs (txtR n)), .int .i64 (amtE n)]) ∧ Below w.heap.size w w'
set_option maxRecDepth 100000 in
set_option maxHeartbeats 2000000 in
theorem text_any (n : Int) (w : World) (htab : Lib.TabIs Tryd.prog w "internal/strconv.uint64pow10" .u64 Lib.pow10Tab) : Calls Tryd.prog 16 #[.int .i64 n] w (TextPost n w) := by
  cases hm : amtB n with
  | false =>
    have HP := Lib.hid (show TextPost n w (.returned (.tuple #[.string { data := #[] }, .int .i64 50])) w from ⟨by rw [txtR_no hm, amtE_no hm]; rfl, Below.refl _ _⟩)
    go_enter Tryd.func16, Tryd.ntmps16
    go_wp2_with (go_at_call 20; refine (check_no n _ hm).mono ?_; rintro e w' ⟨rfl, rfl⟩)
    go_ret2
    exact HP.out
  | true =>
    obtain ⟨b1, b2⟩ := amtB_iff.1 hm
    obtain ⟨a, ha⟩ : ∃ a : Nat, n.natAbs = a := ⟨_, rfl⟩
    have hmx : max n (-n) = (a : Int) := by omega
    have ha2 : a ≤ 1125899906842624 := by omega
    have hI := Lib.hid (fun w h => itoa_any a ha2 w h)
    have HC := Lib.hid (check_yes n w hm)
    have HT := Lib.hid htab
    obtain ⟨P, hP⟩ : ∃ P, Lib.decDigits (a / 100) = P := ⟨_, rfl⟩
    have hT : two n.natAbs = two a := by rw [ha]
    have HX := Lib.hid (txt_cat (n := n) (by rw [ha, hP]) hT)
    have h3 : num3 a = P ++ two a := by unfold num3; rw [hP]
    have hl3 : (num3 a).length = P.length + 2 := by rw [h3]; simp [two]
    have hx1 : (bs (num3 a)).extract 0 P.length = bs P := by rw [bs_take, h3]; simp
    have hx2 : (bs (num3 a)).extract P.length (P.length + 2) = bs (two a) := by rw [bs_drop' _ _ _ hl3, h3]; simp
    have hPl := (dec_len (a := a / 100) (by omega)).2
    rw [hP] at hPl
    have HF : Hid (∀ w', Below w.heap.size w w' → TextPost n w (.returned (.tuple #[.string (bs (txt n)), .int .i64 0])) w') := Lib.hid (fun w' hb => ⟨by rw [txtR_yes hm, amtE_yes hm], hb⟩)
    have hcase : (∃ c : Nat, c = 1 ∧ (Lib.decDigits a).length = 2 ∧ bs [48] ++ bs (Lib.decDigits a) = bs (num3 a)) ∨ (∃ c : Nat, c = 2 ∧ (Lib.decDigits a).length = 1 ∧ bs [48, 48] ++ bs (Lib.decDigits a) = bs (num3 a)) ∨ (3 ≤ (Lib.decDigits a).length ∧ Lib.decDigits a = num3 a) := by
      have hp := pad3 a
      by_cases h1 : a < 10
      · have hl : (Lib.decDigits a).length = 1 := by rw [dec_small h1]; rfl
        rw [hl] at hp
        exact .inr (.inl ⟨2, rfl, hl, by rw [bs_cat]; exact congrArg bs hp⟩)
      · by_cases h2 : a < 100
        · have hl : (Lib.decDigits a).length = 2 := by rw [dec_big h1, dec_small (by omega)]; rfl
          rw [hl] at hp
          exact .inl ⟨1, rfl, hl, by rw [bs_cat]; exact congrArg bs hp⟩
        · have hl : 3 ≤ (Lib.decDigits a).length := by
            rw [dec_big h1, dec_big (a := a / 10) (by omega)]
            have := List.length_pos_iff.2 (dec_ne (a / 10 / 10))
            simp; omega
          rw [show 3 - (Lib.decDigits a).length = 0 from by omega] at hp
          exact .inr (.inr ⟨hl, hp⟩)
    have hwr : IntKind.i64.wrap (P.length : Int) = P.length := IntWalk.i64_in _ (by omega)
    have hle3 : (P.length : Int) ≤ (P.length : Int) + 2 := by omega
    have hT2 : (two a).length = 2 := rfl
    have hn1 : ¬ 9223372036854775807 < P.length + 1 := by omega
    have hn2 : ¬ 9223372036854775807 < P.length + 1 + 2 := by omega
    have hn3 : ¬ 9223372036854775807 < P.length + 3 := by omega
    clear h3 hT hP htab hm ha
    generalize two a = T at *
    generalize num3 a = N3 at *
    rcases hcase with ⟨c, hc, hld, hpad⟩ | ⟨c, hc, hld, hpad⟩ | ⟨hld, hpad⟩
    · clear hc
      generalize Lib.decDigits a = dd at *
      rcases Int.lt_or_le n 0 with h0 | h0
      · have HY := HX.out.2 h0
        clear HX
        go_enter Tryd.func16, Tryd.ntmps16
        go_wp2_with (fail)
        refine HC.out.mono ?_
        rintro e w' ⟨rfl, rfl⟩
        go_wp2_with (fail)
        refine (hI.out w HT.out).mono ?_
        rintro e w1 ⟨rfl, hb1'⟩
        have hb1 := Lib.hid hb1'
        clear hb1'
        go_wp2_with (fail)
        refine (rep_any 1 (by omega) w1).mono ?_
        rintro e w2 ⟨rfl, hb2'⟩
        have hb2 := Lib.hid (hb1.out.trans (hb2'.mono hb1.out.size))
        clear hb1 hb2'
        go_wp2
        go_quiet (fail)
        go_wp2
        go_ret2
        exact HF.out _ (hb2.out.trans (bdrew w2 nq))
      · have HY := HX.out.1 h0
        clear HX
        go_enter Tryd.func16, Tryd.ntmps16
        go_wp2_with (fail)
        refine HC.out.mono ?_
        rintro e w' ⟨rfl, rfl⟩
        go_wp2_with (fail)
        refine (hI.out w HT.out).mono ?_
        rintro e w1 ⟨rfl, hb1'⟩
        have hb1 := Lib.hid hb1'
        clear hb1'
        go_wp2_with (fail)
        refine (rep_any 1 (by omega) w1).mono ?_
        rintro e w2 ⟨rfl, hb2'⟩
        have hb2 := Lib.hid (hb1.out.trans (hb2'.mono hb1.out.size))
        clear hb1 hb2'
        go_wp2
        go_quiet (fail)
        go_wp2
        go_ret2
        exact HF.out _ (hb2.out.trans (bdrew w2 nq))
    · clear hc
      generalize Lib.decDigits a = dd at *
      rcases Int.lt_or_le n 0 with h0 | h0
      · have HY := HX.out.2 h0
        clear HX
        go_enter Tryd.func16, Tryd.ntmps16
        go_wp2_with (fail)
        refine HC.out.mono ?_
        rintro e w' ⟨rfl, rfl⟩
        go_wp2_with (fail)
        refine (hI.out w HT.out).mono ?_
        rintro e w1 ⟨rfl, hb1'⟩
        have hb1 := Lib.hid hb1'
        clear hb1'
        go_wp2_with (fail)
        refine (rep_any 2 (by omega) w1).mono ?_
        rintro e w2 ⟨rfl, hb2'⟩
        have hb2 := Lib.hid (hb1.out.trans (hb2'.mono hb1.out.size))
        clear hb1 hb2'
        go_wp2
        go_quiet (fail)
        go_wp2
        go_ret2
        exact HF.out _ (hb2.out.trans (bdrew w2 nq))
      · have HY := HX.out.1 h0
        clear HX
        go_enter Tryd.func16, Tryd.ntmps16
        go_wp2_with (fail)
        refine HC.out.mono ?_
        rintro e w' ⟨rfl, rfl⟩
        go_wp2_with (fail)
        refine (hI.out w HT.out).mono ?_
        rintro e w1 ⟨rfl, hb1'⟩
        have hb1 := Lib.hid hb1'
        clear hb1'
        go_wp2_with (fail)
        refine (rep_any 2 (by omega) w1).mono ?_
        rintro e w2 ⟨rfl, hb2'⟩
        have hb2 := Lib.hid (hb1.out.trans (hb2'.mono hb1.out.size))
        clear hb1 hb2'
        go_wp2
        go_quiet (fail)
        go_wp2
        go_ret2
        exact HF.out _ (hb2.out.trans (bdrew w2 nq))
    · rw [hpad] at hI
      rw [hpad, hl3] at hld
      clear hpad
      rcases Int.lt_or_le n 0 with h0 | h0
      · have HY := HX.out.2 h0
        clear HX
        go_enter Tryd.func16, Tryd.ntmps16
        go_wp2_with (fail)
        refine HC.out.mono ?_
        rintro e w' ⟨rfl, rfl⟩
        go_wp2_with (fail)
        refine (hI.out w HT.out).mono ?_
        rintro e w1 ⟨rfl, hb1'⟩
        have hb1 := Lib.hid hb1'
        clear hb1'
        go_wp2
        go_quiet (fail)
        go_wp2
        go_ret2
        exact HF.out _ (hb1.out.trans (bdrew w1 nq))
      · have HY := HX.out.1 h0
        clear HX
        go_enter Tryd.func16, Tryd.ntmps16
        go_wp2_with (fail)
        refine HC.out.mono ?_
        rintro e w' ⟨rfl, rfl⟩
        go_wp2_with (fail)
        refine (hI.out w HT.out).mono ?_
        rintro e w1 ⟨rfl, hb1'⟩
        have hb1 := Lib.hid hb1'
        clear hb1'
        go_wp2
        go_quiet (fail)
        go_wp2
        go_ret2
        exact HF.out _ (hb1.out.trans (bdrew w1 nq))
end Go.Proofs.YtnigdcppdkcllaaDoor
