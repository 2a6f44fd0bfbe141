/- The library's stable sort of problems by its contract, for lists of every length up to 100000. -/
import Derived.Test.YtlgdmbdhffdenaaGreatDoorYSrtS
import Derived.Test.YtlgdmbdhffdenaaGreatDoorYSort1
namespace Go.Proofs.YtlgdmbdhffdenaaGreatDoor
set_option linter.unusedVariables false
set_option linter.unusedSimpArgs false
open Go.RowKit
open Go.Sort (grow alloc_eq_grow grow_grow)

theorem dbl (q s : Nat) : 2 * q * s = q * (2 * s) := by rw [Nat.mul_comm 2 q, Nat.mul_assoc]
theorem dbl1 (q s : Nat) : (2 * q + 1) * s = q * (2 * s) + s := by rw [Nat.succ_mul, dbl]
theorem dbl2 (q s : Nat) : 2 * (q + 1) * s = q * (2 * s) + 2 * s := by rw [dbl, Nat.succ_mul]
theorem pair_lo {R : List Prob} {s m q X : Nat} (h : SBfrom R s m (2 * q)) (hX : q * (2 * s) = X) (hb : X + s ≤ m) : SortedR R X (X + s) := by
  have := h (2 * q) (Nat.le_refl _)
  rw [dbl, hX, Nat.min_eq_left hb] at this
  exact this
theorem pair_hi {R : List Prob} {s m q X b : Nat} (h : SBfrom R s m (2 * q)) (hX : q * (2 * s) = X) (hb : b ≤ X + 2 * s) (hm : b ≤ m) : SortedR R (X + s) b := by
  have := h (2 * q + 1) (Nat.le_succ _)
  rw [dbl1, hX] at this
  exact this.sub (Nat.le_refl _) (by omega)
theorem pair_one {R : List Prob} {s m q X : Nat} (h : SBfrom R s m (2 * q)) (hX : q * (2 * s) = X) (hm : m ≤ X + s) : SortedR R X m := by
  have := h (2 * q) (Nat.le_refl _)
  rw [dbl, hX, Nat.min_eq_right hm] at this
  exact this
/-- What the loop over blocks keeps. -/
def StA (w wr : World) (b z : Nat) (P : List Prob) (m s : Nat) (x y : Value) : Prop := ∃ (q : Nat) (R : List Prob), x = .int .i64 ((q * s : Nat) : Int) ∧ y = .int .i64 ((q * s + s : Nat) : Int) ∧ q * s ≤ m ∧ Hid (Only (· = b) w wr) ∧ Hid (PRow wr b z R) ∧ Hid (R.Perm P) ∧ Hid (SQ R s q)
/-- What the loop over sizes keeps. -/
def StB (w wr : World) (b z : Nat) (P : List Prob) (m : Nat) (x : Value) : Prop := ∃ (s : Nat) (R : List Prob), x = .int .i64 (s : Int) ∧ 20 ≤ s ∧ s ≤ 2 * m + 20 ∧ Hid (Only (· = b) w wr) ∧ Hid (PRow wr b z R) ∧ Hid (R.Perm P) ∧ Hid (SB R s m)
/-- What the loop over pairs of blocks keeps. -/
def StC (w wr : World) (b z : Nat) (P : List Prob) (m s : Nat) (x y : Value) : Prop := ∃ (q : Nat) (R : List Prob), x = .int .i64 ((q * (2 * s) : Nat) : Int) ∧ y = .int .i64 ((q * (2 * s) + 2 * s : Nat) : Int) ∧ q * (2 * s) ≤ m ∧ Hid (Only (· = b) w wr) ∧ Hid (PRow wr b z R) ∧ Hid (R.Perm P) ∧ Hid (SQ R (2 * s) q) ∧ Hid (SBfrom R s m (2 * q))

set_option maxHeartbeats 4000000 in
set_option maxRecDepth 100000 in
theorem ystab_any (b z m c : Nat) (P : List Prob) (w : World) (h : PRow w b z P) (hm : m = P.length) (hc : m ≤ 100000) :
    Calls Tryz.prog 75 #[.slice (some ⟨b, 0, none⟩) m c, .int .i64 m, .func (.func 39) #[] #[]] w fun e w' => e = .returned (.tuple #[]) ∧ Only (· = b) w w' ∧ ∃ R, PRow w' b z R ∧ R.Perm P ∧ SortedR R 0 m := by
  have HH := Lib.hid h
  have HM := Lib.hid hm
  have hmf := hmfP
  clear h hm
  go_enter Tryz.func75, Tryz.ntmps75
  go_wp2_with (fail)
  go_loopw [7, 8] (fun s t wr => StA w wr b z P m 20 s t) (fun s _ _ => m + 20 - (intOf s).toNat)
  case atStart => exact ⟨0, P, by go_num, by go_num, by omega, Only.refl _ _, HH.out, List.Perm.refl _, SQ.zero P 20⟩
  case round =>
    obtain ⟨q, R, rfl, rfl, hq, HO, HR, HP, HS⟩ := hrel
    have HL := Lib.hid (show m = R.length by rw [HP.out.length_eq]; exact HM.out)
    obtain ⟨X, hX⟩ : ∃ X, q * 20 = X := ⟨_, rfl⟩
    have HX := Lib.hid hX
    have HQ := Lib.hid (show (q + 1) * 20 = X + 20 by rw [Nat.succ_mul, hX])
    rw [hX] at hq ⊢
    clear hX
    by_cases hlt : X + 20 ≤ m
    · go_wp2_with (fail)
      refine (yins_any b z X (X + 20) m c R wr HR.out HL.out hc (by omega) hlt).mono ?_
      rintro e w2 ⟨rfl, ho, R', hr, hw, hs⟩
      have HO2 := Lib.hid (HO.out.trans ho)
      have HR2 := Lib.hid hr
      have HP2 := Lib.hid (hw.perm.trans HP.out)
      have HS2 := Lib.hid (HS.out.next (by rw [HX.out]; exact hw) (by rw [HX.out]; exact hs))
      clear ho hr hw hs
      go_wp2_with (fail)
      go_roundw
      case rel =>
        exact ⟨q + 1, R', by rw [HQ.out]; go_num, by rw [HQ.out]; go_num, by rw [HQ.out]; exact hlt, HO2.out, HR2.out, HP2.out, HS2.out⟩
      case measure => simp [intOf] <;> omega
    · go_wp2_with (fail)
      refine (yins_any b z X m m c R wr HR.out HL.out hc hq (Nat.le_refl _)).mono ?_
      rintro e w2 ⟨rfl, ho, R', hr, hw, hs⟩
      have HO2 := Lib.hid (HO.out.trans ho)
      have HR2 := Lib.hid hr
      have HP2 := Lib.hid (hw.perm.trans HP.out)
      have HS2 := Lib.hid (HS.out.done (n := m) (by rw [HX.out]; omega) (by rw [HX.out]; exact hw) (by rw [HX.out]; exact hs))
      clear ho hr hw hs HS HR HO HP HL HQ HX
      go_wp2_with (fail)
      go_loopw [6] (fun s wr => StB w wr b z P m s) (fun s _ => 4 * m + 100 - (intOf s).toNat)
      case atStart => exact ⟨20, R', rfl, by omega, by omega, HO2.out, HR2.out, HP2.out, HS2.out⟩
      case round =>
        obtain ⟨s, R, rfl, hs20, hsm, HO, HR, HP, HS⟩ := hrel
        by_cases hsn : s < m
        · go_wp2_with (fail)
          go_loopw [7, 8] (fun x y wr => StC w wr b z P m s x y) (fun x _ _ => m + 2 * s - (intOf x).toNat)
          case atStart => exact ⟨0, R, by go_num, by go_num, by omega, HO.out, HR.out, HP.out, SQ.zero R (2 * s), HS.out.from_⟩
          case round =>
            obtain ⟨q, R, rfl, rfl, hq, HO, HR, HP, HSQ, HSB⟩ := hrel
            have HL := Lib.hid (show m = R.length by rw [HP.out.length_eq]; exact HM.out)
            obtain ⟨X, hX⟩ : ∃ X, q * (2 * s) = X := ⟨_, rfl⟩
            have HX := Lib.hid hX
            have HN := Lib.hid (show (q + 1) * (2 * s) = X + 2 * s by rw [Nat.succ_mul, hX])
            have HD := Lib.hid (show 2 * (q + 1) * s = X + 2 * s by rw [dbl2, hX])
            rw [hX] at hq ⊢
            clear hX
            by_cases hlt : X + 2 * s ≤ m
            · have HS1 := Lib.hid (pair_lo HSB.out HX.out (by omega))
              have HS2 := Lib.hid (pair_hi HSB.out HX.out (Nat.le_refl (X + 2 * s)) hlt)
              have hlti : (X : Int) + 2 * (s : Int) ≤ (m : Int) := by omega
              go_wp2_with (fail)
              refine (ysym_any b z m c hc _ X (X + s) (X + 2 * s) R wr (Nat.le_refl _) HR.out HL.out (by omega) (by omega) hlt).mono ?_
              rintro e w3 ⟨rfl, ho, R', hr, hw, hso⟩
              have HO3 := Lib.hid (HO.out.trans ho)
              have HR3 := Lib.hid hr
              have HP3 := Lib.hid (hw.perm.trans HP.out)
              have HSQ3 := Lib.hid (HSQ.out.next (R := R') (by rw [HX.out]; exact hw) (by rw [HX.out]; exact hso HS1.out HS2.out))
              have HSB3 := Lib.hid (HSB.out.next (R := R') (2 * (q + 1)) (by omega) hw (by rw [HD.out]; exact Nat.le_refl _))
              clear ho hr hw hso
              go_wp2_with (fail)
              go_roundw
              case rel =>
                exact ⟨q + 1, R', by rw [HN.out]; go_num, by rw [HN.out]; go_num, by rw [HN.out]; exact hlt, HO3.out, HR3.out, HP3.out, HSQ3.out, HSB3.out⟩
              case measure => simp [intOf] <;> omega
            · have hlti : ¬ (X : Int) + 2 * (s : Int) ≤ (m : Int) := by omega
              by_cases h2 : X + s < m
              · have h2i : (X : Int) + (s : Int) < (m : Int) := by omega
                have HS1 := Lib.hid (pair_lo HSB.out HX.out (by omega))
                have HS2 := Lib.hid (pair_hi HSB.out HX.out (show m ≤ X + 2 * s by omega) (Nat.le_refl _))
                go_wp2_with (fail)
                refine (ysym_any b z m c hc _ X (X + s) m R wr (Nat.le_refl _) HR.out HL.out (by omega) h2 (Nat.le_refl _)).mono ?_
                rintro e w3 ⟨rfl, ho, R', hr, hw, hso⟩
                have HO3 := Lib.hid (HO.out.trans ho)
                have HR3 := Lib.hid hr
                have HP3 := Lib.hid (hw.perm.trans HP.out)
                have HS3 := Lib.hid (HSQ.out.done (R := R') (n := m) (by rw [HX.out]; omega) (by rw [HX.out]; exact hw) (by rw [HX.out]; exact hso HS1.out HS2.out))
                clear ho hr hw hso
                go_wp2_with (fail)
                go_roundw
                case rel => exact ⟨2 * s, R', by go_num, by omega, by omega, HO3.out, HR3.out, HP3.out, HS3.out⟩
                case measure => simp [intOf] <;> omega
              · have h2i : ¬ (X : Int) + (s : Int) < (m : Int) := by omega
                have HS3 := Lib.hid (HSQ.out.done (R := R) (n := m) (by rw [HX.out]; omega) (by rw [HX.out]; exact Within.refl _ _ _) (by rw [HX.out]; exact pair_one HSB.out HX.out (by omega)))
                go_wp2_with (fail)
                go_roundw
                case rel => exact ⟨2 * s, R, by go_num, by omega, by omega, HO.out, HR.out, HP.out, HS3.out⟩
                case measure => simp [intOf] <;> omega
        · go_wp2
          go_end0
          exact ⟨rfl, HO.out, R, HR.out, HP.out, HS.out.all (by omega)⟩
theorem sort_any : SortC 100000 := by
  intro base base2 A n c P w h hP
  have hn : n = P.length := h.len
  by_cases h1 : n ≤ 1
  · exact sort_one base base2 A n c P w h (by omega)
  · obtain ⟨b, z, rfl, hR, hnc, hback⟩ := h.prow (by omega)
    have HB := Lib.hid hback
    have HR := Lib.hid hR
    have HN := Lib.hid hn
    have hm : n ≤ 100000 := by omega
    have hmf := hmfP
    clear h hback hR hn
    go_enter Tryz.func38, Tryz.ntmps38
    go_wp2_with (fail)
    refine (ystab_any b z n c P w HR.out HN.out hm).mono ?_
    rintro e w' ⟨rfl, ho, R, hr, hp, hs⟩
    have HE : Hid (Only (fun k => (Value.slice (some ⟨b, 0, none⟩) n c).ownBlock = some k) w w' ∧ ∃ R : List Prob, R.Perm P ∧ Sorted R ∧ BRow w' base base2 (some ⟨b, 0, none⟩) n c R) := by
      refine ⟨⟨ho.os, ho.tape, ho.output, ho.size, fun k hk hk2 => ho.block k hk (fun e => hk2 (by rw [e]; rfl))⟩, R, hp, ?_, HB.out w' R hp.length_eq hr⟩
      rw [HN.out, ← hp.length_eq] at hs
      exact hs.all
    clear ho hr hp hs
    go_wp2_with (fail)
    go_end0
    exact ⟨rfl, HE.out⟩
end Go.Proofs.YtlgdmbdhffdenaaGreatDoor
