/- The parser's choose by its contract. -/
import Derived.Test.YtlgdmbdhffdenaaGreatDoorYInt
import Derived.Test.YtlgdmbdhffdenaaGreatDoorPD
namespace Go.Proofs.YtlgdmbdhffdenaaGreatDoor
set_option linter.unusedVariables false
set_option linter.unusedSimpArgs false
open Go.RowKit

theorem pchoose_none {T : List Tok} {ws : List (List UInt8 × Int)} {a : Nat} (h : lkup (nx T a).text ws = none) : pchoose T ws a = .bad a := by unfold pchoose; rw [h]
theorem pchoose_some {T : List Tok} {ws : List (List UInt8 × Int)} {a : Nat} {v : Int} (h : lkup (nx T a).text ws = some v) : pchoose T ws a = if isB T a (nx T a).text then .ok v (a + 1) else .bad a := by unfold pchoose; rw [h]
set_option maxHeartbeats 1000000 in
set_option maxRecDepth 100000 in
theorem ychoose_any (B g : Nat) (A : Option Addr) (n c : Nat) (T : List Tok) (a b : Nat) (ws : List (List UInt8 × Int)) (w : World) (h : PSt w B g A n c T a) (hT : TOk T) (ha : a ≤ 65537) (hM : MapIs w b ws) :
    Calls Tryz.prog 122 #[.pointer (some ⟨g, 0, none⟩), .map (some b)] w (PPost w B g A n c T (pchoose T ws a) fun x _ v => v = .int .i64 x) := by
  have htx := nx_len (a := a) hT
  obtain ⟨⟨k, tx, p⟩, ht⟩ : ∃ t, nx T a = t := ⟨_, rfl⟩
  have HN := Lib.hid (fun (w : World) (h : PSt w B g A n c T a) => ynext_any B g A n c T a w h (by omega))
  have HT := Lib.hid ht
  have hfld : ∀ (x y z : Value) (w : World), Sem.run Tryz.prog (Instr.field 53 (.agg #[x, y, z]) 1) w = .ok y w := fun _ _ _ _ => rfl
  rw [ht] at HN htx
  dsimp only at htx
  have HS := Lib.hid h
  have HM := Lib.hid hM
  clear ht hT h hM
  obtain ⟨r, hr⟩ : ∃ r, lkup tx ws = r := ⟨_, rfl⟩
  have HR := Lib.hid hr
  clear hr
  go_enter Tryz.func122, Tryz.ntmps122
  go_wp2_with (fail)
  refine (HN.out w HS.out).mono ?_
  rintro e w1 ⟨rfl, hb1'⟩
  have hb1 := Lib.hid hb1'
  have HM1 := Lib.hid (HM.out.below hb1')
  clear hb1'
  unfold tokV
  dsimp only
  go_wp2_with (at_lookup; refine Hid.out ?_)
  refine Lib.hid ?_
  refine wpList_lookup_is ?h1 (.tmp 8) (.tmp 11) ?h2 ?h3 HM1.out tx ?h4 (by omega) ?_
  case h1 => rfl
  case h2 => rfl
  case h3 => rfl
  case h4 => rfl
  rw [HR.out]
  cases r with
  | none =>
    have HE := Lib.hid (pchoose_none (T := T) (ws := ws) (a := a) (by rw [HT.out]; exact HR.out))
    dsimp only [Option.getD, Option.isSome]
    go_wp2_with (fail)
    refine (yfail_any g w1).mono ?_
    rintro e w4 ⟨rfl, rfl⟩
    go_wp2
    refine ⟨rfl, ?_⟩
    unfold PPost
    rw [HE.out]
    exact ⟨Only.of_below hb1.out, rfl, HS.out.below hb1.out⟩
  | some v =>
    dsimp only [Option.getD, Option.isSome]
    have HD' := pchoose_some (T := T) (ws := ws) (a := a) (by rw [HT.out]; exact HR.out)
    rw [HT.out] at HD'
    dsimp only at HD'
    have HS1 := Lib.hid (HS.out.below hb1.out)
    obtain ⟨q, hq⟩ : ∃ q, isB T a tx = q := ⟨_, rfl⟩
    rw [hq] at HD'
    have HD := Lib.hid HD'
    have HQ := Lib.hid hq
    clear HD' hq
    go_wp2_with (fail)
    refine (HN.out w1 HS1.out).mono ?_
    rintro e w2 ⟨rfl, hb2'⟩
    have HS2 := Lib.hid (HS1.out.below hb2')
    have hb2 := Lib.hid (hb1.out.trans (hb2'.mono hb1.out.size))
    clear hb2'
    unfold tokV
    dsimp only
    go_wp2_with (fail)
    cases q with
    | true =>
      refine (yskip_yes B g A n c T a tx w2 HS2.out (by omega) (by omega) HQ.out).mono ?_
      rintro e w3 ⟨rfl, hP', hO'⟩
      have hP := Lib.hid hP'
      have hO := Lib.hid hO'
      clear hP' hO'
      go_wp2_with (fail)
      go_ret
      unfold PPost
      rw [HD.out]
      exact ⟨(Only.of_below hb2.out).trans hO.out, ⟨_, rfl, rfl⟩, hP.out⟩
    | false =>
      refine (yskip_no B g A n c T a tx w2 HS2.out (by omega) (by omega) HQ.out).mono ?_
      rintro e w3 ⟨rfl, hb3'⟩
      have hb3 := Lib.hid (hb2.out.trans (hb3'.mono hb2.out.size))
      clear hb3'
      go_wp2_with (fail)
      refine (yfail_any g w3).mono ?_
      rintro e w4 ⟨rfl, rfl⟩
      go_wp2
      refine ⟨rfl, ?_⟩
      unfold PPost
      rw [HD.out]
      exact ⟨Only.of_below hb3.out, rfl, HS.out.below hb3.out⟩
end Go.Proofs.YtlgdmbdhffdenaaGreatDoor
