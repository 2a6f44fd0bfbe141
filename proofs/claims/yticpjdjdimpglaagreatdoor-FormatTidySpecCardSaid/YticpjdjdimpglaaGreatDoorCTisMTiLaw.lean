/- FormatTidySpec: the walk of the law. -/
import Derived.Test.YticpjdjdimpglaaGreatDoorCTisMSan
import Derived.Test.YticpjdjdimpglaaGreatDoorCTisMPFla
import Derived.Test.YticpjdjdimpglaaGreatDoorCTisMHolLaw
import Derived.Test.YticpjdjdimpglaaGreatDoorCTisMDirLaw
namespace Go.Proofs.YticpjdjdimpglaaGreatDoor
set_option linter.unusedVariables false
set_option linter.unusedSimpArgs false
open Go.RowKit
set_option maxHeartbeats 8000000 in
set_option maxRecDepth 100000 in
theorem tis_walk (x : CT) (A : Option Addr) (m d : Nat) (F : SF) (B : Option Addr) (n e : Nat) (w : World) (h : RepH N0 w x.ps A m d) (hF : RepT N0 w F B n e) (hG : FG w) (hcp : 0 < w.heap.size) :
    Calls Tryz.prog 4 #[.agg #[.int .i64 x.k, .int .i64 x.v, .int .i64 x.n, .slice A m d], .slice B n e] w fun e w' => e = .returned (.bool true) ∧ Below w.heap.size w w' := by
  have HR := Lib.hid h
  have HT := Lib.hid hF
  have HG := Lib.hid hG
  clear h hG hF
  go_enter Tryz.func4, Tryz.ntmps4
  go_wp2_with (fail)
  first | (refine calls_named ?_; intro W hW) | (refine body_named ?_; intro W hW) | (refine wpList_named ?_; intro W hW) | (refine wp_named ?_; intro W hW)
  have hb : Below w.heap.size w W := by rw [← hW]; exact (Below.refl _ _).alloc (Nat.le_refl _) _
  have hx : Blk W w.heap.size 24 #[.int .i64 x.k, .int .i64 x.v, .int .i64 x.n, .slice A m d] := by rw [← hW]; exact Blk.new w _ _
  clear hW
  have HB := Lib.hid hb
  have HX := Lib.hid hx
  clear hb hx
  refine (sane15_any W (HG.out.below HB.out) (Nat.lt_of_lt_of_le hcp HB.out.size)).mono ?_
  rintro e w1 ⟨rfl, hb⟩
  have HB1 := Lib.hid (HB.out.trans (hb.mono HB.out.size))
  have HX1 := Lib.hid (HX.out.below hb HX.out.lt)
  clear hb HX HB
  have x0 := HX1.out.cell 0
  have x1 := HX1.out.cell 1
  have x2 := HX1.out.cell 2
  have x3 := HX1.out.cell 3
  have xl := HX1.out.lt
  go_wp2_with (fail)
  refine (few_any N0 x A m d w1 (HR.out.below HB1.out)).mono ?_
  rintro e w2 ⟨hb, b, rfl, hf⟩
  have HB2 := Lib.hid (HB1.out.trans (hb.mono HB1.out.size))
  have HX2 := Lib.hid (HX1.out.below hb HX1.out.lt)
  clear hb HX1 HB1 x0 x1 x2 x3 xl
  cases b with
  | false =>
    go_wp2_with (fail)
    go_ret
    exact ⟨rfl, HB2.out⟩
  | true =>
    have HF := Lib.hid (hf rfl)
    clear hf
    go_wp2_with (fail)
    refine (fewsteps_any N0 F B n e w2 (HT.out.below HB2.out)).mono ?_
    rintro e w3 ⟨hb, b, rfl, hf⟩
    have HB3 := Lib.hid (HB2.out.trans (hb.mono HB2.out.size))
    have HX3 := Lib.hid (HX2.out.below hb HX2.out.lt)
    clear hb HX2 HB2
    cases b with
    | false =>
      go_wp2_with (fail)
      go_ret
      exact ⟨rfl, HB3.out⟩
    | true =>
      have HFS := Lib.hid (hf rfl)
      clear hf
      have x0 := HX3.out.cell 0
      have x1 := HX3.out.cell 1
      have x2 := HX3.out.cell 2
      have x3 := HX3.out.cell 3
      have xl := HX3.out.lt
      go_wp2_with (fail)
      obtain ⟨⟨y, z⟩, hyz⟩ : ∃ q, q = tidy x := ⟨_, rfl⟩
      have HP := Lib.hid (fun (W : World) (hW : Below w.heap.size w W) => ptidy_any (S := N0) (c := x) (w := W) (fun _ h => h.elim) (HR.out.below hW) (by have := HF.out.1; omega))
      refine (tidy_any (S := N0) (c := x) (fun _ h => h.elim) (HR.out.below HB3.out) (by have := HF.out.1; omega)).mono ?_
      rw [← hyz] at HP ⊢
      clear hyz
      rintro e w4 ⟨hb, Ay, my, dy, rfl, hry⟩
      have HB4 := Lib.hid (HB3.out.trans (hb.mono HB3.out.size))
      have HX4 := Lib.hid (HX3.out.below hb HX3.out.lt)
      have HRY := Lib.hid hry
      clear hb hry HX3 HB3 x0 x1 x2 x3 xl
      unfold cV
      dsimp only [vi]
      have x0 := HX4.out.cell 0
      have x1 := HX4.out.cell 1
      have x2 := HX4.out.cell 2
      have x3 := HX4.out.cell 3
      have xl := HX4.out.lt
      go_wp2_with (fail)
      first | (refine calls_named ?_; intro W5 hW) | (refine body_named ?_; intro W5 hW) | (refine wpList_named ?_; intro W5 hW) | (refine wp_named ?_; intro W5 hW)
      have hb : Below w4.heap.size w4 W5 := by rw [← hW]; exact (Below.refl _ _).alloc (Nat.le_refl _) _
      have hy : Blk W5 w4.heap.size 24 #[.int .i64 y.k, .int .i64 y.v, .int .i64 y.n, .slice Ay my dy] := by rw [← hW]; exact Blk.new _ _ _
      clear hW x0 x1 x2 x3 xl
      have HB5 := Lib.hid (HB4.out.trans (hb.mono HB4.out.size))
      have HR5 := Lib.hid (HRY.out.below hb)
      have HY5 := Lib.hid hy
      clear hb hy HX4 HRY HB4
      generalize w4.heap.size = yb at HY5 ⊢
      refine (HP.out W5 HB5.out).mono ?_
      rintro e w6 ⟨hb, Az, mz, dz, rfl, hrz⟩
      have HB6 := Lib.hid (HB5.out.trans (hb.mono HB5.out.size))
      have HR6 := Lib.hid (HR5.out.below hb)
      have HY6 := Lib.hid (HY5.out.below hb HY5.out.lt)
      have HRZ := Lib.hid hrz
      clear hb hrz HR5 HY5 HB5
      unfold cV
      dsimp only [vi]
      go_wp2_with (fail)
      first | (refine calls_named ?_; intro W7 hW) | (refine body_named ?_; intro W7 hW) | (refine wpList_named ?_; intro W7 hW) | (refine wp_named ?_; intro W7 hW)
      have hb : Below w6.heap.size w6 W7 := by rw [← hW]; exact (Below.refl _ _).alloc (Nat.le_refl _) _
      have hq : Blk W7 w6.heap.size 24 #[.int .i64 y.k, .int .i64 y.v, .int .i64 y.n, .slice Az mz dz] := by rw [← hW]; exact Blk.new _ _ _
      clear hW
      have HB7 := Lib.hid (HB6.out.trans (hb.mono HB6.out.size))
      have HR7 := Lib.hid (HR6.out.below hb)
      have HY7 := Lib.hid (HY6.out.below hb HY6.out.lt)
      have HZ7 := Lib.hid (HRZ.out.below hb)
      have HQ7 := Lib.hid hq
      clear hb hq HR6 HY6 HB6 HRZ
      generalize w6.heap.size = qb at HQ7 ⊢
      obtain ⟨⟨G, g⟩, hg⟩ : ∃ q, q = flatO F := ⟨_, rfl⟩
      have HPF := Lib.hid (fun (W : World) (hW : Below w.heap.size w W) => pflatO_any (S := N0) (F := F) (w := W) (fun _ h => h.elim) (HT.out.below hW) (by have := HFS.out.1; omega))
      refine (flatO_any (S := N0) (F := F) (fun _ h => h.elim) (HT.out.below HB7.out) (by have := HFS.out.1; omega)).mono ?_
      rw [← hg] at HPF ⊢
      clear hg
      rintro e w8 ⟨hb, Ag, mg, dg, rfl, hrg⟩
      have HB8 := Lib.hid (HB7.out.trans (hb.mono HB7.out.size))
      have HR8 := Lib.hid (HR7.out.below hb)
      have HY8 := Lib.hid (HY7.out.below hb HY7.out.lt)
      have HZ8 := Lib.hid (HZ7.out.below hb)
      have HQ8 := Lib.hid (HQ7.out.below hb HQ7.out.lt)
      have HG8 := Lib.hid hrg
      clear hb hrg HR7 HY7 HB7 HZ7 HQ7
      go_wp2_with (fail)
      refine (HPF.out w8 HB8.out).mono ?_
      rintro e w9 ⟨hb, Ah, mh, dh, rfl, hrh⟩
      have HB9 := Lib.hid (HB8.out.trans (hb.mono HB8.out.size))
      have HR9 := Lib.hid (HR8.out.below hb)
      have HY9 := Lib.hid (HY8.out.below hb HY8.out.lt)
      have HZ9 := Lib.hid (HZ8.out.below hb)
      have HQ9 := Lib.hid (HQ8.out.below hb HQ8.out.lt)
      have HG9 := Lib.hid (HG8.out.below hb)
      have HH9 := Lib.hid hrh
      clear hb hrh HR8 HY8 HB8 HZ8 HQ8 HG8
      have y0 := HY9.out.cell 0
      have y1 := HY9.out.cell 1
      have y2 := HY9.out.cell 2
      have y3 := HY9.out.cell 3
      have yl := HY9.out.lt
      have q0 := HQ9.out.cell 0
      have q1 := HQ9.out.cell 1
      have q2 := HQ9.out.cell 2
      have q3 := HQ9.out.cell 3
      have ql := HQ9.out.lt
      go_wp2_with (fail)
      refine (rsc_same N0 y Ay my dy Az mz dz w9 HR9.out HZ9.out).mono ?_
      rintro e w10 ⟨rfl, hb⟩
      have HBA := Lib.hid (HB9.out.trans (hb.mono HB9.out.size))
      have HGA := Lib.hid (HG9.out.below hb)
      have HHA := Lib.hid (HH9.out.below hb)
      clear hb HR9 HY9 HB9 HZ9 HQ9 HG9 HH9 y0 y1 y2 y3 yl q0 q1 q2 q3 ql
      go_wp2_with (fail)
      refine (rsame_same N0 G Ag mg dg Ah mh dh w10 HGA.out HHA.out).mono ?_
      rintro e w11 ⟨rfl, hb⟩
      have HBB := Lib.hid (HBA.out.trans (hb.mono HBA.out.size))
      clear hb HBA HGA HHA
      go_wp2_with (fail)
      go_ret
      exact ⟨rfl, HBB.out⟩
end Go.Proofs.YticpjdjdimpglaaGreatDoor
