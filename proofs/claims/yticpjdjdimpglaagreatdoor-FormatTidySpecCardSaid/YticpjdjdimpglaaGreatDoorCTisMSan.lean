/- sane of chapter 15: the examples of the chapter hold. (Printed by wip/bin/gensan.py.) -/
import Derived.Test.YticpjdjdimpglaaGreatDoorCTisMSnB
namespace Go.Proofs.YticpjdjdimpglaaGreatDoor
set_option linter.unusedVariables false
set_option linter.unusedSimpArgs false
open Go.RowKit
set_option maxHeartbeats 8000000 in
set_option maxRecDepth 100000 in
theorem sane15_any (w : World) (hG : FG w) (hcp : 0 < w.heap.size) : Calls Tryz.prog 10 #[] w fun e w' => e = .returned (.bool true) ∧ Below w.heap.size w w' := by
  have HB0 := Lib.hid (Below.refl w.heap.size w)
  have FG0 := Lib.hid hG
  clear hG
  go_enter Tryz.func10, Tryz.ntmps10
  go_wp2_with (fail)
  refine (at_any 1 3 w).mono ?_
  rintro e w1 ⟨rfl, hb⟩
  have HB1 := Lib.hid (HB0.out.trans (hb.mono HB0.out.size))
  have FG1 := Lib.hid (FG0.out.below hb)
  clear hb FG0 HB0
  go_wp2_with (fail)
  refine (at_any 3 1 w1).mono ?_
  rintro e w2 ⟨rfl, hb⟩
  have HB2 := Lib.hid (HB1.out.trans (hb.mono HB1.out.size))
  have FG2 := Lib.hid (FG1.out.below hb)
  clear hb FG1 HB1
  go_wp2_with (fail)
  refine (lnot_any (least 3 1) none 0 0 w2 RepH.nil).mono ?_
  rintro e w3 ⟨hb, g, rfl, hr⟩
  have HB3 := Lib.hid (HB2.out.trans (hb.mono HB2.out.size))
  have FG3 := Lib.hid (FG2.out.below hb)
  clear hb FG2 HB2
  have R3 := Lib.hid hr
  clear hr
  go_wp2_with (fail)
  first | (refine calls_named ?_; intro w4 hw) | (refine body_named ?_; intro w4 hw) | (refine wpList_named ?_; intro w4 hw) | (refine wp_named ?_; intro w4 hw)
  have hb : Below w3.heap.size w3 w4 := by rw [← hw]; exact (Below.refl _ _).alloc (Nat.le_refl _) _
  have hx : Blk w4 w3.heap.size 24 #[.int .i64 1, .int .i64 1, .int .i64 3, .slice none 0 0, .int .i64 4, .int .i64 0, .int .i64 0, .slice (some ⟨g, 0, none⟩) 1 1] := by rw [← hw]; exact Blk.new _ _ _
  clear hw
  have HB4 := Lib.hid (HB3.out.trans (hb.mono HB3.out.size))
  have FG4 := Lib.hid (FG3.out.below hb)
  have R4 := Lib.hid (R3.out.below hb)
  clear hb FG3 R3 HB3
  have A4 := Lib.hid (two_new (x := least 1 3) (y := cnot (least 3 1)) hx RepH.nil R4.out)
  clear hx
  clear R4
  go_wp2_with (fail)
  refine (land_any (some ⟨w3.heap.size, 0, none⟩) 2 2 w4).mono ?_
  rintro e w5 ⟨rfl, hb⟩
  have HB5 := Lib.hid (HB4.out.trans (hb.mono HB4.out.size))
  have FG5 := Lib.hid (FG4.out.below hb)
  have A5 := Lib.hid (A4.out.below hb)
  clear hb FG4 A4 HB4
  go_wp2_with (fail)
  refine (fcond_any N0 exA (some ⟨w3.heap.size, 0, none⟩) 2 2 w5 A5.out (by decide) FG5.out).mono ?_
  rw [fex1]
  rintro e w6 ⟨rfl, hb⟩
  have HB6 := Lib.hid (HB5.out.trans (hb.mono HB5.out.size))
  have FG6 := Lib.hid (FG5.out.below hb)
  have A6 := Lib.hid (A5.out.below hb)
  clear hb FG5 A5 HB5
  clear A6
  go_wp2_with (fail)
  refine (at_any 4 2 w6).mono ?_
  rintro e w7 ⟨rfl, hb⟩
  have HB7 := Lib.hid (HB6.out.trans (hb.mono HB6.out.size))
  have FG7 := Lib.hid (FG6.out.below hb)
  clear hb FG6 HB6
  go_wp2_with (fail)
  first | (refine calls_named ?_; intro w8 hw) | (refine body_named ?_; intro w8 hw) | (refine wpList_named ?_; intro w8 hw) | (refine wp_named ?_; intro w8 hw)
  have hb : Below w7.heap.size w7 w8 := by rw [← hw]; exact (Below.refl _ _).alloc (Nat.le_refl _) _
  have hx : Blk w8 w7.heap.size 24 #[.int .i64 1, .int .i64 4, .int .i64 2, .slice none 0 0] := by rw [← hw]; exact Blk.new _ _ _
  clear hw
  have HB8 := Lib.hid (HB7.out.trans (hb.mono HB7.out.size))
  have FG8 := Lib.hid (FG7.out.below hb)
  clear hb FG7 HB7
  have A8 := Lib.hid (one_new (x := least 4 2) hx RepH.nil)
  clear hx
  go_wp2_with (fail)
  refine (land_any (some ⟨w7.heap.size, 0, none⟩) 1 1 w8).mono ?_
  rintro e w9 ⟨rfl, hb⟩
  have HB9 := Lib.hid (HB8.out.trans (hb.mono HB8.out.size))
  have FG9 := Lib.hid (FG8.out.below hb)
  have A9 := Lib.hid (A8.out.below hb)
  clear hb FG8 A8 HB8
  go_wp2_with (fail)
  refine (fcond_any N0 ⟨2, 0, 0, .one (least 4 2) .nil⟩ (some ⟨w7.heap.size, 0, none⟩) 1 1 w9 A9.out (by decide) FG9.out).mono ?_
  rw [fex2]
  rintro e w10 ⟨rfl, hb⟩
  have HB10 := Lib.hid (HB9.out.trans (hb.mono HB9.out.size))
  have FG10 := Lib.hid (FG9.out.below hb)
  have A10 := Lib.hid (A9.out.below hb)
  clear hb FG9 A9 HB9
  clear A10
  go_wp2_with (fail)
  refine (land_any none 0 0 w10).mono ?_
  rintro e w11 ⟨rfl, hb⟩
  have HB11 := Lib.hid (HB10.out.trans (hb.mono HB10.out.size))
  have FG11 := Lib.hid (FG10.out.below hb)
  clear hb FG10 HB10
  go_wp2_with (fail)
  refine (fcond_any N0 ⟨2, 0, 0, .nil⟩ none 0 0 w11 RepH.nil (by decide) FG11.out).mono ?_
  rw [fex3]
  rintro e w12 ⟨rfl, hb⟩
  have HB12 := Lib.hid (HB11.out.trans (hb.mono HB11.out.size))
  have FG12 := Lib.hid (FG11.out.below hb)
  clear hb FG11 HB11
  go_wp2_with (fail)
  refine (at_any 1 3 w12).mono ?_
  rintro e w13 ⟨rfl, hb⟩
  have HB13 := Lib.hid (HB12.out.trans (hb.mono HB12.out.size))
  have FG13 := Lib.hid (FG12.out.below hb)
  clear hb FG12 HB12
  go_wp2_with (fail)
  refine (at_any 1 5 w13).mono ?_
  rintro e w14 ⟨rfl, hb⟩
  have HB14 := Lib.hid (HB13.out.trans (hb.mono HB13.out.size))
  have FG14 := Lib.hid (FG13.out.below hb)
  clear hb FG13 HB13
  go_wp2_with (fail)
  first | (refine calls_named ?_; intro w15 hw) | (refine body_named ?_; intro w15 hw) | (refine wpList_named ?_; intro w15 hw) | (refine wp_named ?_; intro w15 hw)
  have hb : Below w14.heap.size w14 w15 := by rw [← hw]; exact (Below.refl _ _).alloc (Nat.le_refl _) _
  have hx : Blk w15 w14.heap.size 24 #[.int .i64 1, .int .i64 1, .int .i64 3, .slice none 0 0, .int .i64 1, .int .i64 1, .int .i64 5, .slice none 0 0] := by rw [← hw]; exact Blk.new _ _ _
  clear hw
  have HB15 := Lib.hid (HB14.out.trans (hb.mono HB14.out.size))
  have FG15 := Lib.hid (FG14.out.below hb)
  clear hb FG14 HB14
  have A15 := Lib.hid (two_new (x := least 1 3) (y := least 1 5) hx RepH.nil RepH.nil)
  clear hx
  go_wp2_with (fail)
  refine (lor_any (some ⟨w14.heap.size, 0, none⟩) 2 2 w15).mono ?_
  rintro e w16 ⟨rfl, hb⟩
  have HB16 := Lib.hid (HB15.out.trans (hb.mono HB15.out.size))
  have FG16 := Lib.hid (FG15.out.below hb)
  have A16 := Lib.hid (A15.out.below hb)
  clear hb FG15 A15 HB15
  go_wp2_with (fail)
  refine (lnot_any ⟨3, 0, 0, .one (least 1 3) (.one (least 1 5) .nil)⟩ (some ⟨w14.heap.size, 0, none⟩) 2 2 w16 A16.out).mono ?_
  rintro e w17 ⟨hb, g4, rfl, hr⟩
  have HB17 := Lib.hid (HB16.out.trans (hb.mono HB16.out.size))
  have FG17 := Lib.hid (FG16.out.below hb)
  have A17 := Lib.hid (A16.out.below hb)
  clear hb FG16 A16 HB16
  have R17 := Lib.hid hr
  clear hr
  clear A17
  go_wp2_with (fail)
  refine (tidy_any (S := N0) (c := cnot ⟨3, 0, 0, .one (least 1 3) (.one (least 1 5) .nil)⟩) (fun _ h => h.elim) R17.out (by decide)).mono ?_
  rw [fex4]
  rintro e w18 ⟨hb, A7, m7, d7, rfl, hr⟩
  have HB18 := Lib.hid (HB17.out.trans (hb.mono HB17.out.size))
  have FG18 := Lib.hid (FG17.out.below hb)
  have R18 := Lib.hid (R17.out.below hb)
  clear hb FG17 R17 HB17
  have X18 := Lib.hid hr
  clear hr
  clear R18
  unfold cV
  dsimp only [vi, cnot, least]
  go_wp2_with (fail)
  first | (refine calls_named ?_; intro w19 hw) | (refine body_named ?_; intro w19 hw) | (refine wpList_named ?_; intro w19 hw) | (refine wp_named ?_; intro w19 hw)
  have hb : Below w18.heap.size w18 w19 := by rw [← hw]; exact (Below.refl _ _).alloc (Nat.le_refl _) _
  have hx : Blk w19 w18.heap.size 24 #[.int .i64 4, .int .i64 0, .int .i64 0, .slice A7 m7 d7] := by rw [← hw]; exact Blk.new _ _ _
  clear hw
  have HB19 := Lib.hid (HB18.out.trans (hb.mono HB18.out.size))
  have FG19 := Lib.hid (FG18.out.below hb)
  have X19 := Lib.hid (X18.out.below hb)
  clear hb FG18 X18 HB18
  have BX19 := Lib.hid hx
  clear hx
  go_wp2_with (fail)
  refine (at_any 2 0 w19).mono ?_
  rintro e w20 ⟨rfl, hb⟩
  have HB20 := Lib.hid (HB19.out.trans (hb.mono HB19.out.size))
  have FG20 := Lib.hid (FG19.out.below hb)
  have X20 := Lib.hid (X19.out.below hb)
  have BX20 := Lib.hid (BX19.out.below hb BX19.out.lt)
  clear hb FG19 X19 BX19 HB19
  go_wp2_with (fail)
  refine (lnot_any (least 2 0) none 0 0 w20 RepH.nil).mono ?_
  rintro e w21 ⟨hb, g5, rfl, hr⟩
  have HB21 := Lib.hid (HB20.out.trans (hb.mono HB20.out.size))
  have FG21 := Lib.hid (FG20.out.below hb)
  have X21 := Lib.hid (X20.out.below hb)
  have BX21 := Lib.hid (BX20.out.below hb BX20.out.lt)
  clear hb FG20 X20 BX20 HB20
  have R21 := Lib.hid hr
  clear hr
  go_wp2_with (fail)
  refine (lnot_any (cnot (least 2 0)) (some ⟨g5, 0, none⟩) 1 1 w21 R21.out).mono ?_
  rintro e w22 ⟨hb, g6, rfl, hr⟩
  have HB22 := Lib.hid (HB21.out.trans (hb.mono HB21.out.size))
  have FG22 := Lib.hid (FG21.out.below hb)
  have X22 := Lib.hid (X21.out.below hb)
  have BX22 := Lib.hid (BX21.out.below hb BX21.out.lt)
  have R22 := Lib.hid (R21.out.below hb)
  clear hb FG21 X21 BX21 R21 HB21
  have Q22 := Lib.hid hr
  clear hr
  clear R22
  go_wp2_with (fail)
  refine (tidy_any (S := N0) (c := cnot (cnot (least 2 0))) (fun _ h => h.elim) Q22.out (by decide)).mono ?_
  rw [fex5]
  rintro e w23 ⟨hb, A9, m9, d9, rfl, hr⟩
  have HB23 := Lib.hid (HB22.out.trans (hb.mono HB22.out.size))
  have FG23 := Lib.hid (FG22.out.below hb)
  have X23 := Lib.hid (X22.out.below hb)
  have BX23 := Lib.hid (BX22.out.below hb BX22.out.lt)
  have Q23 := Lib.hid (Q22.out.below hb)
  clear hb FG22 X22 BX22 Q22 HB22
  have Y23 := Lib.hid hr
  clear hr
  clear Q23
  unfold cV
  dsimp only [vi, cnot, least]
  go_wp2_with (fail)
  first | (refine calls_named ?_; intro w24 hw) | (refine body_named ?_; intro w24 hw) | (refine wpList_named ?_; intro w24 hw) | (refine wp_named ?_; intro w24 hw)
  have hb : Below w23.heap.size w23 w24 := by rw [← hw]; exact (Below.refl _ _).alloc (Nat.le_refl _) _
  have hx : Blk w24 w23.heap.size 24 #[.int .i64 1, .int .i64 2, .int .i64 0, .slice A9 m9 d9] := by rw [← hw]; exact Blk.new _ _ _
  clear hw
  have HB24 := Lib.hid (HB23.out.trans (hb.mono HB23.out.size))
  have FG24 := Lib.hid (FG23.out.below hb)
  have X24 := Lib.hid (X23.out.below hb)
  have BX24 := Lib.hid (BX23.out.below hb BX23.out.lt)
  have Y24 := Lib.hid (Y23.out.below hb)
  clear hb FG23 X23 BX23 Y23 HB23
  have BY24 := Lib.hid hx
  clear hx
  go_wp2_with (fail)
  refine (by_any 1 w24).mono ?_
  rintro e w25 ⟨rfl, hb⟩
  have HB25 := Lib.hid (HB24.out.trans (hb.mono HB24.out.size))
  have FG25 := Lib.hid (FG24.out.below hb)
  have X25 := Lib.hid (X24.out.below hb)
  have BX25 := Lib.hid (BX24.out.below hb BX24.out.lt)
  have Y25 := Lib.hid (Y24.out.below hb)
  have BY25 := Lib.hid (BY24.out.below hb BY24.out.lt)
  clear hb FG24 X24 BX24 Y24 BY24 HB24
  go_wp2_with (fail)
  refine (at_any 1 3 w25).mono ?_
  rintro e w26 ⟨rfl, hb⟩
  have HB26 := Lib.hid (HB25.out.trans (hb.mono HB25.out.size))
  have FG26 := Lib.hid (FG25.out.below hb)
  have X26 := Lib.hid (X25.out.below hb)
  have BX26 := Lib.hid (BX25.out.below hb BX25.out.lt)
  have Y26 := Lib.hid (Y25.out.below hb)
  have BY26 := Lib.hid (BY25.out.below hb BY25.out.lt)
  clear hb FG25 X25 BX25 Y25 BY25 HB25
  go_wp2_with (fail)
  refine (by_any 1 w26).mono ?_
  rintro e w27 ⟨rfl, hb⟩
  have HB27 := Lib.hid (HB26.out.trans (hb.mono HB26.out.size))
  have FG27 := Lib.hid (FG26.out.below hb)
  have X27 := Lib.hid (X26.out.below hb)
  have BX27 := Lib.hid (BX26.out.below hb BX26.out.lt)
  have Y27 := Lib.hid (Y26.out.below hb)
  have BY27 := Lib.hid (BY26.out.below hb BY26.out.lt)
  clear hb FG26 X26 BX26 Y26 BY26 HB26
  go_wp2_with (fail)
  first | (refine calls_named ?_; intro w28 hw) | (refine body_named ?_; intro w28 hw) | (refine wpList_named ?_; intro w28 hw) | (refine wp_named ?_; intro w28 hw)
  have hb : Below w27.heap.size w27 w28 := by rw [← hw]; exact (Below.refl _ _).alloc (Nat.le_refl _) _
  have hx : Blk w28 w27.heap.size 56 #[.int .i64 1, .int .i64 1, .int .i64 0, .int .i64 0, .int .i64 0, .slice none 0 0, .slice none 0 0, .slice none 0 0] := by rw [← hw]; exact Blk.new _ _ _
  clear hw
  have HB28 := Lib.hid (HB27.out.trans (hb.mono HB27.out.size))
  have FG28 := Lib.hid (FG27.out.below hb)
  have X28 := Lib.hid (X27.out.below hb)
  have BX28 := Lib.hid (BX27.out.below hb BX27.out.lt)
  have Y28 := Lib.hid (Y27.out.below hb)
  have BY28 := Lib.hid (BY27.out.below hb BY27.out.lt)
  clear hb FG27 X27 BX27 Y27 BY27 HB27
  have T28 := Lib.hid (step_new (n := 1) hx)
  clear hx
  go_wp2_with (fail)
  refine (by_any 4 w28).mono ?_
  rintro e w29 ⟨rfl, hb⟩
  have HB29 := Lib.hid (HB28.out.trans (hb.mono HB28.out.size))
  have FG29 := Lib.hid (FG28.out.below hb)
  have X29 := Lib.hid (X28.out.below hb)
  have BX29 := Lib.hid (BX28.out.below hb BX28.out.lt)
  have Y29 := Lib.hid (Y28.out.below hb)
  have BY29 := Lib.hid (BY28.out.below hb BY28.out.lt)
  have T29 := Lib.hid (T28.out.below hb)
  clear hb FG28 X28 BX28 Y28 BY28 T28 HB28
  go_wp2_with (fail)
  first | (refine calls_named ?_; intro w30 hw) | (refine body_named ?_; intro w30 hw) | (refine wpList_named ?_; intro w30 hw) | (refine wp_named ?_; intro w30 hw)
  have hb : Below w29.heap.size w29 w30 := by rw [← hw]; exact (Below.refl _ _).alloc (Nat.le_refl _) _
  have hx : Blk w30 w29.heap.size 56 #[.int .i64 1, .int .i64 1, .int .i64 0, .int .i64 0, .int .i64 0, .slice none 0 0, .slice none 0 0, .slice none 0 0, .int .i64 2, .int .i64 0, .int .i64 1, .int .i64 1, .int .i64 3, .slice none 0 0, .slice (some ⟨w27.heap.size, 0, none⟩) 1 1, .slice none 0 0, .int .i64 1, .int .i64 4, .int .i64 0, .int .i64 0, .int .i64 0, .slice none 0 0, .slice none 0 0, .slice none 0 0] := by rw [← hw]; exact Blk.new _ _ _
  clear hw
  have HB30 := Lib.hid (HB29.out.trans (hb.mono HB29.out.size))
  have FG30 := Lib.hid (FG29.out.below hb)
  have X30 := Lib.hid (X29.out.below hb)
  have BX30 := Lib.hid (BX29.out.below hb BX29.out.lt)
  have Y30 := Lib.hid (Y29.out.below hb)
  have BY30 := Lib.hid (BY29.out.below hb BY29.out.lt)
  have T30 := Lib.hid (T29.out.below hb)
  clear hb FG29 X29 BX29 Y29 BY29 T29 HB29
  have F30 := Lib.hid (exF_new hx T30.out)
  clear hx
  clear T30
  go_wp2_with (fail)
  refine (flatO_any (S := N0) (F := exF) (fun _ h => h.elim) F30.out (by decide)).mono ?_
  rw [fex6]
  rintro e w31 ⟨hb, Ag, mg, dg, rfl, hr⟩
  have HB31 := Lib.hid (HB30.out.trans (hb.mono HB30.out.size))
  have FG31 := Lib.hid (FG30.out.below hb)
  have X31 := Lib.hid (X30.out.below hb)
  have BX31 := Lib.hid (BX30.out.below hb BX30.out.lt)
  have Y31 := Lib.hid (Y30.out.below hb)
  have BY31 := Lib.hid (BY30.out.below hb BY30.out.lt)
  have F31 := Lib.hid (F30.out.below hb)
  clear hb FG30 X30 BX30 Y30 BY30 F30 HB30
  have L31 := Lib.hid hr
  clear hr
  clear F31
  go_wp2_with (fail)
  refine (flatO_any (S := N0) (F := .nil) (A := none) (m := 0) (d := 0) (w := w31) (fun _ h => h.elim) RepT.nil (by decide)).mono ?_
  rw [fex7]
  rintro e w32 ⟨hb, Ah, mh, dh, rfl, -⟩
  have HB32 := Lib.hid (HB31.out.trans (hb.mono HB31.out.size))
  have FG32 := Lib.hid (FG31.out.below hb)
  have X32 := Lib.hid (X31.out.below hb)
  have BX32 := Lib.hid (BX31.out.below hb BX31.out.lt)
  have Y32 := Lib.hid (Y31.out.below hb)
  have BY32 := Lib.hid (BY31.out.below hb BY31.out.lt)
  have L32 := Lib.hid (L31.out.below hb)
  clear hb FG31 X31 BX31 Y31 BY31 L31 HB31
  go_wp2_with (fail)
  refine (by_any 1 w32).mono ?_
  rintro e w33 ⟨rfl, hb⟩
  have HB33 := Lib.hid (HB32.out.trans (hb.mono HB32.out.size))
  have FG33 := Lib.hid (FG32.out.below hb)
  have X33 := Lib.hid (X32.out.below hb)
  have BX33 := Lib.hid (BX32.out.below hb BX32.out.lt)
  have Y33 := Lib.hid (Y32.out.below hb)
  have BY33 := Lib.hid (BY32.out.below hb BY32.out.lt)
  have L33 := Lib.hid (L32.out.below hb)
  clear hb FG32 X32 BX32 Y32 BY32 L32 HB32
  go_wp2_with (with_reducible refine at_dstS 73 rfl ?_; refine Hid.out ?_)
  refine Lib.hid ?_
  first | (refine calls_named ?_; intro w34 hw) | (refine body_named ?_; intro w34 hw) | (refine wpList_named ?_; intro w34 hw) | (refine wp_named ?_; intro w34 hw)
  have hb : Below w33.heap.size w33 w34 := by rw [← hw]; exact (Below.refl _ _).alloc (Nat.le_refl _) _
  have hx : Blk w34 w33.heap.size 56 #[.int .i64 1, .int .i64 1, .int .i64 0, .int .i64 0, .int .i64 0, .slice none 0 0, .slice none 0 0, .slice none 0 0] := by rw [← hw]; exact Blk.new _ _ _
  clear hw
  have HB34 := Lib.hid (HB33.out.trans (hb.mono HB33.out.size))
  have FG34 := Lib.hid (FG33.out.below hb)
  have X34 := Lib.hid (X33.out.below hb)
  have BX34 := Lib.hid (BX33.out.below hb BX33.out.lt)
  have Y34 := Lib.hid (Y33.out.below hb)
  have BY34 := Lib.hid (BY33.out.below hb BY33.out.lt)
  have L34 := Lib.hid (L33.out.below hb)
  clear hb FG33 X33 BX33 Y33 BY33 L33 HB33
  have T34 := Lib.hid (step_new (n := 1) hx)
  clear hx
  go_wp2_with (with_reducible refine at_dstS 74 rfl ?_; refine Hid.out ?_)
  refine Lib.hid ?_
  first | (refine calls_named ?_; intro w35 hw) | (refine body_named ?_; intro w35 hw) | (refine wpList_named ?_; intro w35 hw) | (refine wp_named ?_; intro w35 hw)
  have hb : Below w34.heap.size w34 w35 := by rw [← hw]; exact (Below.refl _ _).alloc (Nat.le_refl _) _
  have hx : Blk w35 w34.heap.size 73 #[.string (bs [117, 112]), .int .i64 1, .int .i64 2] := by rw [← hw]; exact Blk.new _ _ _
  clear hw
  have HB35 := Lib.hid (HB34.out.trans (hb.mono HB34.out.size))
  have FG35 := Lib.hid (FG34.out.below hb)
  have X35 := Lib.hid (X34.out.below hb)
  have BX35 := Lib.hid (BX34.out.below hb BX34.out.lt)
  have Y35 := Lib.hid (Y34.out.below hb)
  have BY35 := Lib.hid (BY34.out.below hb BY34.out.lt)
  have L35 := Lib.hid (L34.out.below hb)
  have T35 := Lib.hid (T34.out.below hb)
  clear hb FG34 X34 BX34 Y34 BY34 L34 T34 HB34
  have Z35 := Lib.hid (zone_new hx)
  clear hx
  go_wp2_with (with_reducible refine at_op (Op.load 28 (.tmp 15)) rfl ?_; refine Hid.out ?_)
  refine Lib.hid ?_
  first | (refine calls_named ?_; intro w36 hw) | (refine body_named ?_; intro w36 hw) | (refine wpList_named ?_; intro w36 hw) | (refine wp_named ?_; intro w36 hw)
  have hb : Below w35.heap.size w35 w36 := by rw [← hw]; exact (Below.refl _ _).alloc (Nat.le_refl _) _
  have hx : Blk w36 w35.heap.size 28 #[.string (bs [97]), .int .i64 3, .int .i64 1, .int .i64 0, .slice (some ⟨w33.heap.size, 0, none⟩) 1 1, .slice (some ⟨w34.heap.size, 0, none⟩) 1 1] := by rw [← hw]; exact Blk.new _ _ _
  clear hw
  have HB36 := Lib.hid (HB35.out.trans (hb.mono HB35.out.size))
  have FG36 := Lib.hid (FG35.out.below hb)
  have X36 := Lib.hid (X35.out.below hb)
  have BX36 := Lib.hid (BX35.out.below hb BX35.out.lt)
  have Y36 := Lib.hid (Y35.out.below hb)
  have BY36 := Lib.hid (BY35.out.below hb BY35.out.lt)
  have L36 := Lib.hid (L35.out.below hb)
  have T36 := Lib.hid (T35.out.below hb)
  have Z36 := Lib.hid (Z35.out.below hb)
  clear hb FG35 X35 BX35 Y35 BY35 L35 T35 Z35 HB35
  have BR36 := Lib.hid hx
  clear hx
  have r0 := BR36.out.cell 0
  have r1 := BR36.out.cell 1
  have r2 := BR36.out.cell 2
  have r3 := BR36.out.cell 3
  have r4 := BR36.out.cell 4
  have r5 := BR36.out.cell 5
  have rl := BR36.out.lt
  go_wp2_with (fail)
  refine (frules_any N0 N0 exR (some ⟨w33.heap.size, 0, none⟩) 1 1 (some ⟨w34.heap.size, 0, none⟩) 1 1 w36 T36.out Z36.out (by decide) (by decide) (by decide) FG36.out (Nat.lt_of_lt_of_le hcp HB36.out.size)).mono ?_
  unfold FRP
  rw [fex8]
  rintro e w37 ⟨Ar, nr, cr, rfl, hrd, hb⟩
  have HB37 := Lib.hid (HB36.out.trans (hb.mono HB36.out.size))
  have FG37 := Lib.hid (FG36.out.below hb)
  have X37 := Lib.hid (X36.out.below hb)
  have BX37 := Lib.hid (BX36.out.below hb BX36.out.lt)
  have Y37 := Lib.hid (Y36.out.below hb)
  have BY37 := Lib.hid (BY36.out.below hb BY36.out.lt)
  have L37 := Lib.hid (L36.out.below hb)
  have T37 := Lib.hid (T36.out.below hb)
  have Z37 := Lib.hid (Z36.out.below hb)
  have BR37 := Lib.hid (BR36.out.below hb BR36.out.lt)
  clear hb FG36 X36 BX36 Y36 BY36 L36 T36 Z36 BR36 HB36
  have RB37 := Lib.hid hrd
  clear hrd
  clear r0 r1 r2 r3 r4 r5 rl
  go_wp2_with (fail)
  have ZB := Lib.hid (show Below w37.heap.size w37 w37.drew from ⟨rfl, rfl, rfl, Nat.le_refl _, fun _ _ => rfl⟩)
  have lx := BX37.out.lt
  have ly := BY37.out.lt
  have lr := BR37.out.lt
  have HSx := Lib.hid (show ∀ W, Below w37.heap.size w37 W → (W.cell? ⟨w18.heap.size, 0, none⟩ = some (.int .i64 4) ∧ W.cell? ⟨w18.heap.size, 1, none⟩ = some (.int .i64 0) ∧ W.cell? ⟨w18.heap.size, 2, none⟩ = some (.int .i64 0) ∧ W.cell? ⟨w18.heap.size, 3, none⟩ = some (.slice A7 m7 d7) ∧
      W.cell? ⟨w23.heap.size, 0, none⟩ = some (.int .i64 1) ∧ W.cell? ⟨w23.heap.size, 1, none⟩ = some (.int .i64 2) ∧ W.cell? ⟨w23.heap.size, 2, none⟩ = some (.int .i64 0) ∧ W.cell? ⟨w23.heap.size, 3, none⟩ = some (.slice A9 m9 d9) ∧
      W.cell? ⟨w35.heap.size, 0, none⟩ = some (.string (bs [97])) ∧ W.cell? ⟨w35.heap.size, 1, none⟩ = some (.int .i64 3) ∧ W.cell? ⟨w35.heap.size, 2, none⟩ = some (.int .i64 1) ∧ W.cell? ⟨w35.heap.size, 3, none⟩ = some (.int .i64 0) ∧ W.cell? ⟨w35.heap.size, 4, none⟩ = some (.slice (some ⟨w33.heap.size, 0, none⟩) 1 1) ∧ W.cell? ⟨w35.heap.size, 5, none⟩ = some (.slice (some ⟨w34.heap.size, 0, none⟩) 1 1) ∧
      (convert 35 9 (.slice Ar nr cr)).run Tryz.prog W = .ok (.string (bs (frules exR).1)) W ∧ Hid (Below w37.heap.size w37 W)) from fun W hb => by
    have hx := BX37.out.below hb lx
    have hy := BY37.out.below hb ly
    have hr := BR37.out.below hb lr
    rw [fex8]
    exact ⟨hx.cell 0, hx.cell 1, hx.cell 2, hx.cell 3, hy.cell 0, hy.cell 1, hy.cell 2, hy.cell 3, hr.cell 0, hr.cell 1, hr.cell 2, hr.cell 3, hr.cell 4, hr.cell 5, Rd.conv (P := Tryz.prog) (RB37.out.below hb) Tryz.underlying35 Tryz.underlying5 Tryz.underlying9 cr, Lib.hid hb⟩)
  have C1 := Lib.hid (show ∀ W g, Below w37.heap.size w37 W → RepH N0 W (.one (least 1 3) .nil) (some ⟨g, 0, none⟩) 1 1 → Calls Tryz.prog 24 #[.agg #[.int .i64 4, .int .i64 0, .int .i64 0, .slice A7 m7 d7], .agg #[.int .i64 4, .int .i64 0, .int .i64 0, .slice (some ⟨g, 0, none⟩) 1 1]] W fun e w' => e = .returned (.bool true) ∧ Below W.heap.size W w' from fun W g hb h =>
    (rsc_any N0 N0 (cnot (least 1 3)) (cnot (least 1 3)) A7 m7 d7 (some ⟨g, 0, none⟩) 1 1 W (X37.out.below hb) h).mono fun e w' ⟨h1, h2⟩ => ⟨h1.trans (congrArg (fun b => Ending.returned (.bool b)) (by decide +kernel)), h2⟩)
  have C2 := Lib.hid (show ∀ W, Below w37.heap.size w37 W → Calls Tryz.prog 24 #[.agg #[.int .i64 1, .int .i64 2, .int .i64 0, .slice A9 m9 d9], .agg #[.int .i64 1, .int .i64 2, .int .i64 0, .slice none 0 0]] W fun e w' => e = .returned (.bool true) ∧ Below W.heap.size W w' from fun W hb =>
    (rsc_any N0 N0 (least 2 0) (least 2 0) A9 m9 d9 none 0 0 W (Y37.out.below hb) RepH.nil).mono fun e w' ⟨h1, h2⟩ => ⟨h1.trans (congrArg (fun b => Ending.returned (.bool b)) (by decide +kernel)), h2⟩)
  have C3 := Lib.hid (show ∀ W g, Below w37.heap.size w37 W → RepT N0 W (.one 1 1 .zero .nil .nil (.one 1 4 .zero .nil .nil .nil)) (some ⟨g, 0, none⟩) 2 2 → Calls Tryz.prog 25 #[.slice Ag mg dg, .slice (some ⟨g, 0, none⟩) 2 2] W fun e w' => e = .returned (.bool true) ∧ Below W.heap.size W w' from fun W g hb h =>
    (rsame_all _ N0 N0 (.one 1 1 .zero .nil .nil (.one 1 4 .zero .nil .nil .nil)) (.one 1 1 .zero .nil .nil (.one 1 4 .zero .nil .nil .nil)) Ag mg dg (some ⟨g, 0, none⟩) 2 2 W (Nat.lt_succ_self _) (L37.out.below hb) h).mono fun e w' ⟨h1, h2⟩ => ⟨h1.trans (congrArg (fun b => Ending.returned (.bool b)) (by simp)), h2⟩)
  have C4 := Lib.hid (show ∀ W, Below w37.heap.size w37 W → Calls Tryz.prog 17 #[.agg #[.string (bs [97]), .int .i64 3, .int .i64 1, .int .i64 0, .slice (some ⟨w33.heap.size, 0, none⟩) 1 1, .slice (some ⟨w34.heap.size, 0, none⟩) 1 1], .agg #[.string (bs [97]), .int .i64 3, .int .i64 1, .int .i64 0, .slice (some ⟨w33.heap.size, 0, none⟩) 1 1, .slice (some ⟨w34.heap.size, 0, none⟩) 1 1]] W fun e w' => e = .returned (.bool true) ∧ Below W.heap.size W w' from fun W hb =>
    (fsame_any N0 N0 exR exR (some ⟨w33.heap.size, 0, none⟩) 1 1 (some ⟨w34.heap.size, 0, none⟩) 1 1 (some ⟨w33.heap.size, 0, none⟩) 1 1 (some ⟨w34.heap.size, 0, none⟩) 1 1 W (T37.out.below hb) (Z37.out.below hb) (T37.out.below hb) (Z37.out.below hb)).mono fun e w' ⟨h1, h2⟩ => ⟨h1.trans (congrArg (fun b => Ending.returned (.bool b)) (sameR_iff.2 rfl)), h2⟩)
  have HBK := Lib.hid HB37.out
  clear lx ly lr BX37 BY37 BR37 X37 Y37 L37 T37 Z37 RB37 FG37 HB37
  rw [fex8] at HSx
  generalize w18.heap.size = b7 at *
  generalize w23.heap.size = b9 at *
  generalize w35.heap.size = br at *
  generalize w33.heap.size = b8 at *
  generalize w34.heap.size = bz at *
  generalize w37 = wk at *
  go_region_held3 (fun W => W.cell? ⟨b7, 0, none⟩ = some (.int .i64 4) ∧ W.cell? ⟨b7, 1, none⟩ = some (.int .i64 0) ∧ W.cell? ⟨b7, 2, none⟩ = some (.int .i64 0) ∧ W.cell? ⟨b7, 3, none⟩ = some (.slice A7 m7 d7) ∧
      W.cell? ⟨b9, 0, none⟩ = some (.int .i64 1) ∧ W.cell? ⟨b9, 1, none⟩ = some (.int .i64 2) ∧ W.cell? ⟨b9, 2, none⟩ = some (.int .i64 0) ∧ W.cell? ⟨b9, 3, none⟩ = some (.slice A9 m9 d9) ∧
      W.cell? ⟨br, 0, none⟩ = some (.string (bs [97])) ∧ W.cell? ⟨br, 1, none⟩ = some (.int .i64 3) ∧ W.cell? ⟨br, 2, none⟩ = some (.int .i64 1) ∧ W.cell? ⟨br, 3, none⟩ = some (.int .i64 0) ∧ W.cell? ⟨br, 4, none⟩ = some (.slice (some ⟨b8, 0, none⟩) 1 1) ∧ W.cell? ⟨br, 5, none⟩ = some (.slice (some ⟨bz, 0, none⟩) 1 1) ∧
      (convert 35 9 (.slice Ar nr cr)).run Tryz.prog W = .ok (.string (bs [114, 117, 108, 101, 115, 32, 97, 32, 123, 10, 32, 32, 119, 105, 110, 32, 51, 32, 100, 114, 97, 119, 32, 49, 32, 108, 111, 115, 115, 32, 48, 59, 10, 32, 32, 111, 114, 100, 101, 114, 32, 123, 10, 32, 32, 32, 32, 112, 111, 105, 110, 116, 115, 59, 10, 32, 32, 125, 10, 32, 32, 122, 111, 110, 101, 115, 32, 123, 10, 32, 32, 32, 32, 117, 112, 32, 49, 32, 116, 111, 32, 50, 59, 10, 32, 32, 125, 10, 125, 10])) W ∧ Hid (Below wk.heap.size wk W))
    (first
      | (exact HSx.out _ ZB.out)
      | (exact HSx.out _ (ZB.out.trans (((Below.refl _ _).alloc (Nat.le_refl _) _).mono ZB.out.size))))
    ((first
      | (go_at_call 36
         with_reducible refine (at_any _ _ _).mono ?_
         rintro e' wn ⟨rfl, hbn⟩
         have ZB := Lib.hid (ZB.out.trans (hbn.mono ZB.out.size))
         clear hbn)
      | (go_at_call 39
         with_reducible refine (by_any _ _).mono ?_
         rintro e' wn ⟨rfl, hbn⟩
         have ZB := Lib.hid (ZB.out.trans (hbn.mono ZB.out.size))
         clear hbn)
      | (go_at_call 37
         refine (lnot_any (least 1 3) none 0 0 _ RepH.nil).mono ?_
         rintro e' wn ⟨hbn, gn, rfl, hrn⟩
         have ZB := Lib.hid (ZB.out.trans (hbn.mono ZB.out.size))
         have HRN := Lib.hid hrn
         clear hbn hrn)
      | (go_at_call 24
         first
           | (with_reducible refine (C1.out _ _ ZB.out HRN.out).mono ?_)
           | (with_reducible refine (C2.out _ ZB.out).mono ?_)
         rintro e' wn ⟨rfl, hbn⟩
         have ZB := Lib.hid (ZB.out.trans (hbn.mono ZB.out.size))
         clear hbn)
      | (go_at_call 25
         have hba : Below wn.heap.size wn (wn.alloc (.cells #[.int .i64 1, .int .i64 1, .int .i64 0, .int .i64 0, .int .i64 0, .slice none 0 0, .slice none 0 0, .slice none 0 0, .int .i64 1, .int .i64 4, .int .i64 0, .int .i64 0, .int .i64 0, .slice none 0 0, .slice none 0 0, .slice none 0 0] 56)) := (Below.refl _ _).alloc (Nat.le_refl _) _
         have hbw := ZB.out.trans (hba.mono ZB.out.size)
         with_reducible refine (C3.out _ _ hbw (twoS_new (Blk.new _ _ _))).mono ?_
         rintro e' wn2 ⟨rfl, hbn⟩
         have ZB := Lib.hid (hbw.trans (hbn.mono hbw.size))
         clear hbn hba hbw)
      | (go_at_call 17
         with_reducible refine (C4.out _ ZB.out).mono ?_
         rintro e' wn ⟨rfl, hbn⟩
         have ZB := Lib.hid (ZB.out.trans (hbn.mono ZB.out.size))
         clear hbn)))
  all_goals
    go_wp2_with (fail)
    go_ret
    exact ⟨rfl, HBK.out.trans (ZB.out.mono HBK.out.size)⟩
end Go.Proofs.YticpjdjdimpglaaGreatDoor
