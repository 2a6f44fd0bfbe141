/- FormatTextSpec: the walk of the law. -/
import Derived.Test.YticpjdjdimpglaaGreatDoorCTxsMSan
import Derived.Test.YticpjdjdimpglaaGreatDoorCTxsMPRul
import Derived.Test.YticpjdjdimpglaaGreatDoorCTxsMFew
import Derived.Test.YticpjdjdimpglaaGreatDoorCTxsMWText3
namespace Go.Proofs.YticpjdjdimpglaaGreatDoor
set_option linter.unusedVariables false
set_option linter.unusedSimpArgs false
open Go.RowKit
theorem FewR.sizes {r : RT} (h : FewR r) : r.order.sz ≤ 120 ∧ r.name.length ≤ 1000000 ∧ ∀ z ∈ r.zones, z.name.length ≤ 1000000 :=
  ⟨h.2.2.1.1, by have := h.1; omega, fun z hz => by have := h.2.2.2 z hz; omega⟩
theorem sameR_refl (r : RT) : sameR r r = true := sameR_iff.2 rfl
set_option maxHeartbeats 8000000 in
set_option maxRecDepth 100000 in
theorem txs_walk (x : CT) (A : Option Addr) (m d : Nat) (r : RT) (A1 : Option Addr) (m1 c1 : Nat) (A2 : Option Addr) (m2 c2 : Nat) (q : RT) (B1 : Option Addr) (n1 e1 : Nat) (B2 : Option Addr) (n2 e2 : Nat) (w : World)
    (h : RepH N0 w x.ps A m d) (h1 : RepT N0 w r.order A1 m1 c1) (h2 : RepZ N0 w r.zones A2 m2 c2) (h3 : RepT N0 w q.order B1 n1 e1) (h4 : RepZ N0 w q.zones B2 n2 e2) (hG : FG w) (hcp : 0 < w.heap.size) :
    Calls Tryz.prog 3 #[.agg #[.int .i64 x.k, .int .i64 x.v, .int .i64 x.n, .slice A m d], .agg #[.string (bs r.name), .int .i64 r.win, .int .i64 r.draw, .int .i64 r.loss, .slice A1 m1 c1, .slice A2 m2 c2], .agg #[.string (bs q.name), .int .i64 q.win, .int .i64 q.draw, .int .i64 q.loss, .slice B1 n1 e1, .slice B2 n2 e2]] w fun e w' => e = .returned (.bool true) ∧ Below w.heap.size w w' := by
  have HR := Lib.hid h
  have HR1 := Lib.hid h1
  have HR2 := Lib.hid h2
  have HQ1 := Lib.hid h3
  have HQ2 := Lib.hid h4
  have HG := Lib.hid hG
  clear h h1 h2 h3 h4 hG
  go_enter Tryz.func3, Tryz.ntmps3
  go_wp2_with (fail)
  first | (refine calls_named ?_; intro W hW) | (refine body_named ?_; intro W hW) | (refine wpList_named ?_; intro W hW) | (refine wp_named ?_; intro W hW)
  have hb : Below w.heap.size w W := by rw [← hW]; exact (((Below.refl _ _).alloc (Nat.le_refl _) _).alloc (by simp) _).alloc (by simp; omega) _
  have hx : Blk W w.heap.size 24 #[.int .i64 x.k, .int .i64 x.v, .int .i64 x.n, .slice A m d] := by rw [← hW]; exact ((Blk.new w _ _).alloc _).alloc _
  have hy : Blk W (w.heap.size + 1) 28 #[.string (bs r.name), .int .i64 r.win, .int .i64 r.draw, .int .i64 r.loss, .slice A1 m1 c1, .slice A2 m2 c2] := by
    rw [← hW, ← World.size_alloc w]
    exact (Blk.new _ _ _).alloc _
  have hz : Blk W (w.heap.size + 1 + 1) 28 #[.string (bs q.name), .int .i64 q.win, .int .i64 q.draw, .int .i64 q.loss, .slice B1 n1 e1, .slice B2 n2 e2] := by
    rw [← hW]
    exact Blk.at_end (by simp [World.size_alloc])
  clear hW
  have HB := Lib.hid hb
  have HX := Lib.hid hx
  have HY := Lib.hid hy
  have HZ := Lib.hid hz
  clear hb hx hy hz
  refine (sane15_any W (HG.out.below HB.out) (Nat.lt_of_lt_of_le hcp HB.out.size)).mono ?_
  rintro e w1 ⟨rfl, hb⟩
  have HB1 := Lib.hid (HB.out.trans (hb.mono HB.out.size))
  have HX1 := Lib.hid (HX.out.below hb HX.out.lt)
  have HY1 := Lib.hid (HY.out.below hb HY.out.lt)
  have HZ1 := Lib.hid (HZ.out.below hb HZ.out.lt)
  clear hb HX HY HZ HB
  have x0 := HX1.out.cell 0
  have x1 := HX1.out.cell 1
  have x2 := HX1.out.cell 2
  have x3 := HX1.out.cell 3
  have xl := HX1.out.lt
  go_wp2_with (fail)
  refine (few_any N0 x A m d w1 (HR.out.below HB1.out)).mono ?_
  rintro e w2 ⟨hb, b, rfl, hf⟩
  have HB2 := Lib.hid (HB1.out.trans (hb.mono HB1.out.size))
  have HX2 := Lib.hid (HX1.out.below hb HX1.out.lt)
  have HY2 := Lib.hid (HY1.out.below hb HY1.out.lt)
  have HZ2 := Lib.hid (HZ1.out.below hb HZ1.out.lt)
  clear hb HX1 HY1 HZ1 HB1 x0 x1 x2 x3 xl
  cases b with
  | false =>
    go_wp2_with (fail)
    go_ret
    exact ⟨rfl, HB2.out⟩
  | true =>
    have HF := Lib.hid (hf rfl)
    clear hf
    have y0 := HY2.out.cell 0
    have y1 := HY2.out.cell 1
    have y2 := HY2.out.cell 2
    have y3 := HY2.out.cell 3
    have y4 := HY2.out.cell 4
    have y5 := HY2.out.cell 5
    have yl := HY2.out.lt
    go_wp2_with (fail)
    refine (fewrules_any N0 N0 r A1 m1 c1 A2 m2 c2 w2 (HR1.out.below HB2.out) (HR2.out.below HB2.out)).mono ?_
    rintro e w3 ⟨hb, b, rfl, hf⟩
    have HB3 := Lib.hid (HB2.out.trans (hb.mono HB2.out.size))
    have HX3 := Lib.hid (HX2.out.below hb HX2.out.lt)
    have HY3 := Lib.hid (HY2.out.below hb HY2.out.lt)
    have HZ3 := Lib.hid (HZ2.out.below hb HZ2.out.lt)
    clear hb HX2 HY2 HZ2 HB2 y0 y1 y2 y3 y4 y5 yl
    cases b with
    | false =>
      go_wp2_with (fail)
      go_ret
      exact ⟨rfl, HB3.out⟩
    | true =>
      have HFR := Lib.hid (hf rfl).sizes
      clear hf
      have z0 := HZ3.out.cell 0
      have z1 := HZ3.out.cell 1
      have z2 := HZ3.out.cell 2
      have z3 := HZ3.out.cell 3
      have z4 := HZ3.out.cell 4
      have z5 := HZ3.out.cell 5
      have zl := HZ3.out.lt
      go_wp2_with (fail)
      refine (fewrules_any N0 N0 q B1 n1 e1 B2 n2 e2 w3 (HQ1.out.below HB3.out) (HQ2.out.below HB3.out)).mono ?_
      rintro e w4 ⟨hb, b, rfl, hf⟩
      have HB4 := Lib.hid (HB3.out.trans (hb.mono HB3.out.size))
      have HX4 := Lib.hid (HX3.out.below hb HX3.out.lt)
      have HY4 := Lib.hid (HY3.out.below hb HY3.out.lt)
      have HZ4 := Lib.hid (HZ3.out.below hb HZ3.out.lt)
      clear hb HX3 HY3 HZ3 HB3 z0 z1 z2 z3 z4 z5 zl
      cases b with
      | false =>
        go_wp2_with (fail)
        go_ret
        exact ⟨rfl, HB4.out⟩
      | true =>
        clear hf
        have x0 := HX4.out.cell 0
        have x1 := HX4.out.cell 1
        have x2 := HX4.out.cell 2
        have x3 := HX4.out.cell 3
        have xl := HX4.out.lt
        go_wp2_with (fail)
        have HPC := Lib.hid (fun (W : World) (hW : Below w.heap.size w W) => pcond_any N0 x A m d W (HR.out.below hW) (by have := HF.out.1; omega))
        refine (fcond_any N0 x A m d w4 (HR.out.below HB4.out) (by have := HF.out.1; omega) (HG.out.below HB4.out)).mono ?_
        obtain ⟨⟨s, z⟩, hyz⟩ : ∃ q, q = fcond x := ⟨_, rfl⟩
        rw [← hyz] at HPC ⊢
        clear hyz
        rintro e w5 ⟨rfl, hb⟩
        have HB5 := Lib.hid (HB4.out.trans (hb.mono HB4.out.size))
        have HX5 := Lib.hid (HX4.out.below hb HX4.out.lt)
        have HY5 := Lib.hid (HY4.out.below hb HY4.out.lt)
        have HZ5 := Lib.hid (HZ4.out.below hb HZ4.out.lt)
        clear hb HX4 HY4 HZ4 HB4 x0 x1 x2 x3 xl
        have x0 := HX5.out.cell 0
        have x1 := HX5.out.cell 1
        have x2 := HX5.out.cell 2
        have x3 := HX5.out.cell 3
        have xl := HX5.out.lt
        go_wp2_with (fail)
        refine (HPC.out w5 HB5.out).mono ?_
        rintro e w6 ⟨rfl, hb⟩
        have HB6 := Lib.hid (HB5.out.trans (hb.mono HB5.out.size))
        have HY6 := Lib.hid (HY5.out.below hb HY5.out.lt)
        have HZ6 := Lib.hid (HZ5.out.below hb HZ5.out.lt)
        clear hb HX5 HY5 HZ5 HB5 x0 x1 x2 x3 xl HPC
        have y0 := HY6.out.cell 0
        have y1 := HY6.out.cell 1
        have y2 := HY6.out.cell 2
        have y3 := HY6.out.cell 3
        have y4 := HY6.out.cell 4
        have y5 := HY6.out.cell 5
        have yl := HY6.out.lt
        go_wp2_with (fail)
        have HPR := Lib.hid (fun (W : World) (hW : Below w.heap.size w W) => prules_any N0 N0 r A1 m1 c1 A2 m2 c2 W (HR1.out.below hW) (HR2.out.below hW) HFR.out.1 HFR.out.2.1 HFR.out.2.2)
        refine (frules_any N0 N0 r A1 m1 c1 A2 m2 c2 w6 (HR1.out.below HB6.out) (HR2.out.below HB6.out) (by have := HFR.out.1; omega) HFR.out.2.1 HFR.out.2.2 (HG.out.below HB6.out) (Nat.lt_of_lt_of_le hcp HB6.out.size)).mono ?_
        unfold FRP at HPR ⊢
        obtain ⟨⟨t, u⟩, hyz⟩ : ∃ q, q = frules r := ⟨_, rfl⟩
        rw [← hyz] at HPR ⊢
        clear hyz
        rintro e w7 ⟨A3, n3, c3, rfl, hrd, hb⟩
        have HB7 := Lib.hid (HB6.out.trans (hb.mono HB6.out.size))
        have HY7 := Lib.hid (HY6.out.below hb HY6.out.lt)
        have HZ7 := Lib.hid (HZ6.out.below hb HZ6.out.lt)
        have HRD7 := Lib.hid hrd
        clear hb hrd HY6 HZ6 HB6 y0 y1 y2 y3 y4 y5 yl
        have y0 := HY7.out.cell 0
        have y1 := HY7.out.cell 1
        have y2 := HY7.out.cell 2
        have y3 := HY7.out.cell 3
        have y4 := HY7.out.cell 4
        have y5 := HY7.out.cell 5
        have yl := HY7.out.lt
        go_wp2_with (fail)
        refine (HPR.out w7 HB7.out).mono ?_
        rintro e w8 ⟨A4, n4, c4, rfl, hrd, hb⟩
        have HB8 := Lib.hid (HB7.out.trans (hb.mono HB7.out.size))
        have HY8 := Lib.hid (HY7.out.below hb HY7.out.lt)
        have HZ8 := Lib.hid (HZ7.out.below hb HZ7.out.lt)
        have HRDA := Lib.hid (HRD7.out.below hb)
        have HSZ7 := Lib.hid hb.size
        have HRDB := Lib.hid hrd
        clear hb hrd HY7 HZ7 HB7 HPR HRD7 y0 y1 y2 y3 y4 y5 yl
        have hk1 := fun p : BelowBy w8 => (HRDA.out.below (p.h.mono HSZ7.out)).conv (P := Tryz.prog) (src := 35) (dst := 9) (e := 5) Tryz.underlying35 Tryz.underlying5 Tryz.underlying9 c3
        have hk2 := fun p : BelowBy w8 => (HRDB.out.below p.h).conv (P := Tryz.prog) (src := 35) (dst := 9) (e := 5) Tryz.underlying35 Tryz.underlying5 Tryz.underlying9 c4
        have HS1 := Lib.hid (fun (W : World) (hW : Below w.heap.size w W) => fsame_any N0 N0 r q A1 m1 c1 A2 m2 c2 B1 n1 e1 B2 n2 e2 W (HR1.out.below hW) (HR2.out.below hW) (HQ1.out.below hW) (HQ2.out.below hW))
        have HS2 := Lib.hid (fun (W : World) (hW : Below w.heap.size w W) => rsameR_any N0 N0 r q A1 m1 c1 A2 m2 c2 B1 n1 e1 B2 n2 e2 W (HR1.out.below hW) (HR2.out.below hW) (HQ1.out.below hW) (HQ2.out.below hW))
        have HS3 := Lib.hid (fun (W : World) (hW : Below w.heap.size w W) => fsame_any N0 N0 r r A1 m1 c1 A2 m2 c2 A1 m1 c1 A2 m2 c2 W (HR1.out.below hW) (HR2.out.below hW) (HR1.out.below hW) (HR2.out.below hW))
        rw [sameR_refl] at HS3
        generalize sameR r q = sb at HS1 HS2
        unfold rV at HS1 HS2 HS3
        have hs1 := calls_by (w := w8) (fun W hW => HS1.out W (HB8.out.trans (hW.mono HB8.out.size)))
        have hs2 := calls_by (w := w8) (fun W hW => HS2.out W (HB8.out.trans (hW.mono HB8.out.size)))
        have hs3 := calls_by (w := w8) (fun W hW => HS3.out W (HB8.out.trans (hW.mono HB8.out.size)))
        have Y0 := cell_by HY8.out.lt (show w8.cell? ⟨w.heap.size + 1, 0, none⟩ = some (.string (bs r.name)) from HY8.out.cell 0)
        have Y1 := cell_by HY8.out.lt (show w8.cell? ⟨w.heap.size + 1, 1, none⟩ = some (.int .i64 r.win) from HY8.out.cell 1)
        have Y2 := cell_by HY8.out.lt (show w8.cell? ⟨w.heap.size + 1, 2, none⟩ = some (.int .i64 r.draw) from HY8.out.cell 2)
        have Y3 := cell_by HY8.out.lt (show w8.cell? ⟨w.heap.size + 1, 3, none⟩ = some (.int .i64 r.loss) from HY8.out.cell 3)
        have Y4 := cell_by HY8.out.lt (show w8.cell? ⟨w.heap.size + 1, 4, none⟩ = some (.slice A1 m1 c1) from HY8.out.cell 4)
        have Y5 := cell_by HY8.out.lt (show w8.cell? ⟨w.heap.size + 1, 5, none⟩ = some (.slice A2 m2 c2) from HY8.out.cell 5)
        have Z0 := cell_by HZ8.out.lt (show w8.cell? ⟨w.heap.size + 1 + 1, 0, none⟩ = some (.string (bs q.name)) from HZ8.out.cell 0)
        have Z1 := cell_by HZ8.out.lt (show w8.cell? ⟨w.heap.size + 1 + 1, 1, none⟩ = some (.int .i64 q.win) from HZ8.out.cell 1)
        have Z2 := cell_by HZ8.out.lt (show w8.cell? ⟨w.heap.size + 1 + 1, 2, none⟩ = some (.int .i64 q.draw) from HZ8.out.cell 2)
        have Z3 := cell_by HZ8.out.lt (show w8.cell? ⟨w.heap.size + 1 + 1, 3, none⟩ = some (.int .i64 q.loss) from HZ8.out.cell 3)
        have Z4 := cell_by HZ8.out.lt (show w8.cell? ⟨w.heap.size + 1 + 1, 4, none⟩ = some (.slice B1 n1 e1) from HZ8.out.cell 4)
        have Z5 := cell_by HZ8.out.lt (show w8.cell? ⟨w.heap.size + 1 + 1, 5, none⟩ = some (.slice B2 n2 e2) from HZ8.out.cell 5)
        go_wp2_with (fail)
        refine wp_region_below mixF (by kernel_rfl) ?_
        repeat (go_big_quiet_step (first | (go_at_call 17; with_reducible exact hs1 _) | (go_at_call 17; with_reducible exact hs3 _) | (go_at_call 18; with_reducible exact hs2 _) | (rw [hk1]; exact ⟨rfl, rfl⟩) | (rw [hk2]; exact ⟨rfl, rfl⟩)))
        refine wpQuiet_nil ?_
        intro _ hw'
        obtain ⟨⟨wq, hbq⟩, hw2⟩ := hw'
        subst hw2
        have HB9 := Lib.hid (HB8.out.trans (hbq.mono HB8.out.size))
        clear hk1 hk2 hs1 hs2 hs3 hbq Y0 Y1 Y2 Y3 Y4 Y5 Z0 Z1 Z2 Z3 Z4 Z5
        go_wp2_with (fail)
        go_ret
        exact ⟨rfl, HB9.out⟩
end Go.Proofs.YticpjdjdimpglaaGreatDoor
