/- The reference's lines by its contract. -/
import Derived.Test.YticpjdjdimpglaaGreatDoorCTxsMPTxt
import Derived.Test.YticpjdjdimpglaaGreatDoorCTxsMPrt3
import Derived.Test.YticpjdjdimpglaaGreatDoorCTxsMCnS
namespace Go.Proofs.YticpjdjdimpglaaGreatDoor
set_option linter.unusedVariables false
set_option linter.unusedSimpArgs false
open Go.RowKit
/-- The contract of lines for orders of a size. -/
def PLN (N : Nat) : Prop := ∀ (S : Nat → Prop) (ind : List UInt8) (l : SF) (A : Option Addr) (m d : Nat) (w : World), l.sz < N → l.okB = true → l.cdep ≤ 17 → l.sz ≤ 2000 → RepT S w l A m d →
  ind.length + (flines ind l).length ≤ 900000 → Calls Tryz.prog 59 #[.slice A m d, .string (bs ind)] w fun e w' => e = .returned (.string (bs (flines ind l))) ∧ Below w.heap.size w w'
set_option maxHeartbeats 8000000 in
set_option maxRecDepth 100000 in
theorem pln_of (N : Nat) (ih : PLN N) : PLN (N + 1) := by
  intro S ind l A m d w hN hok hcd hsz hr hlen
  have HI := Lib.hid ih
  have HOK := Lib.hid hok
  have HD := Lib.hid (show l.cdep ≤ 17 ∧ l.sz ≤ 2000 ∧ l.sz < N + 1 from ⟨hcd, hsz, hN⟩)
  have HR := Lib.hid hr
  have HLEN := Lib.hid hlen
  have HL := Lib.hid (hr.len.trans (stoL_len l).symm)
  have HF := Lib.hid (flines_L ind l)
  have hcap := hr.choose_spec.1.cap
  have hbig := hr.choose_spec.1.big
  have hind : ind.length ≤ 900000 := by omega
  clear ih hN hok hcd hsz hr hlen
  go_enter Tryz.func59, Tryz.ntmps59
  go_wp2_with (fail)
  go_loopw [5, 6] (fun s q wr => ∃ i : Nat, i ≤ m ∧ q = .int .i64 i ∧ s = .string (bs ((l.toL.take i).flatMap (fstep ind))) ∧ Hid (Below w.heap.size w wr)) (fun _ q _ => m - (intOf q).toNat)
  case atStart => exact ⟨0, Nat.zero_le _, rfl, rfl, Below.refl _ _⟩
  case round =>
    obtain ⟨i, him, rfl, rfl, HB⟩ := hrel
    have HTI := Lib.hid (show ((l.toL.take i).flatMap (fstep ind)).length ≤ 900000 by
      have h1 := HLEN.out
      have h2 := flatMap_le (fstep ind) l.toL i
      rw [HF.out] at h1
      omega)
    by_cases hlt : i < m
    · obtain ⟨b, off, x, Bc, nc, ec, B1, n1, e1, B2, n2, e2, rfl, hb, hSb, hx, ⟨g0, g1, g2, g3, g4, g5, g6, g7⟩, k1, k2, k3⟩ := HR.out.elem hlt
      rw [← HB.out.cell (p := ⟨b, _, none⟩) hb] at g0 g1 g2 g3 g4 g5 g6 g7
      have hbl : b < wr.heap.size := Nat.lt_of_lt_of_le hb HB.out.size
      have HOx := Lib.hid (okS_x (okS_mem HOK.out hx))
      have HC1 := Lib.hid k1
      have HC2 := Lib.hid k2
      have HC3 := Lib.hid k3
      have HZ := Lib.hid (ssz_mem hx)
      have HDx := Lib.hid (sdep_mem (mem_at hx))
      have HT := Lib.hid (flatMap_take (fstep ind) hx)
      have HTL := Lib.hid (flatMap_le (fstep ind) l.toL (i + 1))
      have hi2 : (i : Int) < (m : Int) := by omega
      clear hx k1 k2 k3 hSb
      obtain ⟨T, HTT⟩ : ∃ T, Hid (T = (l.toL.take i).flatMap (fstep ind)) := ⟨_, Lib.hid rfl⟩
      rw [← HTT.out] at HT HTI ⊢
      have HLX := Lib.hid (show T.length + (fstep ind x).length ≤ 900000 by
        have h1 := HLEN.out
        have h2 := HTL.out
        have h3 := congrArg List.length HT.out
        rw [HF.out] at h1
        rw [List.length_append] at h3
        omega)
      have hT := HTI.out
      rcases HOx.out with hk | hk
      · have HBX := Lib.hid (show fstep ind x = ind ++ critW x.b ++ [59, 10] from if_pos hk.1)
        have hk1 : (x.k == 1) = true := by rw [hk.1]; rfl
        have HCR := Lib.hid (fun W => pcrit_any (b := x.b) ⟨hk.2.1, hk.2.2.1⟩ W)
        clear hk
        generalize critW x.b = cw at HBX HCR
        have hl1 := HLX.out
        rw [HBX.out] at hl1
        simp only [List.length_append, List.length_cons, List.length_nil] at hl1
        have hs1 : ¬ (9223372036854775807 < T.length + ind.length) := by omega
        have hs2 : ¬ (9223372036854775807 < T.length + ind.length + cw.length) := by omega
        have hs3 : ¬ (9223372036854775807 < T.length + ind.length + cw.length + 2) := by omega
        clear hl1
        go_wp2_with (fail)
        first | (refine calls_named ?_; intro W3 hW) | (refine body_named ?_; intro W3 hW) | (refine wpList_named ?_; intro W3 hW) | (refine wp_named ?_; intro W3 hW)
        have hb3 : Below wr.heap.size wr W3 := by rw [← hW]; exact (Below.refl _ _).alloc (Nat.le_refl _) _
        clear hW g0 g1 g2 g3 g4 g5 g6 g7
        have HB3 := Lib.hid (HB.out.trans (hb3.mono HB.out.size))
        clear hb3
        refine (HCR.out W3).mono ?_
        rintro e w4 ⟨rfl, rfl⟩
        go_wp2_with (fail)
        go_roundw
        case rel => exact ⟨i + 1, hlt, by go_num, congrArg Value.string (by rw [HT.out, HBX.out, show ({ data := #[59, 10] } : ByteArray) = bs [59, 10] from rfl, bs_add, bs_add, bs_add]; simp [List.append_assoc]), HB3.out⟩
        case measure => simp [intOf]; omega
      · have hk1 : (x.k == 1) = false := by rw [hk.1]; rfl
        have HBX := Lib.hid (show fstep ind x = ind ++ [105, 102, 32] ++ ftext 100 x.c ++ [32, 123, 10] ++ flines (ind ++ [32, 32]) x.th ++ ind ++ [125] ++ (if 0 < x.el.num then [32, 101, 108, 115, 101, 32, 123, 10] ++ flines (ind ++ [32, 32]) x.el ++ ind ++ [125] else []) ++ [10] from if_neg (by have := hk.1; omega))
        have HKX := Lib.hid hk
        have HN2 := Lib.hid (show x.el.num = n2 by rw [snum_len]; exact HC3.out.len.symm)
        rw [HN2.out] at HBX
        have hcap2 := HC3.out.choose_spec.1.cap
        have hbig2 := HC3.out.choose_spec.1.big
        have HLY := Lib.hid (show T.length + (ind ++ [105, 102, 32] ++ ftext 100 x.c ++ [32, 123, 10] ++ flines (ind ++ [32, 32]) x.th ++ ind ++ [125] ++ (if 0 < n2 then [32, 101, 108, 115, 101, 32, 123, 10] ++ flines (ind ++ [32, 32]) x.el ++ ind ++ [125] else []) ++ [10]).length ≤ 900000 by have h := HLX.out; rw [HBX.out] at h; exact h)
        clear hk HLX
        go_wp2_with (fail)
        have hb3 : Below wr.heap.size wr (wr.alloc (.cells #[.int .i64 x.k, .int .i64 x.b, .int .i64 x.c.k, .int .i64 x.c.v, .int .i64 x.c.n, .slice Bc nc ec, .slice B1 n1 e1, .slice B2 n2 e2] 56)) := (Below.refl _ _).alloc (Nat.le_refl _) _
        have hx3 : Blk (wr.alloc (.cells #[.int .i64 x.k, .int .i64 x.b, .int .i64 x.c.k, .int .i64 x.c.v, .int .i64 x.c.n, .slice Bc nc ec, .slice B1 n1 e1, .slice B2 n2 e2] 56)) wr.heap.size 56 #[.int .i64 x.k, .int .i64 x.b, .int .i64 x.c.k, .int .i64 x.c.v, .int .i64 x.c.n, .slice Bc nc ec, .slice B1 n1 e1, .slice B2 n2 e2] := Blk.new _ _ _
        generalize wr.alloc (.cells #[.int .i64 x.k, .int .i64 x.b, .int .i64 x.c.k, .int .i64 x.c.v, .int .i64 x.c.n, .slice Bc nc ec, .slice B1 n1 e1, .slice B2 n2 e2] 56) = W3 at hb3 hx3 ⊢
        have HB3 := Lib.hid (HB.out.trans (hb3.mono HB.out.size))
        have HX3 := Lib.hid hx3
        have xl := hx3.lt
        have X2 := cell_by xl (show W3.cell? ⟨wr.heap.size, 2, none⟩ = some (.int .i64 x.c.k) from hx3.cell 2)
        have X3 := cell_by xl (show W3.cell? ⟨wr.heap.size, 3, none⟩ = some (.int .i64 x.c.v) from hx3.cell 3)
        have X4 := cell_by xl (show W3.cell? ⟨wr.heap.size, 4, none⟩ = some (.int .i64 x.c.n) from hx3.cell 4)
        have X5 := cell_by xl (show W3.cell? ⟨wr.heap.size, 5, none⟩ = some (.slice Bc nc ec) from hx3.cell 5)
        have X6 := cell_by xl (show W3.cell? ⟨wr.heap.size, 6, none⟩ = some (.slice B1 n1 e1) from hx3.cell 6)
        clear hb3 hx3 g0 g1 g2 g3 g4 g5 g6 g7
        have HCT := Lib.hid (fun W (hW : Below W3.heap.size W3 W) => (ptx_all 100).1 S x.c Bc nc ec W HKX.out.2.2.1 (by have h1 := HDx.out.2.2.1; have h2 := HD.out; unfold dpt; omega) (by have h1 := HZ.out; have h2 := HD.out; omega) (HC1.out.below (HB3.out.trans (hW.mono HB3.out.size))))
        have HCL := Lib.hid (fun W (hW : Below W3.heap.size W3 W) => HI.out S (ind ++ [32, 32]) x.th B1 n1 e1 W (by have h1 := HZ.out; have h2 := HD.out; omega) HKX.out.2.2.2.2.1 (by have h1 := HDx.out; have h2 := HD.out; omega) (by have h1 := HZ.out; have h2 := HD.out; omega) (HC2.out.below (HB3.out.trans (hW.mono HB3.out.size))) (by have h1 := HLY.out; simp only [List.length_append, List.length_cons, List.length_nil] at h1 ⊢; omega))
        have HCE := Lib.hid (fun (h0 : 0 < n2) W (hW : Below W3.heap.size W3 W) => HI.out S (ind ++ [32, 32]) x.el B2 n2 e2 W (by have h1 := HZ.out; have h2 := HD.out; omega) HKX.out.2.2.2.2.2 (by have h1 := HDx.out; have h2 := HD.out; omega) (by have h1 := HZ.out; have h2 := HD.out; omega) (HC3.out.below (HB3.out.trans (hW.mono HB3.out.size))) (by have h1 := HLY.out; rw [if_pos h0] at h1; simp only [List.length_append, List.length_cons, List.length_nil] at h1 ⊢; omega))
        unfold cV at HCT
        dsimp only [vi] at HCT
        rw [← show bs ind ++ ({ data := #[32, 32] } : ByteArray) = bs (ind ++ [32, 32]) from bs_add ind [32, 32]] at HCL HCE
        generalize ftext 100 x.c = s1 at *
        generalize flines (ind ++ [32, 32]) x.th = s2 at *
        generalize flines (ind ++ [32, 32]) x.el = s3 at *
        have hct := calls_by HCT.out
        have hcl := calls_by HCL.out
        have hl1 := HLY.out
        simp only [List.length_append, List.length_cons, List.length_nil] at hl1
        have hs1 : ¬ (9223372036854775807 < T.length + ind.length) := by omega
        have hs2 : ¬ (9223372036854775807 < T.length + ind.length + 3) := by omega
        have hs3 : ¬ (9223372036854775807 < T.length + ind.length + 3 + s1.length) := by omega
        have hs4 : ¬ (9223372036854775807 < T.length + ind.length + 3 + s1.length + 3) := by omega
        have hs5 : ¬ (9223372036854775807 < T.length + ind.length + 3 + s1.length + 3 + s2.length) := by omega
        have hs6 : ¬ (9223372036854775807 < T.length + ind.length + 3 + s1.length + 3 + s2.length + ind.length) := by omega
        have hs7 : ¬ (9223372036854775807 < T.length + ind.length + 3 + s1.length + 3 + s2.length + ind.length + 1) := by omega
        have hs8 : ¬ (9223372036854775807 < ind.length + 2) := by omega
        clear hl1
        refine wp_region_below mixF (by kernel_rfl) ?_
        repeat (go_big_quiet_step (first | (go_at_call 43; with_reducible exact hct _) | (go_at_call 59; with_reducible exact hcl _)))
        refine wpQuiet_nil ?_
        intro _ hw'
        obtain ⟨⟨wq, hbq⟩, hw2⟩ := hw'
        subst hw2
        have HB4 := Lib.hid (HB3.out.trans (hbq.mono HB3.out.size))
        have HB34 := Lib.hid hbq
        have HX4 := Lib.hid (HX3.out.below hbq HX3.out.lt)
        clear X2 X3 X4 X5 X6 hct hcl hbq HCT HCL xl hs1 hs2 hs3 hs4 hs5 hs6 hs7 HX3
        have HR7 := Lib.hid (show bs T ++ bs ind ++ ({ data := #[105, 102, 32] } : ByteArray) ++ bs s1 ++ ({ data := #[32, 123, 10] } : ByteArray) ++ bs s2 ++ bs ind ++ ({ data := #[125] } : ByteArray) = bs (T ++ (ind ++ [105, 102, 32] ++ s1 ++ [32, 123, 10] ++ s2 ++ ind ++ [125])) by
          rw [show ({ data := #[105, 102, 32] } : ByteArray) = bs [105, 102, 32] from rfl, show ({ data := #[32, 123, 10] } : ByteArray) = bs [32, 123, 10] from rfl, show ({ data := #[125] } : ByteArray) = bs [125] from rfl]
          simp only [bs_add, List.append_assoc])
        rw [HR7.out]
        obtain ⟨U, HU⟩ : ∃ U, Hid (U = T ++ (ind ++ [105, 102, 32] ++ s1 ++ [32, 123, 10] ++ s2 ++ ind ++ [125])) := ⟨_, Lib.hid rfl⟩
        rw [← HU.out]
        have x7 := HX4.out.cell 7
        have xl := HX4.out.lt
        have HUL := Lib.hid (show U.length + (if 0 < n2 then [32, 101, 108, 115, 101, 32, 123, 10] ++ s3 ++ ind ++ [125] else []).length + 1 ≤ 900000 by
          have h1 := HLY.out
          rw [HU.out]
          simp only [List.length_append, List.length_cons, List.length_nil] at h1 ⊢
          omega)
        have HTU := Lib.hid (show (l.toL.take (i + 1)).flatMap (fstep ind) = U ++ (if 0 < n2 then [32, 101, 108, 115, 101, 32, 123, 10] ++ s3 ++ ind ++ [125] else []) ++ [10] by
          rw [HT.out, HBX.out, HU.out]
          simp only [List.append_assoc])
        clear HR7 HLY HBX HT HU
        by_cases hn2 : 0 < n2
        · have HUL2 := HUL.out
          rw [if_pos hn2] at HUL2
          have HTU2 := Lib.hid (show (l.toL.take (i + 1)).flatMap (fstep ind) = U ++ ([32, 101, 108, 115, 101, 32, 123, 10] ++ s3 ++ ind ++ [125]) ++ [10] by rw [HTU.out, if_pos hn2])
          have HCE2 := Lib.hid (HCE.out hn2)
          have hn3 : (0 : Int) < (n2 : Int) := by omega
          simp only [List.length_append, List.length_cons, List.length_nil] at HUL2
          have hs1 : ¬ (9223372036854775807 < U.length + 8) := by omega
          have hs2 : ¬ (9223372036854775807 < U.length + 8 + s3.length) := by omega
          have hs3 : ¬ (9223372036854775807 < U.length + 8 + s3.length + ind.length) := by omega
          have hs4 : ¬ (9223372036854775807 < U.length + 8 + s3.length + ind.length + 1) := by omega
          have hs5 : ¬ (9223372036854775807 < U.length + 8 + s3.length + ind.length + 1 + 1) := by omega
          clear HUL HTU hn2 HUL2 HCE
          go_wp2_with (fail)
          refine (HCE2.out _ HB34.out).mono ?_
          rintro e w5 ⟨rfl, hb5⟩
          have HB5 := Lib.hid (HB4.out.trans (hb5.mono HB4.out.size))
          clear hb5 x7 xl
          go_wp2_with (fail)
          go_roundw
          case rel => exact ⟨i + 1, hlt, by go_num, congrArg Value.string (by
            rw [HTU2.out, show ({ data := #[32, 101, 108, 115, 101, 32, 123, 10] } : ByteArray) = bs [32, 101, 108, 115, 101, 32, 123, 10] from rfl, show ({ data := #[125] } : ByteArray) = bs [125] from rfl, show ({ data := #[10] } : ByteArray) = bs [10] from rfl]
            simp only [bs_add, List.append_assoc]), HB5.out⟩
          case measure => simp [intOf]; omega
        · have HUL2 := HUL.out
          rw [if_neg hn2] at HUL2
          have HTU2 := Lib.hid (show (l.toL.take (i + 1)).flatMap (fstep ind) = U ++ [10] by rw [HTU.out, if_neg hn2, List.append_nil])
          have hn3 : ¬ (0 : Int) < (n2 : Int) := by omega
          simp only [List.length_nil] at HUL2
          have hs1 : ¬ (9223372036854775807 < U.length + 1) := by omega
          clear HUL HTU hn2 HUL2 HCE
          go_wp2_with (fail)
          go_roundw
          case rel => exact ⟨i + 1, hlt, by go_num, congrArg Value.string (by
            rw [HTU2.out, show ({ data := #[10] } : ByteArray) = bs [10] from rfl, bs_add]), HB4.out⟩
          case measure => simp [intOf]; omega
    · obtain rfl : i = m := by omega
      have hjj : ¬ (i : Int) < (i : Int) := by omega
      have HE := Lib.hid (show (l.toL.take i).flatMap (fstep ind) = flines ind l by rw [HF.out, List.take_of_length_le (by rw [← HL.out]; exact Nat.le_refl _)])
      go_wp2_with (fail)
      go_ret
      exact ⟨congrArg (fun l => Ending.returned (.string (bs l))) HE.out, HB.out⟩
theorem pln_all : ∀ N, PLN N
  | 0 => fun _ _ _ _ _ _ _ h => absurd h (by omega)
  | N + 1 => pln_of N (pln_all N)
end Go.Proofs.YticpjdjdimpglaaGreatDoor
