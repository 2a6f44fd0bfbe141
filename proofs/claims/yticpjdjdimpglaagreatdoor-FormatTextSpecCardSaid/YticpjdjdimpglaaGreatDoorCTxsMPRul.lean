/- The reference's Rules by its contract. -/
import Derived.Test.YticpjdjdimpglaaGreatDoorCTxsMPLin
import Derived.Test.YticpjdjdimpglaaGreatDoorCTxsMQRul
import Derived.Test.YticpjdjdimpglaaGreatDoorCTxsMRKey
import Derived.Test.YticpjdjdimpglaaGreatDoorCTxsMSnB
import Derived.Lib.ConvBytes
namespace Go.Proofs.YticpjdjdimpglaaGreatDoor
set_option linter.unusedVariables false
set_option linter.unusedSimpArgs false
open Go.RowKit
/-- The text up to the zones; the whole. -/
def rhead (nm : List UInt8) (d1 d2 d3 o : List UInt8) : List UInt8 := [114, 117, 108, 101, 115, 32] ++ nm ++ [32, 123, 10, 32, 32, 119, 105, 110, 32] ++ d1 ++ [32, 100, 114, 97, 119, 32] ++ d2 ++ [32, 108, 111, 115, 115, 32] ++ d3 ++ [59, 10, 32, 32, 111, 114, 100, 101, 114, 32, 123, 10] ++ o ++ [32, 32, 125, 10, 32, 32, 122, 111, 110, 101, 115, 32, 123, 10]
theorem frules_head (r : RT) : frules r = if trules r ≠ 0 then ([], trules r) else if kwB r.name || r.zones.any (fun z => kwB z.name) then ([], 140) else
    (rhead r.name (dec r.win) (dec r.draw) (dec r.loss) (flines [32, 32, 32, 32] r.order) ++ r.zones.flatMap fzone ++ [32, 32, 125, 10, 125, 10], 0) := by
  unfold frules rhead
  split
  · rfl
  · split
    · rfl
    · refine congrArg (fun s => (s, (0 : Int))) ?_
      simp [kRules, kWin, kDraw, kLoss, kOrder, kZones, List.append_assoc]
theorem any_take {α : Type} (p : α → Bool) {l : List α} {i : Nat} {x : α} (h : l[i]? = some x) : (l.take (i + 1)).any p = ((l.take i).any p || p x) := by
  rw [List.take_add_one, h, List.any_append]
  simp
theorem zoneB_facts {z : ZT} (h : zoneB z = true) : z.name.length ≤ 24 ∧ (-99 ≤ z.fr ∧ z.fr ≤ 99) ∧ -99 ≤ z.to ∧ z.to ≤ 99 := by
  rw [zoneB_eq, Bool.and_eq_true, Bool.and_eq_true] at h
  obtain ⟨⟨h1, h2⟩, h3⟩ := h
  have h4 := of_decide_eq_true h1
  have h5 := of_decide_eq_true h2
  have h6 := (nameB_iff z.name).1 h3
  omega
theorem fz_len {z : ZT} (h : zoneB z = true) : (fzone z).length ≤ 60 := by
  obtain ⟨h1, h2, h3⟩ := zoneB_facts h
  have h4 := dec_len h2
  have h5 := dec_len h3
  unfold fzone
  split <;> simp only [List.length_append, List.length_cons, List.length_nil] <;> omega
theorem fzs_len : ∀ (l : List ZT) (i : Nat), (∀ z ∈ l, zoneB z = true) → ((l.take i).flatMap fzone).length ≤ 60 * l.length
  | [], i, _ => by simp
  | z :: r, 0, _ => by simp
  | z :: r, i + 1, h => by
    have h1 := fz_len (h z (by simp))
    have h2 := fzs_len r i fun y hy => h y (by simp [hy])
    rw [List.take_succ_cons, List.flatMap_cons, List.length_append, List.length_cons]
    omega
section
variable {ops : Array Oper} {rest : List Oper} {o : Oper} {a : Act} {Q : Exit → Act → World → Prop} {w : World}
set_option maxRecDepth 100000 in
/-- A string as bytes. -/
theorem wpList_convR {x : Operand} (l : List UInt8) (hgd : o.guard = none) (ho : o.op = Op.convert 9 35 x)
    (hx : a.eval x = .string (bs l)) (hl : l.length ≤ 1000000)
    (h : ∀ W' b c, Below w.heap.size w W' → Rd W' W'.heap.size 1 (some ⟨b, 0, none⟩) l.length c (l.map vb) → wpList Tryz.prog ops Q rest (a.put o.dst (.slice (some ⟨b, 0, none⟩) l.length c)) W') : wpList Tryz.prog ops Q (o :: rest) a w := by
  have hr := Lib.run_convert_string_bytes (P := Tryz.prog) w 9 35 5 (bs l) Tryz.underlying9 Tryz.underlying35 Tryz.underlying5
  rw [bs_size] at hr
  refine wpList_by hgd (v := .slice (some ⟨w.heap.size, 0, none⟩) l.length (grownCap w l.length 0 5)) (w' := Lib.bytesWorld w 5 (bs l)) ?_ (h _ _ _ (Lib.bytesWorld_below _ _ _) ?_)
  · unfold execOp
    simp only [ho, hx, Sem.run_bind, hr]
    rfl
  · refine ⟨by simp, grownCap_ge w l.length 0 _, grownCap_le_maxLen w l.length 0 _ (by unfold maxLen; omega), fun _ => ⟨_, 0, rfl, by rw [Lib.bytesWorld_size]; omega, fun j u hj => ?_⟩⟩
    have hj' : j < l.length := by
      rcases Nat.lt_or_ge j l.length with h | h
      · exact h
      · rw [List.getElem?_eq_none (by simpa using h)] at hj; cases hj
    rw [Nat.zero_add, Lib.bytesWorld_cell _ _ _ _ (by rw [bs_size]; exact hj')]
    rw [← hj]
    simp [bs, vb, hj']
end
set_option maxHeartbeats 8000000 in
set_option maxRecDepth 100000 in
/-- The reference's Rules. -/
theorem prules_any (S S' : Nat → Prop) (r : RT) (A : Option Addr) (m d : Nat) (C : Option Addr) (n c : Nat) (w : World) (h1 : RepT S w r.order A m d) (h2 : RepZ S' w r.zones C n c) (hz : r.order.sz ≤ 120) (hl : r.name.length ≤ 1000000) (hlz : ∀ z ∈ r.zones, z.name.length ≤ 1000000) :
    Calls Tryz.prog 16 #[rV r A m d C n c] w (FRP r w) := by
  have HQ := Lib.hid (fun W (hW : Below w.heap.size w W) => qrules_any S S' r A m d C n c W (h1.below hW) (h2.below hW) (by omega) hl hlz)
  have HF := Lib.hid (frules_head r)
  have HT := Lib.hid h1
  have HZ := Lib.hid h2
  have HTZ := Lib.hid (fun h => trules_zero (r := r) h)
  have HL := Lib.hid h2.len
  have HSZ := Lib.hid hz
  have hcap := h2.1.cap
  have hbig := h2.1.big
  unfold FRP
  generalize frules r = F at HF ⊢
  obtain ⟨nm, w1, w2, w3, o, zs⟩ := r
  unfold rV at HQ ⊢
  dsimp only at HQ HF HT HZ HTZ HL HSZ ⊢
  clear h1 h2 hz hl hlz
  go_enter Tryz.func16, Tryz.ntmps16
  go_wp2_with (fail)
  first | (refine calls_named ?_; intro W hW) | (refine body_named ?_; intro W hW) | (refine wpList_named ?_; intro W hW) | (refine wp_named ?_; intro W hW)
  have HB := Lib.hid (show Below w.heap.size w W by rw [← hW]; exact (Below.refl _ _).alloc (Nat.le_refl _) _)
  have HX := Lib.hid (show Blk W w.heap.size 28 #[.string (bs nm), .int .i64 w1, .int .i64 w2, .int .i64 w3, .slice A m d, .slice C n c] by rw [← hW]; exact Blk.new _ _ _)
  clear hW
  refine (HQ.out W HB.out).mono ?_
  rintro e v1 ⟨rfl, hb⟩
  have HB1 := Lib.hid (HB.out.trans (hb.mono HB.out.size))
  have HX1 := Lib.hid (HX.out.below hb HX.out.lt)
  clear hb HX HB HQ
  by_cases ht : trules ⟨nm, w1, w2, w3, o, zs⟩ = 0
  case neg =>
    have HF2 := Lib.hid (HF.out.trans (if_pos ht))
    have htb : (trules ⟨nm, w1, w2, w3, o, zs⟩ != 0) = true := bne_iff_ne.2 ht
    generalize trules ⟨nm, w1, w2, w3, o, zs⟩ = t at htb HF2 ⊢
    clear HF ht HTZ
    go_wp2_with (fail)
    go_ret2
    exact ⟨none, 0, 0, by rw [HF2.out]; rfl, by rw [HF2.out]; exact Rd.nil, HB1.out⟩
  have HF2 := Lib.hid (HF.out.trans (if_neg (Classical.not_not.2 ht)))
  have HK := Lib.hid (HTZ.out ht)
  have HZB := Lib.hid (fun z (hz : z ∈ zs) => List.all_eq_true.1 HK.out.2.2.2.2.2.2.2 z hz)
  have HOZ := Lib.hid (torder_zero HK.out.2.2.2.2.2.1)
  have hn16 : n ≤ 16 := by rw [HL.out]; exact HK.out.2.2.2.2.2.2.1
  rw [ht]
  clear HF ht HTZ
  have x0 := HX1.out.cell 0
  have xl := HX1.out.lt
  go_wp2_with (fail)
  refine (rkeyword_any nm v1).mono ?_
  rintro e v2 ⟨rfl, rfl⟩
  have x5 := HX1.out.cell 5
  go_wp2_with (fail)
  clear x0 x5 xl
  go_loopw [5, 6] (fun b q wr => ∃ i : Nat, i ≤ n ∧ q = .int .i64 i ∧ b = .bool (kwB nm || (zs.take i).any (fun z => kwB z.name)) ∧ Hid (Below w.heap.size w wr) ∧ Hid (Blk wr w.heap.size 28 #[.string (bs nm), .int .i64 w1, .int .i64 w2, .int .i64 w3, .slice A m d, .slice C n c])) (fun _ q _ => n - (intOf q).toNat)
  case atStart => exact ⟨0, Nat.zero_le _, rfl, by simp, HB1.out, HX1.out⟩
  case round =>
    obtain ⟨i, him, rfl, rfl, HBr, HXr⟩ := hrel
    clear HB1 HX1
    have x5 := HXr.out.cell 5
    have xl := HXr.out.lt
    by_cases hlt : i < n
    · obtain ⟨b, off, z, rfl, hb, hS, hzk, g0, g1, g2⟩ := HZ.out.elem hlt
      rw [← HBr.out.cell (p := ⟨b, _, none⟩) hb] at g0
      have HAT := Lib.hid (any_take (fun z : ZT => kwB z.name) hzk)
      have hi2 : (i : Int) < (n : Int) := by omega
      clear hzk hS g1 g2
      cases hbv : (kwB nm || (zs.take i).any (fun z => kwB z.name)) with
      | true =>
        have HAV := Lib.hid (show (kwB nm || (zs.take (i + 1)).any (fun z => kwB z.name)) = true by rw [HAT.out, ← Bool.or_assoc, hbv]; rfl)
        clear hbv
        go_wp2_with (fail)
        go_roundw
        case rel => exact ⟨i + 1, hlt, by go_num, by rw [HAV.out], HBr.out, HXr.out⟩
        case measure => simp [intOf]; omega
      | false =>
        have HAV := Lib.hid (show (kwB nm || (zs.take (i + 1)).any (fun z => kwB z.name)) = kwB z.name by rw [HAT.out, ← Bool.or_assoc, hbv]; rfl)
        clear hbv
        go_wp2_with (fail)
        refine (rkeyword_any z.name _).mono ?_
        rintro e v3 ⟨rfl, rfl⟩
        go_wp2_with (fail)
        go_roundw
        case rel => exact ⟨i + 1, hlt, by go_num, by rw [HAV.out], HBr.out, HXr.out⟩
        case measure => simp [intOf]; omega
    · obtain rfl : i = n := by omega
      have hjj : ¬ (i : Int) < (i : Int) := by omega
      have HTK := Lib.hid (show zs.take i = zs from List.take_of_length_le (by rw [← HL.out]; exact Nat.le_refl _))
      rw [HTK.out]
      clear HTK
      cases hbv : (kwB nm || zs.any (fun z => kwB z.name)) with
      | true =>
        have HF3 := Lib.hid (HF2.out.trans (if_pos hbv))
        clear hbv HF2
        go_wp2_with (fail)
        go_ret2
        exact ⟨none, 0, 0, by rw [HF3.out]; rfl, by rw [HF3.out]; exact Rd.nil, HBr.out⟩
      | false =>
        have HF3 := Lib.hid (HF2.out.trans (if_neg (by rw [hbv]; decide)))
        clear hbv HF2
        go_wp2_with (fail)
        clear x5
        have X0 := cell_by xl (show wr.cell? ⟨w.heap.size, 0, none⟩ = some (.string (bs nm)) from HXr.out.cell 0)
        have X1 := cell_by xl (show wr.cell? ⟨w.heap.size, 1, none⟩ = some (.int .i64 w1) from HXr.out.cell 1)
        have X2 := cell_by xl (show wr.cell? ⟨w.heap.size, 2, none⟩ = some (.int .i64 w2) from HXr.out.cell 2)
        have X3 := cell_by xl (show wr.cell? ⟨w.heap.size, 3, none⟩ = some (.int .i64 w3) from HXr.out.cell 3)
        have X4 := cell_by xl (show wr.cell? ⟨w.heap.size, 4, none⟩ = some (.slice A m d) from HXr.out.cell 4)
        have hk := HK.out
        have hc1 := calls_by (w := wr) (fun W _ => pnum_any (n := w1) (by omega) W)
        have hc2 := calls_by (w := wr) (fun W _ => pnum_any (n := w2) (by omega) W)
        have hc3 := calls_by (w := wr) (fun W _ => pnum_any (n := w3) (by omega) W)
        have ho := flines_len o [32, 32, 32, 32] 214 (by have := HOZ.out; simp only [List.length_cons, List.length_nil]; omega)
        have ho2 : (flines [32, 32, 32, 32] o).length ≤ 30000 := by
          have h1 := HSZ.out
          have h2 := Nat.mul_le_mul_right 214 h1
          omega
        have HCL := Lib.hid (fun W (hW : Below wr.heap.size wr W) => pln_all (o.sz + 1) S [32, 32, 32, 32] o A m d W (Nat.lt_succ_self _) HOZ.out.2.2.2.2.2 (by have := HOZ.out; omega) (by have := HSZ.out; omega) (HT.out.below (HBr.out.trans (hW.mono HBr.out.size))) (by simp only [List.length_cons, List.length_nil]; omega))
        rw [show bs [32, 32, 32, 32] = ({ data := #[32, 32, 32, 32] } : ByteArray) from rfl] at HCL
        have hcl := calls_by HCL.out
        have hl1 := dec_len (n := w1) (by omega)
        have hl2 := dec_len (n := w2) (by omega)
        have hl3 := dec_len (n := w3) (by omega)
        have hnm := (nameB_iff nm).1 hk.1
        generalize dec w1 = d1 at *
        generalize dec w2 = d2 at *
        generalize dec w3 = d3 at *
        generalize flines [32, 32, 32, 32] o = fo at *
        have hnl : nm.length ≤ 24 := hnm.2.1
        have q1 : ¬ (9223372036854775807 < 6 + nm.length) := by omega
        have q2 : ¬ (9223372036854775807 < 6 + nm.length + 9) := by omega
        have q3 : ¬ (9223372036854775807 < 6 + nm.length + 9 + d1.length) := by omega
        have q4 : ¬ (9223372036854775807 < 6 + nm.length + 9 + d1.length + 6) := by omega
        have q5 : ¬ (9223372036854775807 < 6 + nm.length + 9 + d1.length + 6 + d2.length) := by omega
        have q6 : ¬ (9223372036854775807 < 6 + nm.length + 9 + d1.length + 6 + d2.length + 6) := by omega
        have q7 : ¬ (9223372036854775807 < 6 + nm.length + 9 + d1.length + 6 + d2.length + 6 + d3.length) := by omega
        have q8 : ¬ (9223372036854775807 < 6 + nm.length + 9 + d1.length + 6 + d2.length + 6 + d3.length + 12) := by omega
        have q9 : ¬ (9223372036854775807 < 6 + nm.length + 9 + d1.length + 6 + d2.length + 6 + d3.length + 12 + fo.length) := by omega
        have q10 : ¬ (9223372036854775807 < 6 + nm.length + 9 + d1.length + 6 + d2.length + 6 + d3.length + 12 + fo.length + 14) := by omega
        have HHL := Lib.hid (show (rhead nm d1 d2 d3 fo).length ≤ 40000 by
          unfold rhead
          simp only [List.length_append, List.length_cons, List.length_nil]
          omega)
        clear hnm hk ho ho2 HCL hl1 hl2 hl3 hnl
        refine wp_region_below mixF (by kernel_rfl) ?_
        repeat (go_big_quiet_step (first | (go_at_call 58; with_reducible exact hc1 _) | (go_at_call 58; with_reducible exact hc2 _) | (go_at_call 58; with_reducible exact hc3 _) | (go_at_call 59; with_reducible exact hcl _)))
        refine wpQuiet_nil ?_
        intro _ hw'
        obtain ⟨⟨wq, hbq⟩, hw2⟩ := hw'
        subst hw2
        have HB4 := Lib.hid (HBr.out.trans (hbq.mono HBr.out.size))
        have HX4 := Lib.hid (HXr.out.below hbq HXr.out.lt)
        clear X0 X1 X2 X3 X4 hc1 hc2 hc3 hcl hbq xl q1 q2 q3 q4 q5 q6 q7 q8 q9 q10 HXr HBr
        have HR7 := Lib.hid (show ({ data := #[114, 117, 108, 101, 115, 32] } : ByteArray) ++ bs nm ++ ({ data := #[32, 123, 10, 32, 32, 119, 105, 110, 32] } : ByteArray) ++ bs d1 ++ ({ data := #[32, 100, 114, 97, 119, 32] } : ByteArray) ++ bs d2 ++ ({ data := #[32, 108, 111, 115, 115, 32] } : ByteArray) ++ bs d3 ++ ({ data := #[59, 10, 32, 32, 111, 114, 100, 101, 114, 32, 123, 10] } : ByteArray) ++ bs fo ++ ({ data := #[32, 32, 125, 10, 32, 32, 122, 111, 110, 101, 115, 32, 123, 10] } : ByteArray) = bs (rhead nm d1 d2 d3 fo) by
          rw [show ({ data := #[114, 117, 108, 101, 115, 32] } : ByteArray) = bs [114, 117, 108, 101, 115, 32] from rfl, show ({ data := #[32, 123, 10, 32, 32, 119, 105, 110, 32] } : ByteArray) = bs [32, 123, 10, 32, 32, 119, 105, 110, 32] from rfl, show ({ data := #[32, 100, 114, 97, 119, 32] } : ByteArray) = bs [32, 100, 114, 97, 119, 32] from rfl, show ({ data := #[32, 108, 111, 115, 115, 32] } : ByteArray) = bs [32, 108, 111, 115, 115, 32] from rfl, show ({ data := #[59, 10, 32, 32, 111, 114, 100, 101, 114, 32, 123, 10] } : ByteArray) = bs [59, 10, 32, 32, 111, 114, 100, 101, 114, 32, 123, 10] from rfl, show ({ data := #[32, 32, 125, 10, 32, 32, 122, 111, 110, 101, 115, 32, 123, 10] } : ByteArray) = bs [32, 32, 125, 10, 32, 32, 122, 111, 110, 101, 115, 32, 123, 10] from rfl]
          simp only [bs_add]
          rfl)
        rw [HR7.out]
        clear HR7
        generalize rhead nm d1 d2 d3 fo = H at HHL HF3 ⊢
        have HZL := Lib.hid (fun k => fzs_len zs k HZB.out)
        have x5 := HX4.out.cell 5
        have xl := HX4.out.lt
        go_wp2_with (fail)
        clear x5 xl
        go_loopw [7, 8] (fun s q wr => ∃ k : Nat, k ≤ i ∧ q = .int .i64 k ∧ s = .string (bs (H ++ (zs.take k).flatMap fzone)) ∧ Hid (Below w.heap.size w wr) ∧ Hid (Blk wr w.heap.size 28 #[.string (bs nm), .int .i64 w1, .int .i64 w2, .int .i64 w3, .slice A m d, .slice C i c])) (fun _ q _ => i - (intOf q).toNat)
        case atStart => exact ⟨0, Nat.zero_le _, rfl, by simp, HB4.out, HX4.out⟩
        case round =>
          obtain ⟨k, hki, rfl, rfl, HBs, HXs⟩ := hrel
          clear HB4 HX4
          have x5 := HXs.out.cell 5
          have xl := HXs.out.lt
          have HTL := Lib.hid (show (H ++ (zs.take k).flatMap fzone).length ≤ 50000 by
            have h1 := HZL.out k
            have h2 := HHL.out
            have h3 := HL.out
            rw [List.length_append]
            omega)
          by_cases hlt2 : k < i
          · obtain ⟨b, off, z, rfl, hb, hS, hzk, g0, g1, g2⟩ := HZ.out.elem hlt2
            rw [← HBs.out.cell (p := ⟨b, _, none⟩) hb] at g0 g1 g2
            have hbl : b < wr.heap.size := Nat.lt_of_lt_of_le hb HBs.out.size
            have HTK := Lib.hid (flatMap_take fzone hzk)
            have HZF := Lib.hid (zoneB_facts (HZB.out z (List.mem_of_getElem? hzk)))
            have hk2 : (k : Int) < (i : Int) := by omega
            obtain ⟨T, HTT⟩ : ∃ T, Hid (T = H ++ (zs.take k).flatMap fzone) := ⟨_, Lib.hid rfl⟩
            rw [← HTT.out] at HTL ⊢
            have HNX := Lib.hid (show H ++ (zs.take (k + 1)).flatMap fzone = T ++ fzone z by rw [HTK.out, HTT.out, List.append_assoc])
            clear hzk hS HTK HTT
            go_wp2_with (fail)
            have hb3 : Below wr.heap.size wr (wr.alloc (.cells #[.string (bs z.name), .int .i64 z.fr, .int .i64 z.to] 73)) := (Below.refl _ _).alloc (Nat.le_refl _) _
            have hx3 : Blk (wr.alloc (.cells #[.string (bs z.name), .int .i64 z.fr, .int .i64 z.to] 73)) wr.heap.size 73 #[.string (bs z.name), .int .i64 z.fr, .int .i64 z.to] := Blk.new _ _ _
            generalize wr.alloc (.cells #[.string (bs z.name), .int .i64 z.fr, .int .i64 z.to] 73) = W3 at hb3 hx3 ⊢
            have HB3 := Lib.hid (HBs.out.trans (hb3.mono HBs.out.size))
            have HX3 := Lib.hid (HXs.out.below hb3 HXs.out.lt)
            have HY3 := Lib.hid hx3
            have yl := hx3.lt
            have X0 := cell_by yl (show W3.cell? ⟨wr.heap.size, 0, none⟩ = some (.string (bs z.name)) from hx3.cell 0)
            have X1 := cell_by yl (show W3.cell? ⟨wr.heap.size, 1, none⟩ = some (.int .i64 z.fr) from hx3.cell 1)
            clear hb3 hx3 g0 g1 g2 x5 xl
            have hc1 := calls_by (w := W3) (fun W _ => pnum_any (n := z.fr) HZF.out.2.1 W)
            have HC2 := Lib.hid (fun W => pnum_any (n := z.to) HZF.out.2.2 W)
            have hl1 := dec_len (n := z.fr) HZF.out.2.1
            have hl2 := dec_len (n := z.to) HZF.out.2.2
            have hln := HZF.out.1
            have htl := HTL.out
            have HFZ := Lib.hid (show fzone z = [32, 32, 32, 32] ++ z.name ++ [32] ++ dec z.fr ++ (if z.to = z.fr then [] else [32, 116, 111, 32] ++ dec z.to) ++ [59, 10] from rfl)
            generalize dec z.fr = s1 at *
            generalize dec z.to = s2 at *
            have q1 : ¬ (9223372036854775807 < T.length + 4) := by omega
            have q2 : ¬ (9223372036854775807 < T.length + 4 + z.name.length) := by omega
            have q3 : ¬ (9223372036854775807 < T.length + 4 + z.name.length + 1) := by omega
            have q4 : ¬ (9223372036854775807 < T.length + 4 + z.name.length + 1 + s1.length) := by omega
            have HUL := Lib.hid (show T.length + 4 + z.name.length + 1 + s1.length + 100 ≤ 60000 by omega)
            have HL2 := Lib.hid hl2
            clear hl1 hl2 hln htl
            refine wp_region_below mixF (by kernel_rfl) ?_
            repeat (go_big_quiet_step (first | (go_at_call 58; with_reducible exact hc1 _)))
            refine wpQuiet_nil ?_
            intro _ hw'
            obtain ⟨⟨wq, hbq⟩, hw2⟩ := hw'
            subst hw2
            have HB5 := Lib.hid (HB3.out.trans (hbq.mono HB3.out.size))
            have HX5 := Lib.hid (HX3.out.below hbq HX3.out.lt)
            have HY5 := Lib.hid (HY3.out.below hbq HY3.out.lt)
            clear X0 X1 hc1 hbq yl q1 q2 q3 q4 HX3 HY3 HB3
            have HR8 := Lib.hid (show bs T ++ ({ data := #[32, 32, 32, 32] } : ByteArray) ++ bs z.name ++ ({ data := #[32] } : ByteArray) ++ bs s1 = bs (T ++ ([32, 32, 32, 32] ++ z.name ++ [32] ++ s1)) by
              rw [show ({ data := #[32, 32, 32, 32] } : ByteArray) = bs [32, 32, 32, 32] from rfl, show ({ data := #[32] } : ByteArray) = bs [32] from rfl]
              simp only [bs_add, List.append_assoc])
            rw [HR8.out]
            obtain ⟨U, HU⟩ : ∃ U, Hid (U = T ++ ([32, 32, 32, 32] ++ z.name ++ [32] ++ s1)) := ⟨_, Lib.hid rfl⟩
            rw [← HU.out]
            have hul : U.length + 100 ≤ 60000 := by
              have h1 := HUL.out
              rw [HU.out]
              simp only [List.length_append, List.length_cons, List.length_nil]
              omega
            have HNU := Lib.hid (show H ++ (zs.take (k + 1)).flatMap fzone = U ++ (if z.to = z.fr then [] else [32, 116, 111, 32] ++ s2) ++ [59, 10] by
              rw [HNX.out, HFZ.out, HU.out]
              simp only [List.append_assoc])
            clear HR8 HU HFZ HNX HUL
            have y1 := HY5.out.cell 1
            have y2 := HY5.out.cell 2
            have yl := HY5.out.lt
            by_cases hto : z.to = z.fr
            · have hb1 : (z.to != z.fr) = false := by simpa using hto
              have HN2 := Lib.hid (show H ++ (zs.take (k + 1)).flatMap fzone = U ++ [59, 10] by rw [HNU.out, if_pos hto, List.append_nil])
              have q1 : ¬ (9223372036854775807 < U.length + 2) := by omega
              clear hto HNU hul
              go_wp2_with (fail)
              go_roundw
              case rel => exact ⟨k + 1, hlt2, by go_num, congrArg Value.string (by rw [HN2.out, show ({ data := #[59, 10] } : ByteArray) = bs [59, 10] from rfl, bs_add]), HB5.out, HX5.out⟩
              case measure => simp [intOf]; omega
            · have hb1 : (z.to != z.fr) = true := bne_iff_ne.2 hto
              have HN2 := Lib.hid (show H ++ (zs.take (k + 1)).flatMap fzone = U ++ ([32, 116, 111, 32] ++ s2) ++ [59, 10] by rw [HNU.out, if_neg hto])
              have hl2 := HL2.out
              have q1 : ¬ (9223372036854775807 < U.length + 4) := by omega
              have q2 : ¬ (9223372036854775807 < U.length + 4 + s2.length) := by omega
              have q3 : ¬ (9223372036854775807 < U.length + 4 + s2.length + 2) := by omega
              clear hto HNU hul hl2
              go_wp2_with (fail)
              refine (HC2.out _).mono ?_
              rintro e w6 ⟨rfl, hb6⟩
              have HB6 := Lib.hid (HB5.out.trans (hb6.mono HB5.out.size))
              have HX6 := Lib.hid (HX5.out.below hb6 HX5.out.lt)
              clear hb6 y1 y2 yl
              go_wp2_with (fail)
              go_roundw
              case rel => exact ⟨k + 1, hlt2, by go_num, congrArg Value.string (by
                rw [HN2.out, show ({ data := #[32, 116, 111, 32] } : ByteArray) = bs [32, 116, 111, 32] from rfl, show ({ data := #[59, 10] } : ByteArray) = bs [59, 10] from rfl]
                simp only [bs_add, List.append_assoc]), HB6.out, HX6.out⟩
              case measure => simp [intOf]; omega
          · obtain rfl : k = i := by omega
            have hkk : ¬ (k : Int) < (k : Int) := by omega
            have htl := HTL.out
            have HFF := Lib.hid (show F = (H ++ (zs.take k).flatMap fzone ++ [32, 32, 125, 10, 125, 10], 0) by
              rw [HF3.out, List.take_of_length_le (by rw [← HL.out]; exact Nat.le_refl _)])
            obtain ⟨T, HTT⟩ : ∃ T, Hid (T = H ++ (zs.take k).flatMap fzone) := ⟨_, Lib.hid rfl⟩
            rw [← HTT.out] at HFF htl ⊢
            have q1 : ¬ (9223372036854775807 < T.length + 6) := by omega
            have HTB := Lib.hid htl
            clear htl HTT
            go_wp2_with (with_reducible refine at_op (Op.convert 9 35 (.tmp 96)) rfl ?_; refine Hid.out ?_)
            refine Lib.hid ?_
            refine wpList_convR (T ++ [32, 32, 125, 10, 125, 10]) rfl rfl ?_ ?_ ?_
            · exact congrArg Value.string (show bs T ++ ({ data := #[32, 32, 125, 10, 125, 10] } : ByteArray) = bs (T ++ [32, 32, 125, 10, 125, 10]) from bs_add T [32, 32, 125, 10, 125, 10])
            · have := HTB.out
              simp only [List.length_append, List.length_cons, List.length_nil]
              omega
            intro W9 b9 c9 hb9 hr9
            have HB9 := Lib.hid (HBs.out.trans (hb9.mono HBs.out.size))
            have HR9 := Lib.hid hr9
            clear hb9 hr9 x5 xl
            go_wp2_with (fail)
            go_ret2
            exact ⟨some ⟨b9, 0, none⟩, _, c9, by rw [HFF.out]; rfl, by
              rw [HFF.out]
              have h := HR9.out
              have hlen : (T ++ [32, 32, 125, 10, 125, 10] : List UInt8).length = T.length + 6 := List.length_append
              rw [hlen] at h
              exact h, HB9.out⟩
end Go.Proofs.YticpjdjdimpglaaGreatDoor
