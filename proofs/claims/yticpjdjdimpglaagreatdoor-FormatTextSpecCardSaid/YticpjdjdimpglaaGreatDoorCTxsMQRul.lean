/- The reference's typing of rules: Rules by its contract. -/
import Derived.Test.YticpjdjdimpglaaGreatDoorCTxsMPSm
import Derived.Test.YticpjdjdimpglaaGreatDoorCTxsMQOrd
namespace Go.Proofs.YticpjdjdimpglaaGreatDoor
set_option linter.unusedVariables false
set_option linter.unusedSimpArgs false
open Go.RowKit
theorem ret_i64 {a b : Int} (h : a = b) : Ending.returned (.int .i64 a) = .returned (.int .i64 b) := by rw [h]
set_option maxHeartbeats 8000000 in
set_option maxRecDepth 100000 in
theorem qrules_any (S S' : Nat → Prop) (r : RT) (A : Option Addr) (m d : Nat) (C : Option Addr) (n c : Nat) (w : World) (h1 : RepT S w r.order A m d) (h2 : RepZ S' w r.zones C n c) (hz : r.order.sz ≤ 1000000) (hl : r.name.length ≤ 1000000) (hlz : ∀ z ∈ r.zones, z.name.length ≤ 1000000) :
    Calls Tryz.prog 56 #[rV r A m d C n c] w fun e w' => e = .returned (.int .i64 (trules r)) ∧ Below w.heap.size w w' := by
  have HE := Lib.hid (trules_def r)
  generalize trules r = q at HE ⊢
  have HT := Lib.hid h1
  have HZ := Lib.hid h2
  have HLZ := Lib.hid hlz
  have HL := Lib.hid h2.len
  have hcap := h2.1.cap
  have hbig := h2.1.big
  obtain ⟨nm, w1, w2, w3, o, zs⟩ := r
  unfold rV
  dsimp only at HE HT HZ HLZ HL hz hl ⊢
  clear h1 h2 hlz
  go_enter Tryz.func56, Tryz.ntmps56
  go_wp2_with (fail)
  refine (qname_any nm _ hl).mono ?_
  rintro e W ⟨rfl, hW⟩
  have hb1 : Below w.heap.size w W := by rw [← hW]; exact (Below.refl _ _).alloc (Nat.le_refl _) _
  have hx1 : Blk W w.heap.size 28 #[.string (bs nm), .int .i64 w1, .int .i64 w2, .int .i64 w3, .slice A m d, .slice C n c] := by rw [← hW]; exact Blk.new w _ _
  clear hW
  have HB1 := Lib.hid hb1
  have HX1 := Lib.hid hx1
  have c0 := hx1.cell 0
  have c1 := hx1.cell 1
  have c2 := hx1.cell 2
  have c3 := hx1.cell 3
  have c4 := hx1.cell 4
  have c5 := hx1.cell 5
  have cl := hx1.lt
  clear hb1 hx1
  cases hn : nameB nm with
  | false =>
    have HF := Lib.hid (HE.out.trans (if_pos (.inl hn)))
    clear HE hn
    go_wp2_with (fail)
    go_ret
    exact ⟨ret_i64 HF.out.symm, HB1.out⟩
  | true =>
    have HN := Lib.hid hn
    clear hn
    go_wp2_with (fail)
    refine (qpoints_any w1 W).mono ?_
    rintro e W' ⟨rfl, rfl⟩
    by_cases a1 : -99 ≤ w1 ∧ w1 ≤ 99
    case neg =>
      rw [decide_eq_false a1]
      have HF := Lib.hid (HE.out.trans (if_pos (.inr (by omega))))
      clear HE a1
      go_wp2_with (fail)
      go_ret
      exact ⟨ret_i64 HF.out.symm, HB1.out⟩
    rw [decide_eq_true a1]
    go_wp2_with (fail)
    refine (qpoints_any w2 W).mono ?_
    rintro e W' ⟨rfl, rfl⟩
    by_cases a2 : -99 ≤ w2 ∧ w2 ≤ 99
    case neg =>
      rw [decide_eq_false a2]
      have HF := Lib.hid (HE.out.trans (if_pos (.inr (by omega))))
      clear HE a1 a2
      go_wp2_with (fail)
      go_ret
      exact ⟨ret_i64 HF.out.symm, HB1.out⟩
    rw [decide_eq_true a2]
    go_wp2_with (fail)
    refine (qpoints_any w3 W).mono ?_
    rintro e W' ⟨rfl, rfl⟩
    by_cases a3 : -99 ≤ w3 ∧ w3 ≤ 99
    case neg =>
      rw [decide_eq_false a3]
      have HF := Lib.hid (HE.out.trans (if_pos (.inr (by omega))))
      clear HE a1 a2 a3
      go_wp2_with (fail)
      go_ret
      exact ⟨ret_i64 HF.out.symm, HB1.out⟩
    rw [decide_eq_true a3]
    by_cases a4 : w1 < w2
    · have HF := Lib.hid (HE.out.trans (if_pos (.inr (by omega))))
      clear HE a1 a2 a3
      go_wp2_with (fail)
      go_ret
      exact ⟨ret_i64 HF.out.symm, HB1.out⟩
    by_cases a5 : w2 < w3
    · have HF := Lib.hid (HE.out.trans (if_pos (.inr (by omega))))
      clear HE a1 a2 a3
      go_wp2_with (fail)
      go_ret
      exact ⟨ret_i64 HF.out.symm, HB1.out⟩
    have HE1 := Lib.hid (HE.out.trans (if_neg (fun h => by
      rcases h with h | h
      · rw [HN.out] at h; cases h
      · omega)))
    clear HE a1 a2 a3
    go_wp2_with (fail)
    refine (qorder_any S o A m d W (HT.out.below HB1.out) hz).mono ?_
    rintro e W2 ⟨hb2, rfl⟩
    have HB2 := Lib.hid (HB1.out.trans (hb2.mono HB1.out.size))
    have HX2 := Lib.hid (HX1.out.below hb2 HX1.out.lt)
    clear hb2 c0 c1 c2 c3 c4 c5 cl HX1
    have c5 := HX2.out.cell 5
    have cl := HX2.out.lt
    by_cases ho : torder o = 0
    case neg =>
      have HF := Lib.hid (HE1.out.trans (if_pos ho))
      have hob : (torder o != 0) = true := bne_iff_ne.2 ho
      clear HE1 ho
      generalize torder o = to' at hob HF ⊢
      go_wp2_with (fail)
      go_ret
      exact ⟨ret_i64 HF.out.symm, HB2.out⟩
    have HE2 := Lib.hid (HE1.out.trans (if_neg (Classical.not_not.2 ho)))
    rw [ho]
    clear HE1 ho
    by_cases h16 : 16 < zs.length
    · have HF := Lib.hid (HE2.out.trans (if_pos h16))
      have hn16 : 16 < n := by rw [HL.out]; exact h16
      have hn17 : (16 : Int) < (n : Int) := by omega
      clear HE2 h16
      go_wp2_with (fail)
      go_ret
      exact ⟨ret_i64 HF.out.symm, HB2.out⟩
    have HE3 := Lib.hid (HE2.out.trans (if_neg h16))
    have hn16 : n ≤ 16 := by rw [HL.out]; omega
    clear HE2 h16
    go_wp2_with (fail)
    go_loopw [4] (fun s wr => ∃ k : Nat, k ≤ n ∧ s = .int .i64 k ∧ Hid (Below w.heap.size w wr) ∧ Hid ((zs.take k).all zoneB = true) ∧ Hid (Blk wr w.heap.size 28 #[.string (bs nm), .int .i64 w1, .int .i64 w2, .int .i64 w3, .slice A m d, .slice C n c])) (fun s _ => n - (intOf s).toNat)
    case atStart => exact ⟨0, Nat.zero_le _, rfl, HB2.out, by simp [Hid], HX2.out⟩
    case round =>
      obtain ⟨k, hk, rfl, HB, HA, HX⟩ := hrel
      clear c5 cl
      have c5 := HX.out.cell 5
      have cl := HX.out.lt
      by_cases hlt : k < n
      · obtain ⟨b, off, z, rfl, hb, hS, hzk, d0, d1, d2⟩ := HZ.out.elem hlt
        rw [← HB.out.cell hb] at d0 d1 d2
        have hbl : b < wr.heap.size := Nat.lt_of_lt_of_le hb HB.out.size
        have HZK := Lib.hid hzk
        have HMEM := Lib.hid (show z ∈ zs from List.mem_of_getElem? hzk)
        have hk2 : (k : Int) < (n : Int) := by omega
        have HALL := Lib.hid (show zoneB z = false → q = 140 from fun h => HE3.out.trans (if_neg fun h2 => by
          rw [List.all_eq_true.1 h2 z (List.mem_of_getElem? hzk)] at h
          cases h))
        clear hzk hS
        go_wp2_with (fail)
        refine (qname_any z.name _ (HLZ.out z HMEM.out)).mono ?_
        rintro e W4 ⟨rfl, hW4⟩
        have hb4 : Below wr.heap.size wr W4 := by rw [← hW4]; exact (Below.refl _ _).alloc (Nat.le_refl _) _
        have hx4 : Blk W4 wr.heap.size 73 #[.string (bs z.name), .int .i64 z.fr, .int .i64 z.to] := by rw [← hW4]; exact Blk.new wr _ _
        clear hW4
        have HB4 := Lib.hid (HB.out.trans (hb4.mono HB.out.size))
        have HX4 := Lib.hid (HX.out.below hb4 HX.out.lt)
        have z0 := hx4.cell 0
        have z1 := hx4.cell 1
        have z2 := hx4.cell 2
        have zl := hx4.lt
        clear hb4 hx4 d0 d1 d2 c5 cl
        cases hn : nameB z.name with
        | false =>
          have HF := Lib.hid (HALL.out (by rw [zoneB_eq, hn]; simp))
          clear hn
          go_wp2_with (fail)
          go_ret
          exact ⟨ret_i64 HF.out.symm, HB4.out⟩
        | true =>
          have HNZ := Lib.hid hn
          clear hn
          go_wp2_with (fail)
          refine (qplace_any z.fr W4).mono ?_
          rintro e W5 ⟨rfl, rfl⟩
          cases hp : plB z.fr with
          | false =>
            have HF := Lib.hid (HALL.out (by rw [zoneB_eq, hp]; rfl))
            clear hp
            go_wp2_with (fail)
            go_ret
            exact ⟨ret_i64 HF.out.symm, HB4.out⟩
          | true =>
            have HP1 := Lib.hid hp
            clear hp
            go_wp2_with (fail)
            refine (qplace_any z.to W4).mono ?_
            rintro e W5 ⟨rfl, rfl⟩
            cases hp : plB z.to with
            | false =>
              have HF := Lib.hid (HALL.out (by rw [zoneB_eq, hp]; simp))
              clear hp
              go_wp2_with (fail)
              go_ret
              exact ⟨ret_i64 HF.out.symm, HB4.out⟩
            | true =>
              have HA2 := Lib.hid (show (zs.take (k + 1)).all zoneB = true by
                rw [List.take_add_one, HZK.out, List.all_append, HA.out]
                simp [zoneB_eq, HP1.out, hp, HNZ.out])
              clear hp
              go_wp2_with (fail)
              go_roundw
              case rel => exact ⟨k + 1, hlt, by go_num, HB4.out, HA2.out, HX4.out⟩
              case measure => simp [intOf]; omega
      · obtain rfl : k = n := by omega
        have hjj : ¬ (k : Int) < (k : Int) := by omega
        have HF := Lib.hid (show q = 0 from HE3.out.trans (if_pos (by
          have h := HA.out
          rw [List.take_of_length_le (by rw [← HL.out]; exact Nat.le_refl _)] at h
          exact h)))
        go_wp2_with (fail)
        go_ret
        exact ⟨ret_i64 HF.out.symm, HB.out⟩
end Go.Proofs.YticpjdjdimpglaaGreatDoor
