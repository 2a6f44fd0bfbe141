/- FormatDirect: the walk of the law. -/
import Derived.Test.YticpjdjdimpglaaGreatDoorMSan
import Derived.Test.YticpjdjdimpglaaGreatDoorMDir
import Derived.Test.YticpjdjdimpglaaGreatDoorMCnS
namespace Go.Proofs.YticpjdjdimpglaaGreatDoor
set_option linter.unusedVariables false
set_option linter.unusedSimpArgs false
open Go.RowKit

theorem flatO_no {F : SF} (h : (flatO F).2 ≠ 0) : (flatO F).1 = .nil := by
  unfold flatO at h ⊢
  split
  · rfl
  · next h0 =>
    rw [if_neg h0] at h
    cases hf : flat [] F with
    | ok x => rw [hf] at h; exact absurd rfl h
    | error e => rfl
theorem flatO_yes {F : SF} (h : (flatO F).2 = 0) : torder F = 0 := by
  unfold flatO at h
  split at h
  · next h0 => exact absurd h h0
  · next h0 => exact Classical.not_not.1 h0
theorem sw_sz : ∀ F : SF, F.w ≤ 2 * F.sz
  | .nil => Nat.zero_le _
  | .cons k b ck cv cn cps th el r => by
    have h1 := sw_sz th
    have h2 := sw_sz el
    have h3 := sw_sz r
    have h4 : CT.w ⟨ck, cv, cn, cps⟩ ≤ 2 * (cps.cnt + 1 + 0) := w_cnt (CF.one ⟨ck, cv, cn, cps⟩ .nil)
    rw [SF.w, SF.sz]
    split <;> omega
theorem nodup_by : ∀ {G : SF} {i k : Nat} {x y : ST}, G.byL.Nodup → k < i → G.toL[i]? = some x → G.toL[k]? = some y → x.k = 1 → y.k = 1 → x.b ≠ y.b
  | .nil, _, _, _, _, _, _, h, _, _, _ => by simp [SF.toL] at h
  | .cons _ _ _ _ _ _ _ _ _, 0, _, _, _, _, h, _, _, _, _ => absurd h (Nat.not_lt_zero _)
  | .cons k0 b ck cv cn cps th el r, i + 1, 0, x, y, hn, _, hx, hy, h1, h2 => by
    rw [SF.toL, List.getElem?_cons_succ] at hx
    rw [SF.toL, List.getElem?_cons_zero] at hy
    injection hy with hy
    subst hy
    simp only at h2
    rw [SF.byL, if_pos h2] at hn
    have h3 := (List.nodup_cons.1 hn).1
    intro e
    apply h3
    rw [byL_mem]
    obtain ⟨a1, a2⟩ := List.getElem?_eq_some_iff.1 hx
    exact ⟨x, by rw [← a2]; exact List.getElem_mem a1, h1, e⟩
  | .cons k0 b ck cv cn cps th el r, i + 1, k + 1, x, y, hn, hk, hx, hy, h1, h2 => by
    rw [SF.toL, List.getElem?_cons_succ] at hx hy
    refine nodup_by (G := r) (i := i) (k := k) ?_ (by omega) hx hy h1 h2
    rw [SF.byL] at hn
    split at hn
    · exact (List.nodup_cons.1 hn).2
    · exact hn
theorem directO_flat {F : SF} (h : (flatO F).2 = 0) (hw : F.w ≤ 256) (t r f c : Int) : directO (flatO F).1 t r f c = directO F t r f c := by
  obtain ⟨_, h2, _, h4⟩ := law_direct h hw
  unfold directO
  rw [h2, flatO_yes h, h4]
theorem rsame_same (S : Nat → Prop) (F : SF) (A : Option Addr) (m d : Nat) (B : Option Addr) (n e : Nat) (w : World) (h1 : RepT S w F A m d) (h2 : RepT S w F B n e) : Calls Tryz.prog 25 #[.slice A m d, .slice B n e] w fun e w' => e = .returned (.bool true) ∧ Below w.heap.size w w' :=
  (rsame_all (F.sz + 1) S S F F A m d B n e w (Nat.lt_succ_self _) h1 h2).mono fun e w' ⟨h1, h2⟩ => ⟨h1.trans (congrArg (fun b => Ending.returned (.bool b)) (by simp)), h2⟩
theorem drewN_below {B : Nat} {a w : World} (h : Below B a w) (q : Nat) : Below B a (w.drewN q) := h.trans ⟨rfl, rfl, rfl, Nat.le_refl _, fun _ _ => rfl⟩
set_option maxHeartbeats 8000000 in
set_option maxRecDepth 100000 in
theorem dir_walk (F : SF) (A : Option Addr) (m d : Nat) (t r f c : Int) (w : World) (h : RepT N0 w F A m d) (hG : FG w) (hcp : 0 < w.heap.size) (hs : SpanIs w) :
    Calls Tryz.prog 6 #[.slice A m d, .agg #[.int .i64 t, .int .i64 r, .int .i64 f, .int .i64 c]] w fun e w' => e = .returned (.bool true) ∧ Below w.heap.size w w' := by
  have HR := Lib.hid h
  have HG := Lib.hid hG
  have HS := Lib.hid hs
  clear h hG hs
  go_enter Tryz.func6, Tryz.ntmps6
  go_wp2_with (fail)
  first | (refine calls_named ?_; intro W hW) | (refine body_named ?_; intro W hW) | (refine wpList_named ?_; intro W hW) | (refine wp_named ?_; intro W hW)
  have hb : Below w.heap.size w W := by rw [← hW]; exact (Below.refl _ _).alloc (Nat.le_refl _) _
  have hq : Blk W w.heap.size 49 #[.int .i64 t, .int .i64 r, .int .i64 f, .int .i64 c] := by rw [← hW]; exact Blk.new _ _ _
  clear hW
  have HB := Lib.hid hb
  have HQ := Lib.hid hq
  clear hb hq
  generalize w.heap.size = qb at HQ ⊢
  refine (sane15_any W (HG.out.below HB.out) (Nat.lt_of_lt_of_le hcp HB.out.size)).mono ?_
  rintro e w1 ⟨rfl, hb⟩
  have HB1 := Lib.hid (HB.out.trans (hb.mono HB.out.size))
  have HQ1 := Lib.hid (HQ.out.below hb HQ.out.lt)
  clear hb HQ HB
  go_wp2_with (fail)
  refine (fewsteps_any N0 F A m d w1 (HR.out.below HB1.out)).mono ?_
  rintro e w2 ⟨hb, b, rfl, hf⟩
  have HB2 := Lib.hid (HB1.out.trans (hb.mono HB1.out.size))
  have HQ2 := Lib.hid (HQ1.out.below hb HQ1.out.lt)
  clear hb HQ1 HB1
  cases b with
  | false =>
    go_wp2_with (fail)
    go_ret
    exact ⟨rfl, HB2.out⟩
  | true =>
    have HF := Lib.hid (hf rfl)
    clear hf
    go_wp2_with (fail)
    obtain ⟨⟨G, z⟩, hyz⟩ : ∃ q, q = flatO F := ⟨_, rfl⟩
    have HT := Lib.hid hyz
    refine (flatO_any (S := N0) (F := F) (fun _ h => h.elim) (HR.out.below HB2.out) (by have := HF.out.1; omega)).mono ?_
    rw [← hyz]
    clear hyz
    rintro e w3 ⟨hb, Ag, mg, dg, rfl, hrg⟩
    have HB3 := Lib.hid (HB2.out.trans (hb.mono HB2.out.size))
    have HQ3 := Lib.hid (HQ2.out.below hb HQ2.out.lt)
    have HRG := Lib.hid hrg
    clear hb hrg HQ2 HB2
    by_cases hz : z = 0
    · subst hz
      have HZ := Lib.hid (show (flatO F).2 = 0 by rw [← HT.out])
      have HW := Lib.hid (show F.w ≤ 256 by have h1 := sw_sz F; have h2 := HF.out.1; omega)
      have HLD := Lib.hid (law_direct HZ.out HW.out)
      have HDD := Lib.hid (directO_flat HZ.out HW.out t r f c)
      rw [← HT.out] at HLD HDD
      have HGG := Lib.hid (show flatO G = (G, 0) from HLD.out.1)
      have HGT := Lib.hid (show torder G = 0 from HLD.out.2.1)
      have HND := Lib.hid (show G.byL.Nodup from HLD.out.2.2.1)
      have HGZ := Lib.hid (show G.sz ≤ 900000 by
        have h1 := sz_le G (torder_okB HGT.out)
        have h2 := HGT.out
        unfold torder at h2
        split at h2
        · omega
        · next h3 => omega)
      have HGL := Lib.hid (HRG.out.len.trans (stoL_len G).symm)
      have hgc := HRG.out.choose_spec.1.cap
      have hgb := HRG.out.choose_spec.1.big
      clear HLD
      go_wp2_with (fail)
      refine (flatO_any (S := N0) (F := G) (fun _ h => h.elim) HRG.out HGZ.out).mono ?_
      rw [HGG.out]
      rintro e w4 ⟨hb, Ah, mh, dh, rfl, hrh⟩
      have HB4 := Lib.hid (HB3.out.trans (hb.mono HB3.out.size))
      have HQ4 := Lib.hid (HQ3.out.below hb HQ3.out.lt)
      have HR4 := Lib.hid (HRG.out.below hb)
      have HRH := Lib.hid hrh
      clear hb hrh HQ3 HB3 HRG
      go_wp2_with (fail)
      refine (rsame_same N0 G Ag mg dg Ah mh dh w4 HR4.out HRH.out).mono ?_
      rintro e w5 ⟨rfl, hb⟩
      have HB5 := Lib.hid (HB4.out.trans (hb.mono HB4.out.size))
      have HQ5 := Lib.hid (HQ4.out.below hb HQ4.out.lt)
      have HR5 := Lib.hid (HR4.out.below hb)
      clear hb HQ4 HB4 HR4 HRH
      go_wp2_with (fail)
      refine (torder_any N0 G Ag mg dg w5 HR5.out (by have := HGZ.out; omega)).mono ?_
      rw [HGT.out]
      rintro e w6 ⟨rfl, hb⟩
      have HB6 := Lib.hid (HB5.out.trans (hb.mono HB5.out.size))
      have HQ6 := Lib.hid (HQ5.out.below hb HQ5.out.lt)
      have HR6 := Lib.hid (HR5.out.below hb)
      clear hb HQ5 HB5 HR5
      go_wp2_with (fail)
      go_loopw [9] (fun s wr => ∃ i : Nat, i ≤ mg ∧ s = .int .i64 i ∧ Hid (Below w6.heap.size w6 wr)) (fun s _ => mg - (intOf s).toNat)
      case atStart => exact ⟨0, Nat.zero_le _, rfl, Below.refl _ _⟩
      case round =>
        obtain ⟨i, him, rfl, HBi⟩ := hrel
        by_cases hlt : i < mg
        · have hi2 : (i : Int) < (mg : Int) := by omega
          obtain ⟨wo, rfl⟩ : ∃ wo, wo = wr := ⟨_, rfl⟩
          go_wp2_with (fail)
          go_loopw [10] (fun s wq => ∃ k : Nat, k ≤ i ∧ s = .int .i64 k ∧ Hid (Below w6.heap.size w6 wq)) (fun s _ => i - (intOf s).toNat)
          case atStart => exact ⟨0, Nat.zero_le _, rfl, HBi.out⟩
          case round =>
            obtain ⟨k, hki, rfl, HBk⟩ := hrel
            by_cases hkl : k < i
            · have hk2 : (k : Int) < (i : Int) := by omega
              have hk3 : (k : Int) < (mg : Int) := by omega
              obtain ⟨b, off, x, Bc, nc, ec, B1, n1, e1, B2, n2, e2, rfl, hb, hSb, hx, ⟨g0, g1, g2, g3, g4, g5, g6, g7⟩, -, -, -⟩ := HR6.out.elem hlt
              obtain ⟨b', off', y, Bd, nd, ed, D1, l1, u1, D2, l2, u2, ea, hb', hS', hy, ⟨i0, i1, i2, i3, i4, i5, i6, i7⟩, -, -, -⟩ := HR6.out.elem (show k < mg by omega)
              obtain ⟨rfl, rfl⟩ : b' = b ∧ off' = off := by
                injection ea with ea
                injection ea with e1 e2
                exact ⟨e1.symm, e2.symm⟩
              rw [← HBk.out.cell (p := ⟨b', _, none⟩) hb'] at g0 g1 i0 i1
              have HNE := Lib.hid (fun h1 h2 => nodup_by HND.out hkl hx hy h1 h2)
              clear hx hy hSb hS' ea g2 g3 g4 g5 g6 g7 i2 i3 i4 i5 i6 i7 hb
              have hbl : b' < wr.heap.size := Nat.lt_of_lt_of_le hb' HBk.out.size
              cases q1 : (x.k == 1) with
              | false =>
                go_wp2_with (fail)
                go_quiet (fail)
                go_wp2_with (fail)
                go_roundw
                case rel => exact ⟨k + 1, hkl, by go_num, drewN_below HBk.out nq⟩
                case measure => simp [intOf]; omega
              | true =>
                cases q2 : (y.k == 1) with
                | false =>
                  go_wp2_with (fail)
                  go_quiet (fail)
                  go_wp2_with (fail)
                  go_roundw
                  case rel => exact ⟨k + 1, hkl, by go_num, drewN_below HBk.out nq⟩
                  case measure => simp [intOf]; omega
                | true =>
                  have q3 : (x.b == y.b) = false := by simpa using HNE.out (by simpa using q1) (by simpa using q2)
                  go_wp2_with (fail)
                  go_quiet (fail)
                  go_wp2_with (fail)
                  go_roundw
                  case rel => exact ⟨k + 1, hkl, by go_num, drewN_below HBk.out nq⟩
                  case measure => simp [intOf]; omega
            · obtain rfl : k = i := by omega
              have hkk : ¬ (k : Int) < (k : Int) := by omega
              go_wp2_with (fail)
              go_roundw
              case rel => exact ⟨k + 1, hlt, by go_num, HBk.out⟩
              case measure => simp [intOf]; omega
        · obtain rfl : i = mg := by omega
          have hii : ¬ (i : Int) < (i : Int) := by omega
          have HB7 := Lib.hid (HB6.out.trans (HBi.out.mono HB6.out.size))
          have HQ7 := Lib.hid (HQ6.out.below HBi.out HQ6.out.lt)
          have HR7 := Lib.hid (HR6.out.below HBi.out)
          have q0 := HQ7.out.cell 0
          have q1 := HQ7.out.cell 1
          have q2 := HQ7.out.cell 2
          have q3 := HQ7.out.cell 3
          have ql := HQ7.out.lt
          go_wp2_with (fail)
          refine (direct_any N0 F A m d t r f c wr (HR.out.below HB7.out) (by have := HF.out.1; omega) (HS.out.below HB7.out)).mono ?_
          rintro e w8 ⟨hb, Ba, na, ca, rfl, hra⟩
          have HB8 := Lib.hid (HB7.out.trans (hb.mono HB7.out.size))
          have HQ8 := Lib.hid (HQ7.out.below hb HQ7.out.lt)
          have HR8 := Lib.hid (HR7.out.below hb)
          have HRA := Lib.hid hra
          clear hb hra q0 q1 q2 q3 ql HQ7 HR7 HB7
          have q0 := HQ8.out.cell 0
          have q1 := HQ8.out.cell 1
          have q2 := HQ8.out.cell 2
          have q3 := HQ8.out.cell 3
          have ql := HQ8.out.lt
          obtain ⟨⟨l, lz⟩, hl⟩ : ∃ q, q = directO F t r f c := ⟨_, rfl⟩
          rw [← hl] at HRA ⊢
          go_wp2_with (fail)
          refine (direct_any N0 G Ag i dg t r f c w8 HR8.out HGZ.out (HS.out.below HB8.out)).mono ?_
          rw [HDD.out, ← hl]
          rintro e w9 ⟨hb, Bb, nb, cb, rfl, hrb⟩
          have HB9 := Lib.hid (HB8.out.trans (hb.mono HB8.out.size))
          have HRA9 := Lib.hid ((HRA.out.below hb).more hb.size)
          have HRB := Lib.hid hrb
          have HNA := Lib.hid (show na = l.length by have := HRA.out.len; simpa using this.symm)
          have hnb : nb = na := by have h1 := hrb.len; have h2 := HNA.out; simp at h1; omega
          subst hnb
          have hac := HRA9.out.cap
          have hab := HRA9.out.big
          have hbc := hrb.cap
          have hbb := hrb.big
          clear hb hrb q0 q1 q2 q3 ql HQ8 HR8 HB8 HRA hl
          go_wp2_with (fail)
          obtain ⟨wp, rfl⟩ : ∃ wp, wp = wr := ⟨_, rfl⟩
          go_loopw [15] (fun s wq => ∃ j : Nat, j ≤ nb ∧ s = .int .i64 j ∧ Hid (Below w9.heap.size w9 wq)) (fun s _ => nb - (intOf s).toNat)
          case atStart => exact ⟨0, Nat.zero_le _, rfl, Below.refl _ _⟩
          case round =>
            obtain ⟨j, hj, rfl, HBj⟩ := hrel
            by_cases hjl : j < nb
            · have hj2 : (j : Int) < (nb : Int) := by omega
              obtain ⟨ba, oa, rfl, hba, hca⟩ := HRA9.out.cells (by omega)
              obtain ⟨bb, ob, rfl, hbb2, hcb⟩ := HRB.out.cells (by omega)
              have hjl2 : j < l.length := by rw [← HNA.out]; exact hjl
              have h0 := hca j (.int .i64 l[j]) (by rw [List.getElem?_map, List.getElem?_eq_getElem hjl2]; rfl)
              have h1 := hcb j (.int .i64 l[j]) (by rw [List.getElem?_map, List.getElem?_eq_getElem hjl2]; rfl)
              rw [← HBj.out.cell (p := ⟨ba, _, none⟩) hba] at h0
              rw [← HBj.out.cell (p := ⟨bb, _, none⟩) hbb2] at h1
              generalize l[j] = y at h0 h1
              clear hca hcb hjl2
              have hla : ba < wr.heap.size := Nat.lt_of_lt_of_le hba HBj.out.size
              have hlb : bb < wr.heap.size := Nat.lt_of_lt_of_le hbb2 HBj.out.size
              have hyy : (y != y) = false := by simp
              go_wp2_with (fail)
              go_quiet (fail)
              go_wp2_with (fail)
              go_roundw
              case rel => exact ⟨j + 1, hjl, by go_num, drewN_below HBj.out nq⟩
              case measure => simp [intOf]; omega
            · obtain rfl : j = nb := by omega
              have hjj : ¬ (j : Int) < (j : Int) := by omega
              go_wp2_with (fail)
              go_ret
              exact ⟨rfl, HB9.out.trans (HBj.out.mono HB9.out.size)⟩
    · have HG0 := Lib.hid (show G = .nil by
        have h := flatO_no (F := F) (by rw [← HT.out]; exact hz)
        rw [← HT.out] at h
        exact h)
      have hm0 : mg = 0 := by have h := HRG.out.len; rw [HG0.out] at h; exact h
      subst hm0
      have hzb : (z != 0) = true := bne_iff_ne.2 hz
      clear hz
      go_wp2_with (fail)
      go_ret
      exact ⟨rfl, HB3.out⟩
end Go.Proofs.YticpjdjdimpglaaGreatDoor
