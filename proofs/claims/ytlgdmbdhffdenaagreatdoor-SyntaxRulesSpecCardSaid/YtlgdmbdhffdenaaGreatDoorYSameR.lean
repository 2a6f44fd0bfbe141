/- The reference's Same by its contract. -/
import Derived.Test.YtlgdmbdhffdenaaGreatDoorYSameS
import Derived.Test.YtlgdmbdhffdenaaGreatDoorYZones
namespace Go.Proofs.YtlgdmbdhffdenaaGreatDoor
set_option linter.unusedVariables false
set_option linter.unusedSimpArgs false
open Go.RowKit

def rulesV (r : RT) (A : Option Addr) (m c : Nat) (A' : Option Addr) (m' c' : Nat) : Value :=
  .agg #[.string (bs r.name), .int .i64 r.win, .int .i64 r.draw, .int .i64 r.loss, .slice A m c, .slice A' m' c']
theorem bs_iff {a b : List UInt8} : bs a = bs b ↔ a = b := ⟨fun h => by
  have := congrArg (fun x : ByteArray => x.data.toList) h
  simpa [bs] using this, fun h => by rw [h]⟩
theorem z_eq (a b : ZT) (l l' : List ZT) : decide (a :: l = b :: l') = (decide (bs a.name = bs b.name ∧ a.fr = b.fr ∧ a.to = b.to) && decide (l = l')) := by
  rw [← Bool.decide_and]
  obtain ⟨x, y, z⟩ := a
  obtain ⟨x', y', z'⟩ := b
  simp [bs_iff]
theorem r_eq (x y : RT) : decide (x = y) = (decide (bs x.name = bs y.name ∧ x.win = y.win ∧ x.draw = y.draw ∧ x.loss = y.loss) && (decide (x.zones = y.zones) && decide (x.order = y.order))) := by
  simp only [← Bool.decide_and]
  obtain ⟨x1, x2, x3, x4, x5, x6⟩ := x
  obtain ⟨y1, y2, y3, y4, y5, y6⟩ := y
  simp only [bs_iff, RT.mk.injEq]
  congr 1
  simp only [and_assoc, eq_iff_iff]
  constructor
  · rintro ⟨a, b, c, d, e, f⟩; exact ⟨a, b, c, d, f, e⟩
  · rintro ⟨a, b, c, d, e, f⟩; exact ⟨a, b, c, d, f, e⟩
/-- Zone k of a slice. -/
theorem Rd.zone {w : World} {B n c k : Nat} {A : Option Addr} {l : List ZT} (h : Rd w B 3 A n c (l.flatMap zoneCells)) (hk : k < n) : ∃ b off t, A = some ⟨b, off, none⟩ ∧ b < B ∧ l.drop k = t :: l.drop (k + 1) ∧
    w.cell? ⟨b, off + k * 3, none⟩ = some (.string (bs t.name)) ∧ w.cell? ⟨b, off + k * 3 + 1, none⟩ = some (.int .i64 t.fr) ∧ w.cell? ⟨b, off + k * 3 + 2, none⟩ = some (.int .i64 t.to) := by
  have hT : l.length = n := by have := h.len; rw [flatMap_len zoneCells 3 zone_len] at this; omega
  obtain ⟨b, off, e, hb, hc⟩ := h.cells (by omega)
  have hk' : k < l.length := by omega
  refine ⟨b, off, l[k], e, hb, (List.drop_eq_getElem_cons hk'), ?_, ?_, ?_⟩
  · have := hc (k * 3 + 0) (.string (bs l[k].name)) (by rw [flat_get zoneCells 3 zone_len l k 0 hk' (by omega)]; rfl)
    simpa using this
  · have := hc (k * 3 + 1) (.int .i64 l[k].fr) (by rw [flat_get zoneCells 3 zone_len l k 1 hk' (by omega)]; rfl)
    rwa [← Nat.add_assoc] at this
  · have := hc (k * 3 + 2) (.int .i64 l[k].to) (by rw [flat_get zoneCells 3 zone_len l k 2 hk' (by omega)]; rfl)
    rwa [← Nat.add_assoc] at this
set_option maxHeartbeats 4000000 in
set_option maxRecDepth 100000 in
theorem same_any (S S' : Nat → Prop) (x y : RT) (A A' C C' : Option Addr) (m c m' c' i j i' j' : Nat) (w : World) (h1 : RepT S w x.order A m c) (h2 : RepT S' w y.order A' m' c') (h3 : RepZ S w x.zones C i j) (h4 : RepZ S' w y.zones C' i' j') :
    Calls Tryz.prog 15 #[rulesV x A m c C i j, rulesV y A' m' c' C' i' j'] w fun e w' => e = .returned (.bool (decide (x = y))) ∧ Below w.heap.size w w' := by
  have H1 := Lib.hid h1
  have H2 := Lib.hid h2
  have H3 := Lib.hid h3.1
  have H4 := Lib.hid h4.1
  have HI := Lib.hid (show x.zones.length = i by have := h3.1.len; rw [flatMap_len zoneCells 3 zone_len] at this; omega)
  have HI' := Lib.hid (show y.zones.length = i' by have := h4.1.len; rw [flatMap_len zoneCells 3 zone_len] at this; omega)
  have hcap1 := h3.1.cap
  have hcap2 := h4.1.cap
  have hbig1 := h3.1.big
  have hbig2 := h4.1.big
  clear h1 h2 h3 h4
  obtain ⟨r, HR⟩ : ∃ r, Hid (r = decide (x = y)) := ⟨_, Lib.hid rfl⟩
  rw [← HR.out]
  have HR' := Lib.hid (HR.out.trans (r_eq x y))
  clear HR
  unfold rulesV
  obtain ⟨n1, x1, x2, x3, o1, z1⟩ := x
  obtain ⟨n2, y1, y2, y3, o2, z2⟩ := y
  simp only at H1 H2 H3 H4 HI HI' HR' ⊢
  generalize bs n1 = N1 at *
  generalize bs n2 = N2 at *
  have HB := Lib.hid (((Below.refl w.heap.size w).alloc (Nat.le_refl _) (.cells #[.string N1, .int .i64 x1, .int .i64 x2, .int .i64 x3, .slice A m c, .slice C i j] 28)).alloc (by simp) (.cells #[.string N2, .int .i64 y1, .int .i64 y2, .int .i64 y3, .slice A' m' c', .slice C' i' j'] 28))
  by_cases hk : (N1 = N2 ∧ x1 = y1 ∧ x2 = y2 ∧ x3 = y3) ∧ i = i'
  · obtain ⟨⟨rfl, rfl, rfl, rfl⟩, rfl⟩ := hk
    rw [decide_eq_true ⟨rfl, rfl, rfl, rfl⟩, Bool.true_and] at HR'
    go_enter Tryz.func15, Tryz.ntmps15
    go_wp2_with (fail)
    first | (refine calls_named ?_; intro W0 hW0) | (refine body_named ?_; intro W0 hW0) | (refine wpList_named ?_; intro W0 hW0) | (refine wp_named ?_; intro W0 hW0)
    have hx0 : Blk W0 w.heap.size 28 #[.string N1, .int .i64 x1, .int .i64 x2, .int .i64 x3, .slice A m c, .slice C i j] := by rw [← hW0]; exact (Blk.new w _ _).alloc _
    have hy0 : Blk W0 (w.heap.size + 1) 28 #[.string N1, .int .i64 x1, .int .i64 x2, .int .i64 x3, .slice A' m' c', .slice C' i j'] := by rw [← hW0, ← World.size_alloc]; exact Blk.new _ _ _
    have hb0 : Below w.heap.size w W0 := by rw [← hW0]; exact ((Below.refl _ _).alloc (Nat.le_refl _) _).alloc (by simp) _
    clear hW0 HB
    have HX := Lib.hid hx0
    have HY := Lib.hid hy0
    have HB0 := Lib.hid hb0
    have f5 := hx0.cell 5
    have g5 := hy0.cell 5
    clear hx0 hy0 hb0
    go_loopw [5] (fun s wr => ∃ (k : Nat), k ≤ i ∧ s = .int .i64 k ∧ Hid (Below w.heap.size w wr) ∧ Hid (Blk wr w.heap.size 28 #[.string N1, .int .i64 x1, .int .i64 x2, .int .i64 x3, .slice A m c, .slice C i j]) ∧ Hid (Blk wr (w.heap.size + 1) 28 #[.string N1, .int .i64 x1, .int .i64 x2, .int .i64 x3, .slice A' m' c', .slice C' i j']) ∧
      Hid (r = (decide (z1.drop k = z2.drop k) && decide (o1 = o2)))) (fun s _ => i - (intOf s).toNat)
    case atStart => exact ⟨0, Nat.zero_le _, rfl, HB0.out, HX.out, HY.out, HR'.out⟩
    case round =>
      obtain ⟨k, hki, rfl, HB, HXr, HYr, HRR⟩ := hrel
      clear f5 g5
      have f5 := HXr.out.cell 5
      have g5 := HYr.out.cell 5
      by_cases hlt : k < i
      · obtain ⟨b1, p1, t1, rfl, hb1, hd1, a0, a1, a2⟩ := H3.out.zone hlt
        obtain ⟨b2, p2, t2, rfl, hb2, hd2, e0, e1, e2⟩ := H4.out.zone hlt
        rw [← HB.out.cell hb1] at a0 a1 a2
        rw [← HB.out.cell hb2] at e0 e1 e2
        have HRn := Lib.hid (HRR.out.trans (by rw [hd1, hd2, z_eq, Bool.and_assoc]))
        clear HRR hd1 hd2
        obtain ⟨s1, u1, v1⟩ := t1
        obtain ⟨s2, u2, v2⟩ := t2
        simp only at a0 a1 a2 e0 e1 e2 HRn
        generalize bs s1 = M1 at *
        generalize bs s2 = M2 at *
        by_cases hk : M1 = M2 ∧ u1 = u2 ∧ v1 = v2
        · obtain ⟨rfl, rfl, rfl⟩ := hk
          rw [decide_eq_true ⟨rfl, rfl, rfl⟩, Bool.true_and] at HRn
          go_wp2_with (fail)
          go_quiet (fail)
          go_wp2_with (fail)
          go_roundw
          case rel => exact ⟨k + 1, by omega, by go_num, Lib.hid (HB.out.trans (bdrew _ _)), Lib.hid (HXr.out.drewN _), Lib.hid (HYr.out.drewN _), HRn.out⟩
          case measure => simp [intOf]; omega
        · by_cases hM : M1 = M2
          · subst hM
            by_cases hu : u1 = u2
            · subst hu
              have hv : ¬ v1 = v2 := fun e => hk ⟨rfl, rfl, e⟩
              have HRf := Lib.hid (show r = false by rw [HRn.out, decide_eq_false hk, Bool.false_and])
              clear HRn
              go_wp2_with (fail)
              go_quiet (fail)
              go_wp2_with (fail)
              go_ret
              exact ⟨congrArg (fun b => Ending.returned (Value.bool b)) HRf.out.symm, HB.out.trans (bdrew _ _)⟩
            · have hu2 := hu
              have HRf := Lib.hid (show r = false by rw [HRn.out, decide_eq_false hk, Bool.false_and])
              clear HRn
              go_wp2_with (fail)
              go_quiet (fail)
              go_wp2_with (fail)
              go_ret
              exact ⟨congrArg (fun b => Ending.returned (Value.bool b)) HRf.out.symm, HB.out.trans (bdrew _ _)⟩
          · have hM' : ¬ M1.toList = M2.toList := fun e => hM (by rw [Lib.toList_data, Lib.toList_data] at e; exact ByteArray.ext (Array.toList_inj.1 e))
            have HRf := Lib.hid (show r = false by rw [HRn.out, decide_eq_false hk, Bool.false_and])
            clear HRn
            go_wp2_with (fail)
            go_quiet (fail)
            go_wp2_with (fail)
            go_ret
            exact ⟨congrArg (fun b => Ending.returned (Value.bool b)) HRf.out.symm, HB.out.trans (bdrew _ _)⟩
      · have HRt := Lib.hid (show r = decide (o1 = o2) by
          rw [HRR.out, List.drop_eq_nil_of_le (by have := HI.out; omega), List.drop_eq_nil_of_le (by have := HI'.out; omega), decide_eq_true rfl, Bool.true_and])
        have f4 := HXr.out.cell 4
        have g4 := HYr.out.cell 4
        have lf : Only (fun _ => False) w wr := Only.of_below HB.out
        go_wp2_with (fail)
        refine (samesteps_any S S' o1 o2 A A' m c m' c' wr (H1.out.only lf (fun _ h => h.elim)) (H2.out.only lf (fun _ h => h.elim))).mono ?_
        rintro e w3 ⟨rfl, hb3⟩
        have HB3 := Lib.hid (HB.out.trans (hb3.mono HB.out.size))
        clear lf hb3 f4 g4 f5 g5
        rw [← HRt.out]
        go_wp2_with (fail)
        go_ret
        exact ⟨rfl, HB3.out⟩
  · have HF := Lib.hid (show r = false by
      rw [HR'.out]
      by_cases ha : N1 = N2 ∧ x1 = y1 ∧ x2 = y2 ∧ x3 = y3
      · rw [decide_eq_false (p := z1 = z2) (fun e => hk ⟨ha, by have a := HI.out; have b := HI'.out; rw [e] at a; omega⟩), Bool.false_and, Bool.and_false]
      · rw [decide_eq_false ha, Bool.false_and])
    clear HR'
    go_enter Tryz.func15, Tryz.ntmps15
    go_wp2_with (fail)
    all_goals first
      | (go_ret; exact ⟨congrArg (fun b => Ending.returned (Value.bool b)) HF.out.symm, ((Below.refl _ _).alloc (Nat.le_refl _) _).alloc (by simp) _⟩)
      | (exfalso; apply hk; rename (_ != _) = false => h; rename N1.toList = N2.toList => h2; rw [Lib.toList_data, Lib.toList_data] at h2; exact ⟨⟨ByteArray.ext (Array.toList_inj.1 h2), by assumption, by assumption, by assumption⟩, by simp at h; omega⟩)
end Go.Proofs.YtlgdmbdhffdenaaGreatDoor
