/- The reference's Quoted by its contract. -/
import Derived.Test.YtbfgmbijmdbcmaaGreatDoorQuoted
namespace Go.Proofs.YtbfgmbijmdbcmaaGreatDoor
set_option linter.unusedVariables false
set_option linter.unusedSimpArgs false
open Go.RowKit

set_option maxHeartbeats 400000 in
theorem rquoted_not (A : Option Addr) (n c : Nat) (l : List UInt8) (w : World) (h : Rd w w.heap.size 1 A n c (l.map vb)) (h0 : n = 0 ∨ ¬ bt l 0 = 34) :
    Calls Tryz.prog 48 #[.slice A n c] w fun e w' => e = .returned (.tuple #[.string ⟨#[]⟩, .int .i64 0]) ∧ w = w' := by
  by_cases hz : n = 0
  · have e1 : ((n : Int) == 0) = true := by rw [beq_iff_eq]; omega
    clear hz h0
    go_enter Tryz.func48, Tryz.ntmps48
    go_wp2
    go_ret2
    exact ⟨rfl, rfl⟩
  · have h1 : ¬ bt l 0 = 34 := by omega
    obtain ⟨b, off, rfl, hb, hc⟩ := h.byte (k := 0) (by omega)
    rw [Nat.add_zero] at hc
    have e1 : ((n : Int) == 0) = false := by rw [beq_eq_false_iff_ne]; omega
    have e2 := nnb (a := bt l 0) (m := 34) (by omega)
    have hn0 : 0 < n := by omega
    clear hz h0 h1
    go_enter Tryz.func48, Tryz.ntmps48
    go_wp2
    go_ret2
    exact ⟨rfl, rfl⟩

theorem own_empty (w : World) (B : Nat) (hB : B ≤ w.heap.size) : (w.alloc (.cells #[] 5)).ownsRow B 5 1 (.slice (some ⟨w.heap.size, 0, none⟩) 0 0) 0 [] :=
  World.ownsRow_made w #[] 0 hB (by unfold maxLen; omega) rfl

set_option maxHeartbeats 2000000 in
set_option maxRecDepth 100000 in
theorem rquoted_any (A : Option Addr) (n c : Nat) (l : List UInt8) (w : World) (h : Rd w w.heap.size 1 A n c (l.map vb)) (h0 : 1 ≤ n) (hn : n ≤ 70000) (hq : bt l 0 = 34) :
    Calls Tryz.prog 48 #[.slice A n c] w (QRet l w) := by
  have hlen := h.blen
  have hcap := h.cap
  have hbig := h.big
  subst hlen
  obtain ⟨b, off, rfl, hb, hc⟩ := h.byte (k := 0) (by omega)
  rw [Nat.add_zero] at hc
  have e1 : ((l.length : Int) == 0) = false := by rw [beq_eq_false_iff_ne]; omega
  have e2 := ynb (a := bt l 0) (m := 34) (by omega)
  have HO := Lib.hid (own_empty w w.heap.size (Nat.le_refl _))
  have Hq := Lib.hid hq
  clear hq
  go_enter Tryz.func48, Tryz.ntmps48
  go_wp2
  clear hc e1 e2
  go_loopw [4, 5, 6] (fun out i _ wr => ∃ (A' : Option Addr) (c' k : Nat) (xs : List UInt8), i = .int .i64 k ∧ 1 ≤ k ∧ k ≤ l.length ∧ out = .slice A' xs.length c' ∧ xs.length ≤ k ∧ Hid (wr.ownsRow w.heap.size 5 1 (.slice A' xs.length c') xs.length (xs.map vb)) ∧ Hid (QInv l k xs) ∧ Hid (Below w.heap.size w wr)) (fun _ i _ _ => l.length - (intOf i).toNat)
  case atStart => exact ⟨_, 0, 1, [], rfl, Nat.le_refl _, h0, rfl, by simp, HO.out, QInv.start l, (Below.refl _ _).alloc (Nat.le_refl _) _⟩
  case round =>
    obtain ⟨A', c', k, xs, rfl, hk1, hk2, rfl, hxk, Hown, HQ, HB⟩ := hrel
    have hr := h.below HB.out
    by_cases hlt : k < l.length
    · obtain ⟨b', off', he, hb', hc⟩ := hr.byte (k := k) hlt
      injection he with he
      injection he with he1 he2
      subst he1 he2
      by_cases h34 : bt l k = 34
      · have HR := Lib.hid (HQ.out.found hk1 (qs_end hlt h34))
        have e1 := yb (a := bt l k) (m := 34) (by omega)
        have hcv := (own_rd Hown.out).conv (P := Tryz.prog) Tryz.underlying22 Tryz.underlying5 Tryz.underlying9 c'
        clear hr h34
        go_wp2
        go_ret2
        exact QRet.mk' HR.out HB.out
      · have e1 := nb (a := bt l k) (m := 34) (by omega)
        by_cases hbad : bt l k < 32 ∨ 126 < bt l k
        · have HR := Lib.hid (HQ.out.none (qs_bad hlt hbad))
          have hbad' : (bt l k : Int) < 32 ∨ (¬ (bt l k : Int) < 32 ∧ 126 < (bt l k : Int)) := by omega
          clear hr h34 hbad
          rcases hbad' with hx | ⟨hx, hy⟩
          all_goals
            go_wp2
            go_ret2
            exact QRet.mk' HR.out HB.out
        · have g1 : ¬ (bt l k : Int) < 32 := by omega
          have g2 : ¬ 126 < (bt l k : Int) := by omega
          have hbe := Lib.hid HB.out.size
          by_cases h92 : bt l k = 92
          · have e2 := ynb (a := bt l k) (m := 92) (by omega)
            by_cases hk1' : k + 1 < l.length
            · obtain ⟨b', off', he, hb', hc'⟩ := hr.byte (k := k + 1) hk1'
              injection he with he
              injection he with he1 he2
              subst he1 he2
              have hlt2 := bt_lt l (k + 1)
              have e3 : (((k : Int) + 1) == (l.length : Int)) = false := by rw [beq_eq_false_iff_ne]; omega
              by_cases hd : bt l (k + 1) = 34 ∨ bt l (k + 1) = 92
              · have HQn := Lib.hid (HQ.out.step hk1 (UInt8.ofNat (bt l (k + 1))) 2 (by omega) (qs_esc hk1' h92 hd))
                have hd' : ((bt l (k + 1) : Int) == 34) = true ∨ (((bt l (k + 1) : Int) == 34) = false ∧ ((bt l (k + 1) : Int) == 92) = true) := by
                  rcases hd with hd | hd
                  · exact .inl (yb (by omega))
                  · exact .inr ⟨nb (by omega), yb (by omega)⟩
                clear hr h34 hbad h92 hd
                rcases hd' with e4 | ⟨e4, e5⟩
                all_goals
                  go_wp2_with (at_builtin; refine wpList_push elemByte rfl (.tmp 69) (.tmp 75) rfl w.heap.size A' xs.length c' (xs.map vb) rfl (Hown.out.alloc _) _ rfl [.int .u8 (bt l (k + 1) : Int)] rfl (new_cells _ _ _) (by intro u hu; simp at hu; subst hu; rfl) (by omega) (by omega) (by have := hbe.out; simp; omega) ?_; intro A1 c1 w1 hown1 hb1 hg1)
                  go_roundw
                  case rel => exact ⟨A1, c1, k + 2, xs ++ [UInt8.ofNat (bt l (k + 1))], by go_num, by omega, by omega, slice_eq (by simp), by simp; omega, own_snoc _ _ (bt_of l (k + 1)) hown1, HQn.out, (HB.out.alloc HB.out.size _).trans hb1⟩
                  case measure => simp [intOf]; omega
              · have e4 := nb (a := bt l (k + 1)) (m := 34) (by omega)
                have e5 := nb (a := bt l (k + 1)) (m := 92) (by omega)
                by_cases h110 : bt l (k + 1) = 110
                · have HQn := Lib.hid (HQ.out.step hk1 10 2 (by omega) (qs_esc_n hk1' h92 h110))
                  have e6 := yb (a := bt l (k + 1)) (m := 110) (by omega)
                  clear hr h34 hbad h92 hd h110
                  go_wp2_with (at_builtin; refine wpList_push elemByte rfl (.tmp 86) (.tmp 87) rfl w.heap.size A' xs.length c' (xs.map vb) rfl (Hown.out.alloc _) _ rfl [.int .u8 10] rfl (new_cells _ _ _) (by intro u hu; simp at hu; subst hu; rfl) (by omega) (by omega) (by have := hbe.out; simp; omega) ?_; intro A1 c1 w1 hown1 hb1 hg1)
                  go_roundw
                  case rel => exact ⟨A1, c1, k + 2, xs ++ [10], by go_num, by omega, by omega, slice_eq (by simp), by simp; omega, own_snoc _ _ rfl hown1, HQn.out, (HB.out.alloc HB.out.size _).trans hb1⟩
                  case measure => simp [intOf]; omega
                · have HR := Lib.hid (HQ.out.none (qs_esc_no hk1' h92 hd h110))
                  have e6 := nb (a := bt l (k + 1)) (m := 110) (by omega)
                  clear hr h34 hbad h92 hd h110
                  go_wp2
                  go_ret2
                  exact QRet.mk' HR.out HB.out
            · have HR := Lib.hid (HQ.out.none (qs_esc_out hlt h92 (by omega)))
              have e3 : (((k : Int) + 1) == (l.length : Int)) = true := by rw [beq_iff_eq]; omega
              clear hr h34 hbad h92
              go_wp2
              go_ret2
              exact QRet.mk' HR.out HB.out
          · have e2 := nnb (a := bt l k) (m := 92) (by omega)
            have HQn := Lib.hid (HQ.out.step hk1 (UInt8.ofNat (bt l k)) 1 (Nat.le_refl _) (qs_plain hlt ⟨by omega, by omega, h34, h92⟩))
            clear hr h34 hbad h92
            go_wp2_with (at_builtin; refine wpList_push elemByte rfl (.tmp 44) (.tmp 46) rfl w.heap.size A' xs.length c' (xs.map vb) rfl (Hown.out.alloc _) _ rfl [.int .u8 (bt l k : Int)] rfl (new_cells _ _ _) (by intro u hu; simp at hu; subst hu; rfl) (by omega) (by omega) (by have := hbe.out; simp; omega) ?_; intro A1 c1 w1 hown1 hb1 hg1)
            go_roundw
            case rel => exact ⟨A1, c1, k + 1, xs ++ [UInt8.ofNat (bt l k)], by go_num, by omega, by omega, slice_eq (by simp), by simp; omega, own_snoc _ _ (bt_of l k) hown1, HQn.out, (HB.out.alloc HB.out.size _).trans hb1⟩
            case measure => simp [intOf]; omega
    · have HR := Lib.hid (HQ.out.none (qs_out (by omega)))
      clear hr
      go_wp2
      go_ret2
      exact QRet.mk' HR.out HB.out
end Go.Proofs.YtbfgmbijmdbcmaaGreatDoor
