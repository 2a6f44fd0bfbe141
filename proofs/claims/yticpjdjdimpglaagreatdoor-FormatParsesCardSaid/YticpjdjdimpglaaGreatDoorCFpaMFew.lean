/- The reference's FewRules by its contract. -/
import Derived.Test.YticpjdjdimpglaaGreatDoorCFpaMCnS
import Derived.Test.YticpjdjdimpglaaGreatDoorCFpaMRLen
namespace Go.Proofs.YticpjdjdimpglaaGreatDoor
set_option linter.unusedVariables false
set_option linter.unusedSimpArgs false
open Go.RowKit
/-- Rules that are small enough for the statements. -/
def FewR (r : RT) : Prop := r.name.length ≤ 200 ∧ r.zones.length ≤ 20 ∧ Few120 r.order ∧ ∀ z ∈ r.zones, z.name.length ≤ 200
def FewRP (r : RT) (w : World) (e : Ending) (w' : World) : Prop := Below w.heap.size w w' ∧ ∃ b : Bool, e = .returned (.bool b) ∧ (b = true → FewR r)
set_option maxHeartbeats 4000000 in
set_option maxRecDepth 100000 in
theorem fewrules_go (S S' : Nat → Prop) (r : RT) (A : Option Addr) (m d : Nat) (C : Option Addr) (n c : Nat) (w : World) (h1 : RepT S w r.order A m d) (h2 : RepZ S' w r.zones C n c) :
    Calls Tryz.prog 12 #[rV r A m d C n c] w (FewRP r w) := by
  have HF := Lib.hid (fun W (hW : Below w.heap.size w W) => fewsteps_any S r.order A m d W (h1.below hW))
  have HZ := Lib.hid h2
  have HL := Lib.hid h2.len
  have hc := h2.1.cap
  have hb := h2.1.big
  clear h1 h2
  unfold rV
  obtain ⟨nm, w1, w2, w3, od, zs⟩ := r
  dsimp only at HF HZ HL ⊢
  go_enter Tryz.func12, Tryz.ntmps12
  by_cases hn : (200 : Int) < (nm.length : Int)
  · go_wp2_with (fail)
    first | (refine calls_named ?_; intro W hW) | (refine body_named ?_; intro W hW) | (refine wpList_named ?_; intro W hW) | (refine wp_named ?_; intro W hW)
    have hb : Below w.heap.size w W := by rw [← hW]; exact (Below.refl _ _).alloc (Nat.le_refl _) _
    clear hW
    go_ret
    exact ⟨hb, false, rfl, fun h => by cases h⟩
  have HN := Lib.hid hn
  by_cases hz : (20 : Int) < (n : Int)
  · go_wp2_with (fail)
    first | (refine calls_named ?_; intro W hW) | (refine body_named ?_; intro W hW) | (refine wpList_named ?_; intro W hW) | (refine wp_named ?_; intro W hW)
    have hb : Below w.heap.size w W := by rw [← hW]; exact (Below.refl _ _).alloc (Nat.le_refl _) _
    clear hW
    go_ret
    exact ⟨hb, false, rfl, fun h => by cases h⟩
  have HNZ := Lib.hid hz
  go_wp2_with (fail)
  first | (refine calls_named ?_; intro W hW) | (refine body_named ?_; intro W hW) | (refine wpList_named ?_; intro W hW) | (refine wp_named ?_; intro W hW)
  have hb : Below w.heap.size w W := by rw [← hW]; exact (Below.refl _ _).alloc (Nat.le_refl _) _
  have hx : Blk W w.heap.size 28 #[.string (bs nm), .int .i64 w1, .int .i64 w2, .int .i64 w3, .slice A m d, .slice C n c] := by rw [← hW]; exact Blk.new _ _ _
  clear hW
  have HB := Lib.hid hb
  have HX := Lib.hid hx
  clear hb hx
  refine (HF.out W HB.out).mono ?_
  rintro e' w4 ⟨hb3, b, rfl, hf⟩
  have HB3 := Lib.hid (HB.out.trans (hb3.mono HB.out.size))
  have HX3 := Lib.hid (HX.out.below hb3 HX.out.lt)
  have HF3 := Lib.hid hf
  clear hb3 HB HX hf
  have xl := HX3.out.lt
  have x5 := HX3.out.cell 5
  cases b
  · go_wp2_with (fail)
    go_ret
    exact ⟨HB3.out, false, rfl, fun h => by cases h⟩
  go_wp2_with (fail)
  clear x5
  go_loopw [3] (fun q wr => ∃ k : Nat, k ≤ n ∧ q = .int .i64 k ∧ Hid (Below w4.heap.size w4 wr) ∧ Hid (∀ z ∈ zs.take k, z.name.length ≤ 200)) (fun q _ => n - (intOf q).toNat)
  case atStart => exact ⟨0, Nat.zero_le _, rfl, Below.refl _ _, fun z hz => by cases hz⟩
  case round =>
    obtain ⟨k, hkn, rfl, HBk, HC⟩ := hrel
    have HBw := Lib.hid (HB3.out.trans (HBk.out.mono HB3.out.size))
    have hx := HX3.out.below HBk.out xl
    have x5 := hx.cell 5
    have xl2 := hx.lt
    clear hx
    by_cases hlt : k < n
    · obtain ⟨b, off, x, rfl, hb, hS, hx, g0, g1, g2⟩ := HZ.out.elem hlt
      rw [← HBw.out.cell (p := ⟨b, _, none⟩) hb] at g0
      have hbl : b < wr.heap.size := Nat.lt_of_lt_of_le hb HBw.out.size
      have HXI := Lib.hid hx
      clear hx hS g1 g2
      have hlt2 : (k : Int) < (n : Int) := by omega
      by_cases hzl : (200 : Int) < (x.name.length : Int)
      · go_wp2_with (fail)
        go_ret
        exact ⟨HBw.out, false, rfl, fun h => by cases h⟩
      · have HZL := Lib.hid hzl
        go_wp2_with (fail)
        go_roundw
        case rel => exact ⟨k + 1, hlt, by go_num, HBk.out, by
          refine Lib.hid ?_
          intro z hz
          rw [List.take_add_one, HXI.out] at hz
          rcases List.mem_append.1 hz with hz | hz
          · exact HC.out z hz
          · have h1 : z = x := by simpa using hz
            have := HZL.out
            rw [h1]; omega⟩
        case measure => simp [intOf]; omega
    · go_wp2_with (fail)
      go_ret
      exact ⟨HBw.out, true, rfl, fun _ => ⟨by show nm.length ≤ 200; have := HN.out; omega, by show zs.length ≤ 20; have := HNZ.out; have := HL.out; omega, by have h := HF3.out; simpa using h, fun z hz => HC.out z (by
        rw [List.take_of_length_le (by have := HL.out; omega)]
        exact hz)⟩⟩
theorem fewrules_any (S S' : Nat → Prop) (r : RT) (A : Option Addr) (m d : Nat) (C : Option Addr) (n c : Nat) (w : World) (h1 : RepT S w r.order A m d) (h2 : RepZ S' w r.zones C n c) :
    Calls Tryz.prog 12 #[rV r A m d C n c] w fun e w' => Below w.heap.size w w' ∧ ∃ b : Bool, e = .returned (.bool b) ∧ (b = true → FewR r) :=
  (fewrules_go S S' r A m d C n c w h1 h2).mono fun _ _ h => h
end Go.Proofs.YticpjdjdimpglaaGreatDoor
