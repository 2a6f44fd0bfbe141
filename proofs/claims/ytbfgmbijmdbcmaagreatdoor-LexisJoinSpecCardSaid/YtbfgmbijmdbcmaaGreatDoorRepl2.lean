/- strings.(*Replacer).build at the six strings: the walk. -/
import Derived.Test.YtbfgmbijmdbcmaaGreatDoorRepl1
namespace Go.Proofs.YtbfgmbijmdbcmaaGreatDoor
set_option linter.unusedVariables false
set_option linter.unusedSimpArgs false
open Go.RowKit

/-- The slices of the replacer's rows. -/
def rw2 (p : Nat × Nat) : Value := .slice (some ⟨p.1, 0, none⟩) 2 p.2
/-- The table behind k rounds. -/
def tabK (k r1 r2 r3 d1 d2 d3 : Nat) : Nat → Value :=
  match k with
  | 0 => fun _ => nilS
  | 1 => fun j => if j = 10 then rw2 (r3, d3) else nilS
  | 2 => fun j => if j = 92 then rw2 (r2, d2) else if j = 10 then rw2 (r3, d3) else nilS
  | _ => fun j => if j = 34 then rw2 (r1, d1) else if j = 92 then rw2 (r2, d2) else if j = 10 then rw2 (r3, d3) else nilS
def strK : Nat → List Value
  | 0 => []
  | 1 => [.string ⟨#[10]⟩]
  | 2 => [.string ⟨#[10]⟩, .string ⟨#[92]⟩]
  | _ => [.string ⟨#[10]⟩, .string ⟨#[92]⟩, .string ⟨#[34]⟩]
def rowK (k r1 r2 r3 : Nat) : List (Nat × List UInt8) :=
  match k with
  | 0 => []
  | 1 => [(r3, esc1 10)]
  | 2 => [(r2, esc1 92), (r3, esc1 10)]
  | _ => [(r1, esc1 34), (r2, esc1 92), (r3, esc1 10)]
def capK (k d1 d2 d3 : Nat) : Prop :=
  match k with
  | 0 => True
  | 1 => 2 ≤ d3 ∧ d3 ≤ 9223372036854775807
  | 2 => (2 ≤ d2 ∧ d2 ≤ 9223372036854775807) ∧ 2 ≤ d3 ∧ d3 ≤ 9223372036854775807
  | _ => (2 ≤ d1 ∧ d1 ≤ 9223372036854775807) ∧ (2 ≤ d2 ∧ d2 ≤ 9223372036854775807) ∧ 2 ≤ d3 ∧ d3 ≤ 9223372036854775807
def lkv : Nat → Int | 0 => 4 | 1 => 2 | 2 => 0 | _ => -2

set_option pp.deepTerms true in
set_option maxHeartbeats 4000000 in
set_option maxRecDepth 100000 in
theorem build_any (r o oc : Nat) (w : World) (hr : w.cell? ⟨r, 4, none⟩ = some (.slice (some ⟨o, 0, none⟩) 6 oc)) (hoc : 6 ≤ oc) (hob : oc ≤ 9223372036854775807)
    (h0 : w.cell? ⟨o, 0, none⟩ = some (.string ⟨#[34]⟩)) (h1 : w.cell? ⟨o, 1, none⟩ = some (.string ⟨#[92, 34]⟩)) (h2 : w.cell? ⟨o, 2, none⟩ = some (.string ⟨#[92]⟩)) (h3 : w.cell? ⟨o, 3, none⟩ = some (.string ⟨#[92, 92]⟩)) (h4 : w.cell? ⟨o, 4, none⟩ = some (.string ⟨#[10]⟩)) (h5 : w.cell? ⟨o, 5, none⟩ = some (.string ⟨#[92, 110]⟩)) :
    Calls Tryz.prog 68 #[.pointer (some ⟨r, 0, none⟩)] w fun e w' => ∃ g r1 r2 r3 d1 d2 d3 o' oc', e = .returned (.iface 117 (.pointer (some ⟨g, 0, none⟩))) ∧ Below w.heap.size w w' ∧ BS w' w'.heap.size g r1 r2 r3 d1 d2 d3 o' oc' := by
  have hnil : ∀ W : World, (binOp .eql 22 (.slice none 0 0) (.slice none 0 0)).run Tryz.prog W = .ok (.bool true) W := fun _ => rfl
  have b10 : ((⟨#[10]⟩ : ByteArray)[0]'(by decide)).toNat = 10 := rfl
  have b92 : ((⟨#[92]⟩ : ByteArray)[0]'(by decide)).toNat = 92 := rfl
  have b34 : ((⟨#[34]⟩ : ByteArray)[0]'(by decide)).toNat = 34 := rfl
  have hr' : w.cell? ⟨r, 0 + 4, none⟩ = some (.slice (some ⟨o, 0, none⟩) 6 oc) := hr
  go_enter Tryz.func68, Tryz.ntmps68
  go_wp2_with (fail)
  go_loopw [4, 5] (fun s4 s5 wr => Hid (w = wr) ∧ ((s5 = .int .i64 0 ∧ s4 = .bool true) ∨ (s5 = .int .i64 2 ∧ s4 = .bool false) ∨ (s5 = .int .i64 4 ∧ s4 = .bool false) ∨ (s5 = .int .i64 6 ∧ s4 = .bool false))) (fun _ s5 _ => 6 - (intOf s5).toNat)
  case atStart => exact ⟨rfl, .inl ⟨rfl, rfl⟩⟩
  case round =>
    obtain ⟨hw, hc⟩ := hrel
    have hw' := hw.out
    subst hw'
    clear hw
    rcases hc with ⟨rfl, rfl⟩ | ⟨rfl, rfl⟩ | ⟨rfl, rfl⟩ | ⟨rfl, rfl⟩
    · go_wp2
      go_roundw
      case rel => exact ⟨by first | exact rfl | exact trivial, .inr (.inl ⟨rfl, rfl⟩)⟩
      case measure => simp [intOf]
    · go_wp2
      go_roundw
      case rel => exact ⟨by first | exact rfl | exact trivial, .inr (.inr (.inl ⟨rfl, rfl⟩))⟩
      case measure => simp [intOf]
    · go_wp2
      go_roundw
      case rel => exact ⟨by first | exact rfl | exact trivial, .inr (.inr (.inr ⟨rfl, rfl⟩))⟩
      case measure => simp [intOf]
    · obtain ⟨ie, hi1, hi2, hi3, hi4⟩ := info_parts (P := Tryz.prog) (e := 9) (z := .string ⟨#[]⟩) (size := 1) (bytes := 16) (by kernel_rfl)
      have Hhi := Lib.hid (And.intro hi1 (And.intro hi2 (And.intro hi3 hi4)))
      clear hi1 hi2 hi3 hi4
      have hz : Tryz.zeroCells116 = bsc (fun _ => nilS) nilS := by kernel_rfl
      have Hz := Lib.hid hz
      clear hz
      go_wp2_with (first
        | (at_make; go_must (refine wpList_make_own _ rfl _ _ 70 rfl w.heap.size 9 ie (.string ⟨#[]⟩) 1 Tryz.underlying70 Hhi.out.1 Hhi.out.2.1 Hhi.out.2.2.1 _ _ _ 3 rfl rfl rfl (by rw [Hhi.out.2.2.2]; omega) (by unfold maxLen; omega) (Nat.le_refl _) ?_; intro w1 hown1 hg1))
        | (refine wpList_store_row rfl 116 (.tmp 11) (.tmp 95) rfl w1.heap.size rfl (bsc (fun _ => nilS) (.slice (some ⟨w.heap.size, 0, none⟩) 0 3)) Tryz.zeroCells116 (by show Value.agg _ = Value.agg _; rw [Hz.out, bsc_set_last]) 116 (Blk.new _ _ _) (by rw [Hz.out]; simp [bsc_size]) (by rw [bsc_size]; exact info_bsr) (bsc_one _ _ (fun _ => rfl) rfl) ?_))
      have hs0 : Hid (BSt w ((w1.alloc (.cells Tryz.zeroCells116 116)).setRow w1.heap.size (bsc (fun _ => nilS) (.slice (some ⟨w.heap.size, 0, none⟩) 0 3))) w1.heap.size (fun _ => nilS) (.slice (some ⟨w.heap.size, 0, none⟩) 0 3) (some ⟨w.heap.size, 0, none⟩) 0 3 [] []) := by
        have hb1 : Below w.heap.size w w1 := (Below.refl _ w).grown hg1 (Nat.le_refl _) (fun k hk => by cases hk)
        have hb2 : Below w1.heap.size w1 ((w1.alloc (.cells Tryz.zeroCells116 116)).setRow w1.heap.size (bsc (fun _ => nilS) (.slice (some ⟨w.heap.size, 0, none⟩) 0 3))) := Below.setRow ((Below.refl _ w1).alloc (Nat.le_refl _) _) (Nat.le_refl _) _
        exact ⟨(Blk.new _ _ _).setRow _, own_below_all hown1 hb2, (fun p hp => by cases hp), hb1.trans (hb2.mono hb1.size), hb1.size⟩
      generalize (w1.alloc (.cells Tryz.zeroCells116 116)).setRow w1.heap.size (bsc (fun _ => nilS) (.slice (some ⟨w.heap.size, 0, none⟩) 0 3)) = W at hs0 ⊢
      generalize hG : w1.heap.size = g at hs0 ⊢
      clear hG hown1 hg1 Hz Hhi
      go_loopw [12, 13, 14] (fun s12 s13 s14 wr => ∃ (k : Nat) (A : Option Addr) (c : Nat) (r1 r2 r3 d1 d2 d3 : Nat), k ≤ 3 ∧ s12 = .int .i64 (lkv k) ∧
          Hid (BSt w wr g (tabK k r1 r2 r3 d1 d2 d3) (.slice A k c) A k c (strK k) (rowK k r1 r2 r3)) ∧ Hid (k ≤ c ∧ c ≤ 9223372036854775807) ∧ Hid (capK k d1 d2 d3)) (fun s12 _ _ _ => (intOf s12 + 2).toNat)
      case atStart => exact ⟨0, some ⟨w.heap.size, 0, none⟩, 3, 0, 0, 0, 0, 0, 0, by omega, rfl, hs0.out, ⟨by omega, by omega⟩, trivial⟩
      case round =>
        obtain ⟨k, A, c, r1, r2, r3, d1, d2, d3, hk, rfl, hs, hcc, hcap⟩ := hrel
        obtain rfl | rfl | rfl | rfl : k = 0 ∨ k = 1 ∨ k = 2 ∨ k = 3 := by omega
        · have hs' := hs.out
          have x1 : wr.cell? ⟨g, 10, none⟩ = some (.slice none 0 0) := hs'.tab 10 (by omega)
          have x2 : wr.cell? ⟨g, 256, none⟩ = some (.slice A 0 c) := hs'.last
          have kc : ∀ W : World, (convert 22 9 (.slice (some ⟨W.heap.size, 0, none⟩) 1 1)).run Tryz.prog (W.alloc (.cells #[.int .u8 10] 5)) = .ok (.string ⟨#[10]⟩) (W.alloc (.cells #[.int .u8 10] 5)) := fun W => (rd_new W [10] 5 (0, 0) 1 rfl (by omega)).conv (l := [10]) Tryz.underlying22 Tryz.underlying5 Tryz.underlying9 1
          have z0 : wr.cell? ⟨o, 4, none⟩ = some (.string ⟨#[10]⟩) := (hs'.bel.cell (World.block_lt_of_cell? w _ h4)).trans h4
          have z1 : wr.cell? ⟨o, 5, none⟩ = some (.string (bs [92, 110])) := (hs'.bel.cell (World.block_lt_of_cell? w _ h5)).trans h5
          clear hs'
          rw [show lkv 0 = 4 from rfl]
          go_wp2_with (first
            | (at_builtin; go_must (refine wpList_push elemStr rfl (.tmp 119) (.tmp 123) rfl w.heap.size A 0 c (strK 0) rfl (hs.out.below (by go_grown; try exact Below.refl _ _)).own (wr.heap.size + 1) rfl [.string ⟨#[10]⟩] rfl (new_cells' (wr.alloc (.cells #[.int .u8 10] 5)) [.string ⟨#[10]⟩] 9 (by simp)) (by intro u hu; simp at hu; subst hu; first | done | rfl) (by omega) (by omega) (Nat.le_trans hs.out.bel.size (by simp; try omega)) ?_; intro A5 c5 w5 hown5 hbl5 hg5; have hs5 := Lib.hid ((hs.out.below (by go_grown; try exact Below.refl _ _)).push hg5 hown5); have y1 : w5.cell? ⟨g, 256, none⟩ = some (.slice A 0 c) := hs5.out.last; have y2 := hs5.out.free 256; have hs6 := Lib.hid (hs5.out.set256 (.slice A5 1 c5)); have hsz5 : (w5.setCell ⟨g, 256, none⟩ (.slice A5 1 c5)).heap.size = w5.heap.size := (by simp [World.setCell]); clear hown5 hbl5 hg5 kc))
            | (refine wpList_bytes rfl 9 22 5 (.tmp 127) rfl Tryz.underlying9 Tryz.underlying22 Tryz.underlying5 [92, 110] rfl (by unfold maxLen; simp) ?_; rw [hsz5]; intro c6 w6 hrow6 hc6 hc6' hb6; have hs7 := Lib.hid ((hs6.out.below (by rw [hsz5]; exact hb6)).row hrow6); have y3 : w6.cell? ⟨g, 10, none⟩ = some (.slice none 0 0) := hs7.out.tab 10 (by omega); have y4 := hs7.out.free 10; have hs8 := Lib.hid (hs7.out.setTab 10 (by omega) (.slice (some ⟨w5.heap.size, 0, none⟩) 2 c6)); have Hc6 := Lib.hid (And.intro hc6 hc6'); clear hrow6 hb6 hc6 hc6'))
          go_roundw
          case rel => exact ⟨1, A5, c5, 0, 0, w5.heap.size, 0, 0, c6, by omega, rfl, hs8.out, ⟨(own_rd hs8.out.own).cap, (own_rd hs8.out.own).big⟩, Hc6.out⟩
          case measure => simp [intOf, lkv]
        · have hs' := hs.out
          have x1 : wr.cell? ⟨g, 92, none⟩ = some (.slice none 0 0) := hs'.tab 92 (by omega)
          have x2 : wr.cell? ⟨g, 256, none⟩ = some (.slice A 1 c) := hs'.last
          have kc : ∀ W : World, (convert 22 9 (.slice (some ⟨W.heap.size, 0, none⟩) 1 1)).run Tryz.prog (W.alloc (.cells #[.int .u8 92] 5)) = .ok (.string ⟨#[92]⟩) (W.alloc (.cells #[.int .u8 92] 5)) := fun W => (rd_new W [92] 5 (0, 0) 1 rfl (by omega)).conv (l := [92]) Tryz.underlying22 Tryz.underlying5 Tryz.underlying9 1
          have z0 : wr.cell? ⟨o, 2, none⟩ = some (.string ⟨#[92]⟩) := (hs'.bel.cell (World.block_lt_of_cell? w _ h2)).trans h2
          have z1 : wr.cell? ⟨o, 3, none⟩ = some (.string (bs [92, 92])) := (hs'.bel.cell (World.block_lt_of_cell? w _ h3)).trans h3
          clear hs'
          rw [show lkv 1 = 2 from rfl]
          go_wp2_with (first
            | (at_builtin; go_must (refine wpList_push elemStr rfl (.tmp 119) (.tmp 123) rfl w.heap.size A 1 c (strK 1) rfl (hs.out.below (by go_grown; try exact Below.refl _ _)).own (wr.heap.size + 1) rfl [.string ⟨#[92]⟩] rfl (new_cells' (wr.alloc (.cells #[.int .u8 92] 5)) [.string ⟨#[92]⟩] 9 (by simp)) (by intro u hu; simp at hu; subst hu; first | done | rfl) (by omega) (by omega) (Nat.le_trans hs.out.bel.size (by simp; try omega)) ?_; intro A5 c5 w5 hown5 hbl5 hg5; have hs5 := Lib.hid ((hs.out.below (by go_grown; try exact Below.refl _ _)).push hg5 hown5); have y1 : w5.cell? ⟨g, 256, none⟩ = some (.slice A 1 c) := hs5.out.last; have y2 := hs5.out.free 256; have hs6 := Lib.hid (hs5.out.set256 (.slice A5 2 c5)); have hsz5 : (w5.setCell ⟨g, 256, none⟩ (.slice A5 2 c5)).heap.size = w5.heap.size := (by simp [World.setCell]); clear hown5 hbl5 hg5 kc))
            | (refine wpList_bytes rfl 9 22 5 (.tmp 127) rfl Tryz.underlying9 Tryz.underlying22 Tryz.underlying5 [92, 92] rfl (by unfold maxLen; simp) ?_; rw [hsz5]; intro c6 w6 hrow6 hc6 hc6' hb6; have hs7 := Lib.hid ((hs6.out.below (by rw [hsz5]; exact hb6)).row hrow6); have y3 : w6.cell? ⟨g, 92, none⟩ = some (.slice none 0 0) := hs7.out.tab 92 (by omega); have y4 := hs7.out.free 92; have hs8 := Lib.hid (hs7.out.setTab 92 (by omega) (.slice (some ⟨w5.heap.size, 0, none⟩) 2 c6)); have Hc6 := Lib.hid (And.intro hc6 hc6'); clear hrow6 hb6 hc6 hc6'))
          go_roundw
          case rel => exact ⟨2, A5, c5, 0, w5.heap.size, r3, 0, c6, d3, by omega, rfl, hs8.out, ⟨(own_rd hs8.out.own).cap, (own_rd hs8.out.own).big⟩, ⟨Hc6.out, hcap.out⟩⟩
          case measure => simp [intOf, lkv]
        · have hs' := hs.out
          have x1 : wr.cell? ⟨g, 34, none⟩ = some (.slice none 0 0) := hs'.tab 34 (by omega)
          have x2 : wr.cell? ⟨g, 256, none⟩ = some (.slice A 2 c) := hs'.last
          have kc : ∀ W : World, (convert 22 9 (.slice (some ⟨W.heap.size, 0, none⟩) 1 1)).run Tryz.prog (W.alloc (.cells #[.int .u8 34] 5)) = .ok (.string ⟨#[34]⟩) (W.alloc (.cells #[.int .u8 34] 5)) := fun W => (rd_new W [34] 5 (0, 0) 1 rfl (by omega)).conv (l := [34]) Tryz.underlying22 Tryz.underlying5 Tryz.underlying9 1
          have z0 : wr.cell? ⟨o, 0, none⟩ = some (.string ⟨#[34]⟩) := (hs'.bel.cell (World.block_lt_of_cell? w _ h0)).trans h0
          have z1 : wr.cell? ⟨o, 1, none⟩ = some (.string (bs [92, 34])) := (hs'.bel.cell (World.block_lt_of_cell? w _ h1)).trans h1
          clear hs'
          rw [show lkv 2 = 0 from rfl]
          go_wp2_with (first
            | (at_builtin; go_must (refine wpList_push elemStr rfl (.tmp 119) (.tmp 123) rfl w.heap.size A 2 c (strK 2) rfl (hs.out.below (by go_grown; try exact Below.refl _ _)).own (wr.heap.size + 1) rfl [.string ⟨#[34]⟩] rfl (new_cells' (wr.alloc (.cells #[.int .u8 34] 5)) [.string ⟨#[34]⟩] 9 (by simp)) (by intro u hu; simp at hu; subst hu; first | done | rfl) (by omega) (by omega) (Nat.le_trans hs.out.bel.size (by simp; try omega)) ?_; intro A5 c5 w5 hown5 hbl5 hg5; have hs5 := Lib.hid ((hs.out.below (by go_grown; try exact Below.refl _ _)).push hg5 hown5); have y1 : w5.cell? ⟨g, 256, none⟩ = some (.slice A 2 c) := hs5.out.last; have y2 := hs5.out.free 256; have hs6 := Lib.hid (hs5.out.set256 (.slice A5 3 c5)); have hsz5 : (w5.setCell ⟨g, 256, none⟩ (.slice A5 3 c5)).heap.size = w5.heap.size := (by simp [World.setCell]); clear hown5 hbl5 hg5 kc))
            | (refine wpList_bytes rfl 9 22 5 (.tmp 127) rfl Tryz.underlying9 Tryz.underlying22 Tryz.underlying5 [92, 34] rfl (by unfold maxLen; simp) ?_; rw [hsz5]; intro c6 w6 hrow6 hc6 hc6' hb6; have hs7 := Lib.hid ((hs6.out.below (by rw [hsz5]; exact hb6)).row hrow6); have y3 : w6.cell? ⟨g, 34, none⟩ = some (.slice none 0 0) := hs7.out.tab 34 (by omega); have y4 := hs7.out.free 34; have hs8 := Lib.hid (hs7.out.setTab 34 (by omega) (.slice (some ⟨w5.heap.size, 0, none⟩) 2 c6)); have Hc6 := Lib.hid (And.intro hc6 hc6'); clear hrow6 hb6 hc6 hc6'))
          go_roundw
          case rel => exact ⟨3, A5, c5, w5.heap.size, r2, r3, c6, d2, d3, by omega, rfl, hs8.out, ⟨(own_rd hs8.out.own).cap, (own_rd hs8.out.own).big⟩, ⟨Hc6.out, hcap.out⟩⟩
          case measure => simp [intOf, lkv]
        · rw [show lkv 3 = -2 from rfl]
          go_wp2
          go_ret
          have hsE := hs.out
          have hE1 := hsE.rows (r1, esc1 34) (by simp [rowK])
          have hE2 := hsE.rows (r2, esc1 92) (by simp [rowK])
          have hE3 := hsE.rows (r3, esc1 10) (by simp [rowK])
          obtain ⟨hd1, hd2, hd3⟩ := hcap.out
          have hown := hsE.own
          obtain ⟨b, rfl⟩ : ∃ b, A = some ⟨b, 0, none⟩ := by
            rcases hown.2 with ⟨e1, e2⟩ | ⟨g', cap, cur, e1, _⟩
            · cases e2
            · injection e1 with e1 _ _
              exact ⟨g', e1⟩
          have hrd := own_rd hown
          obtain ⟨b', off, e, hb, hc⟩ := hrd.cells (by omega)
          obtain ⟨eb, eo⟩ : b = b' ∧ 0 = off := by simpa using e
          subst eb eo
          refine ⟨g, r1, r2, r3, d1, d2, d3, b, c, rfl, hsE.bel, hsE.blk.lt, hb, fun i hi => hsE.tab i hi, hsE.last, fun k hk => ?_, ?_, ?_, ?_, hrd.cap, hrd.big⟩
          · have := hc k (.string ⟨#[chq k]⟩) (by
              obtain rfl | rfl | rfl : k = 0 ∨ k = 1 ∨ k = 2 := by omega
              all_goals rfl)
            rwa [Nat.zero_add] at this
          · have := hE1.rd (c := d1) hd1.1 hd1.2
            exact this
          · have := hE2.rd (c := d2) hd2.1 hd2.2
            exact this
          · have := hE3.rd (c := d3) hd3.1 hd3.2
            exact this
end Go.Proofs.YtbfgmbijmdbcmaaGreatDoor
