/- typing's value, has and Env by their contracts. -/
import Derived.Test.YticpjdjdimpglaaGreatDoorMTRow
import Derived.Test.YticpjdjdimpglaaGreatDoorMSam
import Derived.Test.YticpjdjdimpglaaGreatDoorMWText3
import Derived.Test.YticpjdjdimpglaaGreatDoorMYLaws
import Derived.Test.YticpjdjdimpglaaGreatDoorMFRules
import Derived.Laws.EntriesVeiled
namespace Go.Proofs.YticpjdjdimpglaaGreatDoor
set_option linter.unusedVariables false
set_option linter.unusedSimpArgs false
open Go.RowKit

def envV (t r f c v : Int) : Int := if v = 1 then t else if v = 2 then r else if v = 3 then f else c
def envA (t r f c : Int) : Value := .agg #[.int .i64 t, .int .i64 r, .int .i64 f, .int .i64 c]
set_option maxRecDepth 100000 in
theorem value_any (t r f c v : Int) (w : World) : Calls Tryz.prog 123 #[.int .i64 v, .agg #[.int .i64 t, .int .i64 r, .int .i64 f, .int .i64 c]] w fun e w' => e = .returned (.int .i64 (envV t r f c v)) ∧ Below w.heap.size w w' := by
  have hb : Below w.heap.size w (w.alloc (.cells #[.int .i64 t, .int .i64 r, .int .i64 f, .int .i64 c] 49)) := (Below.refl _ _).alloc (Nat.le_refl _) _
  by_cases h1 : v = 1
  · subst h1
    go_enter Tryz.func123, Tryz.ntmps123
    go_wp2_with (fail)
    go_ret
    exact ⟨rfl, hb⟩
  by_cases h2 : v = 2
  · subst h2
    go_enter Tryz.func123, Tryz.ntmps123
    go_wp2_with (fail)
    go_ret
    exact ⟨rfl, hb⟩
  by_cases h3 : v = 3
  · subst h3
    go_enter Tryz.func123, Tryz.ntmps123
    go_wp2_with (fail)
    go_ret
    exact ⟨rfl, hb⟩
  have HE := Lib.hid (show envV t r f c v = c by unfold envV; rw [if_neg h1, if_neg h2, if_neg h3])
  have g1 : (v == 1) = false := by simpa using h1
  have g2 : (v == 2) = false := by simpa using h2
  have g3 : (v == 3) = false := by simpa using h3
  clear h1 h2 h3
  go_enter Tryz.func123, Tryz.ntmps123
  go_wp2_with (fail)
  go_ret
  exact ⟨by rw [HE.out]; rfl, hb⟩
set_option maxRecDepth 100000 in
theorem has_any (lo hi n : Int) (w : World) : Calls Tryz.prog 122 #[.agg #[.int .i64 lo, .int .i64 hi], .int .i64 n] w fun e w' => e = .returned (.bool (decide (lo ≤ n) && decide (n ≤ hi))) ∧ Below w.heap.size w w' := by
  have hb : Below w.heap.size w (w.alloc (.cells #[.int .i64 lo, .int .i64 hi] 154)) := (Below.refl _ _).alloc (Nat.le_refl _) _
  by_cases h1 : lo ≤ n
  · by_cases h2 : n ≤ hi
    · go_enter Tryz.func122, Tryz.ntmps122
      go_wp2_with (fail)
      go_ret
      exact ⟨by simp [h1, h2], hb⟩
    · go_enter Tryz.func122, Tryz.ntmps122
      go_wp2_with (fail)
      go_ret
      exact ⟨by simp [h1, h2], hb⟩
  · go_enter Tryz.func122, Tryz.ntmps122
    go_wp2_with (fail)
    go_ret
    exact ⟨by rw [decide_eq_false (show ¬ lo ≤ n by omega)]; rfl, hb⟩
def spanL : List Int := [0, 0, 2, 24, 0, 46, 0, 1, 2, 24]
def SpanIs (w : World) : Prop := ∀ i v, spanL[i]? = some v → w.cell? ⟨1, i, none⟩ = some (.int .i64 v)
theorem SpanIs.below {w w' : World} (h : SpanIs w) (hb : Below w.heap.size w w') : SpanIs w' := fun i v hi => (hb.cell (p := ⟨_, i, none⟩) (World.block_lt_of_cell? w _ (h i v hi))).trans (h i v hi)
def spLo (i : Nat) : Int := if i = 1 then 2 else if i = 2 then 0 else if i = 3 then 0 else 2
def spHi (i : Nat) : Int := if i = 1 then 24 else if i = 2 then 46 else if i = 3 then 1 else 24
theorem span_at {w : World} (h : SpanIs w) {i : Nat} (h1 : 1 ≤ i) (h4 : i ≤ 4) : w.cell? ⟨1, i * 2, none⟩ = some (.int .i64 (spLo i)) ∧ w.cell? ⟨1, i * 2 + 1, none⟩ = some (.int .i64 (spHi i)) := by
  have : i = 1 ∨ i = 2 ∨ i = 3 ∨ i = 4 := by omega
  rcases this with rfl | rfl | rfl | rfl
  · exact ⟨h 2 _ rfl, h 3 _ rfl⟩
  · exact ⟨h 4 _ rfl, h 5 _ rfl⟩
  · exact ⟨h 6 _ rfl, h 7 _ rfl⟩
  · exact ⟨h 8 _ rfl, h 9 _ rfl⟩
theorem ix_spans (i : Nat) (h : i < 5) (W : World) : (Instr.indexAt 155 (.pointer (some ⟨1, 0, none⟩)) (.int .i64 (i : Int))).run Tryz.prog W = .ok (.pointer (some ⟨1, i * 2, none⟩)) W := by
  have hz : (Go.sizeOf 154).run Tryz.prog W = .ok 2 W := by kernel_rfl
  have h0 : (0 : Int) ≤ (i : Int) ∧ (i : Int) < 5 := by omega
  simp [Instr.indexAt, run_underlying Tryz.underlying155, Instr.sureAddr, asIntOf, hz, h0, Addr.add, h]
  intro e
  exact e.symm
def okV (t r f c : Int) (i : Nat) : Bool := decide (spLo i ≤ envV t r f c i) && decide (envV t r f c i ≤ spHi i)
/-- Env's answer. -/
def envE (t r f c : Int) : Int := if okV t r f c 1 && (okV t r f c 2 && (okV t r f c 3 && okV t r f c 4)) then 0 else 1
set_option maxHeartbeats 8000000 in
set_option maxRecDepth 100000 in
theorem env_any (t r f c : Int) (w : World) (hs : SpanIs w) : Calls Tryz.prog 71 #[.agg #[.int .i64 t, .int .i64 r, .int .i64 f, .int .i64 c]] w fun e w' => e = .returned (.int .i64 (envE t r f c)) ∧ Below w.heap.size w w' := by
  have HS := Lib.hid hs
  clear hs
  have HE := Lib.hid (show ∀ i : Nat, 1 ≤ i → i ≤ 4 → okV t r f c i = false → envE t r f c = 1 from fun i h1 h2 h => by
    unfold envE
    have : i = 1 ∨ i = 2 ∨ i = 3 ∨ i = 4 := by omega
    rcases this with rfl | rfl | rfl | rfl <;> rw [h] <;> simp)
  have HE0 := Lib.hid (show (∀ i : Nat, 1 ≤ i → i < 5 → okV t r f c i = true) → envE t r f c = 0 from fun h => by
    unfold envE
    rw [h 1 (by omega) (by omega), h 2 (by omega) (by omega), h 3 (by omega) (by omega), h 4 (by omega) (by omega)]
    rfl)
  generalize envE t r f c = z at HE HE0 ⊢
  go_enter Tryz.func71, Tryz.ntmps71
  go_wp2_with (fail)
  have hx0 : Blk (w.alloc (.cells #[.int .i64 t, .int .i64 r, .int .i64 f, .int .i64 c] 49)) w.heap.size 49 #[.int .i64 t, .int .i64 r, .int .i64 f, .int .i64 c] := Blk.new _ _ _
  have hb0 : Below w.heap.size w (w.alloc (.cells #[.int .i64 t, .int .i64 r, .int .i64 f, .int .i64 c] 49)) := (Below.refl _ _).alloc (Nat.le_refl _) _
  generalize w.alloc (.cells #[.int .i64 t, .int .i64 r, .int .i64 f, .int .i64 c] 49) = w0 at hx0 hb0 ⊢
  have HX := Lib.hid hx0
  have HB0 := Lib.hid hb0
  clear hx0 hb0
  go_loopw [3] (fun s wr => ∃ i : Nat, 1 ≤ i ∧ i ≤ 5 ∧ s = .int .i64 i ∧ Hid (∀ j : Nat, 1 ≤ j → j < i → okV t r f c j = true) ∧ Hid (Below w0.heap.size w0 wr)) (fun s _ => 5 - (intOf s).toNat)
  case atStart => exact ⟨1, Nat.le_refl _, by omega, rfl, fun j h1 h2 => by omega, Below.refl _ _⟩
  case round =>
    obtain ⟨i, hi1, hi5, rfl, HC, HB⟩ := hrel
    have HBw := Lib.hid (HB0.out.trans (HB.out.mono HB0.out.size))
    by_cases hlt : i ≤ 4
    · have hi2 : (i : Int) ≤ 4 := by omega
      have ix := ix_spans i (by omega)
      obtain ⟨c0, c1⟩ := span_at (HS.out.below HBw.out) hi1 hlt
      have hgl := World.block_lt_of_cell? wr _ c0
      have hx := HX.out.below HB.out HX.out.lt
      have C0 := cell_by hgl c0
      have C1 := cell_by hgl c1
      have E0 := cell_by hx.lt (show wr.cell? ⟨w.heap.size, 0, none⟩ = some (.int .i64 t) from hx.cell 0)
      have E1 := cell_by hx.lt (show wr.cell? ⟨w.heap.size, 1, none⟩ = some (.int .i64 r) from hx.cell 1)
      have E2 := cell_by hx.lt (show wr.cell? ⟨w.heap.size, 2, none⟩ = some (.int .i64 f) from hx.cell 2)
      have E3 := cell_by hx.lt (show wr.cell? ⟨w.heap.size, 3, none⟩ = some (.int .i64 c) from hx.cell 3)
      have hc1 : ∀ p : BelowBy wr, _ := calls_by fun W hW => value_any t r f c (i : Int) W
      have hc2 : ∀ p : BelowBy wr, _ := calls_by fun W hW => has_any (spLo i) (spHi i) (envV t r f c i) W
      have hi0 : (0 : Int) ≤ (i : Int) := by omega
      have hi6 : (i : Int) < 5 := by omega
      have HOK := Lib.hid (show okV t r f c i = (decide (spLo i ≤ envV t r f c i) && decide (envV t r f c i ≤ spHi i)) from rfl)
      generalize (decide (spLo i ≤ envV t r f c i) && decide (envV t r f c i ≤ spHi i)) = ok at hc2 HOK
      generalize envV t r f c (i : Int) = ev at hc1 hc2
      generalize spLo i = lo at C0 hc2
      generalize spHi i = hi at C1 hc2
      clear hgl hx c0 c1
      go_wp2_with (fail)
      refine wp_region_below mixF (by kernel_rfl) ?_
      repeat (go_big_quiet_step (first | (go_at_call 123; with_reducible exact hc1 _) | (go_at_call 122; with_reducible exact hc2 _)))
      refine wpQuiet_nil ?_
      intro _ hw'
      obtain ⟨⟨wq, hbq⟩, hw2⟩ := hw'
      subst hw2
      have HB2 := Lib.hid (HB.out.trans (hbq.mono HB.out.size))
      have HB3 := Lib.hid (HBw.out.trans (hbq.mono HBw.out.size))
      clear C0 C1 E0 E1 E2 E3 hc1 hc2 ix hbq
      cases ok
      · have HZ := Lib.hid (HE.out i hi1 hlt HOK.out)
        go_wp2_with (fail)
        go_ret
        exact ⟨by rw [HZ.out]; rfl, HB3.out⟩
      · go_wp2_with (fail)
        go_roundw
        case rel => exact ⟨i + 1, by omega, by omega, by go_num, fun j h1 h2 => by
          by_cases hj : j = i
          · rw [hj]; exact HOK.out
          · exact HC.out j h1 (by omega), HB2.out⟩
        case measure => simp [intOf]; omega
    · obtain rfl : i = 5 := by omega
      have HZ := Lib.hid (HE0.out fun j h1 h2 => HC.out j h1 h2)
      go_wp2_with (fail)
      go_ret
      exact ⟨by rw [HZ.out]; rfl, HBw.out⟩
end Go.Proofs.YticpjdjdimpglaaGreatDoor

/- typing's holds, its closures and Holds by their contracts. (Printed by wip/bin/genhld.py.) -/
namespace Go.Proofs.YticpjdjdimpglaaGreatDoor
set_option linter.unusedVariables false
set_option linter.unusedSimpArgs false
open Go.RowKit

/-- The contract of holds for conditions of a size. -/
def HLD (N : Nat) : Prop := ∀ (S : Nat → Prop) (x : CT) (A : Option Addr) (m d : Nat) (t r f c : Int) (w : World), x.ps.cnt < N → okC x = true → RepH S w x.ps A m d →
  Calls Tryz.prog 72 #[.agg #[.int .i64 x.k, .int .i64 x.v, .int .i64 x.n, .slice A m d], .agg #[.int .i64 t, .int .i64 r, .int .i64 f, .int .i64 c]] w fun e w' => e = .returned (.bool (ev (envV t r f c) x)) ∧ Below w.heap.size w w'
theorem Blk.at_endH {w : World} {b : Nat} {t : TypeId} {cs : Array Value} (h : b = w.heap.size) : Blk (w.alloc (.cells cs t)) b t cs := by subst h; exact Blk.new _ _ _
theorem cnt_mem {F : CF} {x : CT} (h : x ∈ F.toL) : x.ps.cnt < F.cnt := by
  induction F with
  | nil => cases h
  | cons k v n ps r _ ih =>
    rw [CF.toL] at h
    rw [CF.cnt]
    rcases List.mem_cons.1 h with rfl | h
    · show ps.cnt < _; omega
    · have := ih h; omega
set_option maxHeartbeats 4000000 in
set_option maxRecDepth 100000 in
theorem hld1_any (N : Nat) (ih : HLD N) (S : Nat → Prop) (x : CT) (A : Option Addr) (m d : Nat) (t r f c : Int) (q : Nat) (w : World) (hN : x.ps.cnt < N) (hok : okC x = true) (h : RepH S w x.ps A m d) (hq : Blk w q 49 #[.int .i64 t, .int .i64 r, .int .i64 f, .int .i64 c]) :
    Calls Tryz.prog 124 #[.agg #[.int .i64 x.k, .int .i64 x.v, .int .i64 x.n, .slice A m d], .pointer (some ⟨q, 0, none⟩)] w fun e w' => e = .returned (.bool (ev (envV t r f c) x)) ∧ Below w.heap.size w w' := by
  have HC := Lib.hid (fun W (hW : Below w.heap.size w W) => ih S x A m d t r f c W hN hok (h.below hW))
  have HQ := Lib.hid hq
  have ql := hq.lt
  clear ih hN hok h hq
  go_enter Tryz.func124, Tryz.ntmps124
  have hb0 : Below w.heap.size w (w.alloc (.cells #[.int .i64 x.k, .int .i64 x.v, .int .i64 x.n, .slice A m d] 24)) := (Below.refl _ _).alloc (Nat.le_refl _) _
  have hq0 := HQ.out.below hb0 ql
  have x0 := hq0.cell 0
  have x1 := hq0.cell 1
  have x2 := hq0.cell 2
  have x3 := hq0.cell 3
  have ql0 := hq0.lt
  have HB0 := Lib.hid hb0
  clear hb0 hq0
  go_wp2_with (fail)
  refine (HC.out _ HB0.out).mono ?_
  rintro e w1 ⟨rfl, hb⟩
  have HB1 := Lib.hid (HB0.out.trans (hb.mono HB0.out.size))
  clear hb x0 x1 x2 x3
  go_wp2_with (fail)
  go_ret
  exact ⟨rfl, HB1.out⟩
set_option maxHeartbeats 4000000 in
set_option maxRecDepth 100000 in
theorem hld2_any (N : Nat) (ih : HLD N) (S : Nat → Prop) (x : CT) (A : Option Addr) (m d : Nat) (t r f c : Int) (q u : Nat) (w : World) (hN : x.ps.cnt < N) (hok : okC x = true) (h : RepH S w x.ps A m d) (hq : Blk w q 49 #[.int .i64 t, .int .i64 r, .int .i64 f, .int .i64 c]) (hu : Blk w u 30 #[.func (.func 124) #[] #[.pointer (some ⟨q, 0, none⟩)]]) :
    Calls Tryz.prog 126 #[.agg #[.int .i64 x.k, .int .i64 x.v, .int .i64 x.n, .slice A m d], .pointer (some ⟨u, 0, none⟩)] w fun e w' => e = .returned (.bool (!ev (envV t r f c) x)) ∧ Below w.heap.size w w' := by
  have HC := Lib.hid (fun W (hW : Below w.heap.size w W) => hld1_any N ih S x A m d t r f c q W hN hok (h.below hW) (hq.below hW hq.lt))
  have hb0 : Below w.heap.size w (w.alloc (.cells #[.int .i64 x.k, .int .i64 x.v, .int .i64 x.n, .slice A m d] 24)) := (Below.refl _ _).alloc (Nat.le_refl _) _
  have hu0 := hu.below hb0 hu.lt
  have u0 := hu0.cell 0
  have ul := hu0.lt
  have ul2 := hu.lt
  have HB0 := Lib.hid hb0
  clear ih hN hok h hq hu hb0 hu0
  go_enter Tryz.func126, Tryz.ntmps126
  go_wp2_with (fail)
  refine (HC.out _ HB0.out).mono ?_
  rintro e w1 ⟨rfl, hb⟩
  have HB1 := Lib.hid (HB0.out.trans (hb.mono HB0.out.size))
  clear hb u0
  go_wp2_with (fail)
  go_ret
  exact ⟨rfl, HB1.out⟩
set_option maxHeartbeats 4000000 in
set_option maxRecDepth 100000 in
theorem cifA_any (N : Nat) (ih : HLD N) (S : Nat → Prop) (F : CF) (A : Option Addr) (m d : Nat) (t r f c : Int) (q u : Nat) (w : World) (hN : F.cnt ≤ N) (hok : F.okB = true) (h : RepH S w F A m d) (hq : Blk w q 49 #[.int .i64 t, .int .i64 r, .int .i64 f, .int .i64 c]) :
    Calls Tryz.prog 165 #[.slice A m d, .func (.func 124) #[] #[.pointer (some ⟨q, 0, none⟩)]] w fun e w' => (∃ n : Int, e = .returned (.int .i64 n) ∧ decide (n ≥ 0) = F.toL.any (fun x => ev (envV t r f c) x)) ∧ Below w.heap.size w w' := by
  have HI := Lib.hid ih
  have HR := Lib.hid h
  have HQ := Lib.hid hq
  have HN := Lib.hid hN
  have HOK := Lib.hid (okB_mem hok)
  have HL := Lib.hid (h.len.trans (toL_len F).symm)
  have hcap := h.choose_spec.1.cap
  have hbig := h.choose_spec.1.big

  clear ih h hq hN hok
  go_enter Tryz.func165, Tryz.ntmps165
  go_wp2_with (fail)
  go_loopw [8] (fun s wr => ∃ i : Nat, i ≤ m ∧ s = .int .i64 i ∧ Hid (Below w.heap.size w wr) ∧ Hid ((F.toL.take i).any (fun x => ev (envV t r f c) x) = false)) (fun s _ => m - (intOf s).toNat)
  case atStart => exact ⟨0, Nat.zero_le _, rfl, Below.refl _ _, by simp [Hid]⟩
  case round =>
    obtain ⟨i, him, rfl, HB, HA⟩ := hrel
    by_cases hlt : i < m
    · obtain ⟨b, off, x, B, n1, e1, rfl, hb, hS, hf, h0, h1, h2, h3, hr⟩ := HR.out.elem hlt
      rw [← HB.out.cell (p := ⟨b, _, none⟩) hb] at h0 h1 h2 h3
      have HF := Lib.hid hf
      have HRx := Lib.hid hr
      have HMx := Lib.hid (show x ∈ F.toL by obtain ⟨h1, h2⟩ := List.getElem?_eq_some_iff.1 hf; rw [← h2]; exact List.getElem_mem h1)
      have hi2 : (i : Int) < (m : Int) := by omega
      clear hf hr hS
      go_wp2_with (fail)
      refine (hld1_any N HI.out S x B n1 e1 t r f c q wr (by have h5 := cnt_mem HMx.out; have h6 := HN.out; omega) (HOK.out x HMx.out) (HRx.out.below HB.out) (HQ.out.below HB.out HQ.out.lt)).mono ?_
      rintro e w1 ⟨rfl, hb⟩
      have HB1 := Lib.hid (HB.out.trans (hb.mono HB.out.size))
      clear hb h0 h1 h2 h3
      cases ho : ev (envV t r f c) x with
      | false =>
        have HA1 := Lib.hid (show (F.toL.take (i + 1)).any (fun x => ev (envV t r f c) x) = false by
          obtain ⟨h1, h2⟩ := List.getElem?_eq_some_iff.1 HF.out
          rw [List.take_succ_eq_append_getElem h1, h2, List.any_append, HA.out, List.any_cons, ho]
          rfl)
        clear ho
        go_wp2_with (fail)
        go_roundw
        case rel => exact ⟨i + 1, hlt, by go_num, HB1.out, HA1.out⟩
        case measure => simp [intOf]; omega
      | true =>
        have HA1 := Lib.hid (show F.toL.any (fun x => ev (envV t r f c) x) = true by
          rw [List.any_eq_true]
          exact ⟨x, HMx.out, ho⟩)
        clear ho
        go_wp2_with (fail)
        go_ret
        exact ⟨⟨i, rfl, by rw [HA1.out]; simp⟩, HB1.out⟩
    · have HA1 := Lib.hid (show F.toL.any (fun x => ev (envV t r f c) x) = false by
        have h1 := HA.out
        rw [List.take_of_length_le (by rw [← HL.out]; omega)] at h1
        exact h1)
      go_wp2_with (fail)
      go_ret
      exact ⟨⟨-1, rfl, by rw [HA1.out]; rfl⟩, HB.out⟩
set_option maxHeartbeats 4000000 in
set_option maxRecDepth 100000 in
theorem ccfA_any (N : Nat) (ih : HLD N) (S : Nat → Prop) (F : CF) (A : Option Addr) (m d : Nat) (t r f c : Int) (q u : Nat) (w : World) (hN : F.cnt ≤ N) (hok : F.okB = true) (h : RepH S w F A m d) (hq : Blk w q 49 #[.int .i64 t, .int .i64 r, .int .i64 f, .int .i64 c]) :
    Calls Tryz.prog 125 #[.slice A m d, .func (.func 124) #[] #[.pointer (some ⟨q, 0, none⟩)]] w fun e w' => e = .returned (.bool (F.toL.any (fun x => ev (envV t r f c) x))) ∧ Below w.heap.size w w' := by
  have HC := Lib.hid (cifA_any N ih S F A m d t r f c q u w hN hok h hq)
  clear ih h hq hN hok
  go_enter Tryz.func125, Tryz.ntmps125
  go_wp2_with (fail)
  refine HC.out.mono ?_
  rintro e w1 ⟨⟨n, rfl, hn⟩, hb⟩
  have HB := Lib.hid hb
  have HN := Lib.hid hn
  clear hb hn
  go_wp2
  go_ret
  exact ⟨congrArg (fun b => Ending.returned (Value.bool b)) HN.out, HB.out⟩
set_option maxHeartbeats 4000000 in
set_option maxRecDepth 100000 in
theorem cifB_any (N : Nat) (ih : HLD N) (S : Nat → Prop) (F : CF) (A : Option Addr) (m d : Nat) (t r f c : Int) (q u : Nat) (w : World) (hN : F.cnt ≤ N) (hok : F.okB = true) (h : RepH S w F A m d) (hq : Blk w q 49 #[.int .i64 t, .int .i64 r, .int .i64 f, .int .i64 c]) (hu : Blk w u 30 #[.func (.func 124) #[] #[.pointer (some ⟨q, 0, none⟩)]]) :
    Calls Tryz.prog 165 #[.slice A m d, .func (.func 126) #[] #[.pointer (some ⟨u, 0, none⟩)]] w fun e w' => (∃ n : Int, e = .returned (.int .i64 n) ∧ decide (n ≥ 0) = F.toL.any (fun x => !ev (envV t r f c) x)) ∧ Below w.heap.size w w' := by
  have HI := Lib.hid ih
  have HR := Lib.hid h
  have HQ := Lib.hid hq
  have HN := Lib.hid hN
  have HOK := Lib.hid (okB_mem hok)
  have HL := Lib.hid (h.len.trans (toL_len F).symm)
  have hcap := h.choose_spec.1.cap
  have hbig := h.choose_spec.1.big
  have HU := Lib.hid hu
  clear hu
  clear ih h hq hN hok
  go_enter Tryz.func165, Tryz.ntmps165
  go_wp2_with (fail)
  go_loopw [8] (fun s wr => ∃ i : Nat, i ≤ m ∧ s = .int .i64 i ∧ Hid (Below w.heap.size w wr) ∧ Hid ((F.toL.take i).any (fun x => !ev (envV t r f c) x) = false)) (fun s _ => m - (intOf s).toNat)
  case atStart => exact ⟨0, Nat.zero_le _, rfl, Below.refl _ _, by simp [Hid]⟩
  case round =>
    obtain ⟨i, him, rfl, HB, HA⟩ := hrel
    by_cases hlt : i < m
    · obtain ⟨b, off, x, B, n1, e1, rfl, hb, hS, hf, h0, h1, h2, h3, hr⟩ := HR.out.elem hlt
      rw [← HB.out.cell (p := ⟨b, _, none⟩) hb] at h0 h1 h2 h3
      have HF := Lib.hid hf
      have HRx := Lib.hid hr
      have HMx := Lib.hid (show x ∈ F.toL by obtain ⟨h1, h2⟩ := List.getElem?_eq_some_iff.1 hf; rw [← h2]; exact List.getElem_mem h1)
      have hi2 : (i : Int) < (m : Int) := by omega
      clear hf hr hS
      go_wp2_with (fail)
      refine (hld2_any N HI.out S x B n1 e1 t r f c q u wr (by have h5 := cnt_mem HMx.out; have h6 := HN.out; omega) (HOK.out x HMx.out) (HRx.out.below HB.out) (HQ.out.below HB.out HQ.out.lt) (HU.out.below HB.out HU.out.lt)).mono ?_
      rintro e w1 ⟨rfl, hb⟩
      have HB1 := Lib.hid (HB.out.trans (hb.mono HB.out.size))
      clear hb h0 h1 h2 h3
      cases ho : !ev (envV t r f c) x with
      | false =>
        have HA1 := Lib.hid (show (F.toL.take (i + 1)).any (fun x => !ev (envV t r f c) x) = false by
          obtain ⟨h1, h2⟩ := List.getElem?_eq_some_iff.1 HF.out
          rw [List.take_succ_eq_append_getElem h1, h2, List.any_append, HA.out, List.any_cons, ho]
          rfl)
        clear ho
        go_wp2_with (fail)
        go_roundw
        case rel => exact ⟨i + 1, hlt, by go_num, HB1.out, HA1.out⟩
        case measure => simp [intOf]; omega
      | true =>
        have HA1 := Lib.hid (show F.toL.any (fun x => !ev (envV t r f c) x) = true by
          rw [List.any_eq_true]
          exact ⟨x, HMx.out, ho⟩)
        clear ho
        go_wp2_with (fail)
        go_ret
        exact ⟨⟨i, rfl, by rw [HA1.out]; simp⟩, HB1.out⟩
    · have HA1 := Lib.hid (show F.toL.any (fun x => !ev (envV t r f c) x) = false by
        have h1 := HA.out
        rw [List.take_of_length_le (by rw [← HL.out]; omega)] at h1
        exact h1)
      go_wp2_with (fail)
      go_ret
      exact ⟨⟨-1, rfl, by rw [HA1.out]; rfl⟩, HB.out⟩
set_option maxHeartbeats 4000000 in
set_option maxRecDepth 100000 in
theorem ccfB_any (N : Nat) (ih : HLD N) (S : Nat → Prop) (F : CF) (A : Option Addr) (m d : Nat) (t r f c : Int) (q u : Nat) (w : World) (hN : F.cnt ≤ N) (hok : F.okB = true) (h : RepH S w F A m d) (hq : Blk w q 49 #[.int .i64 t, .int .i64 r, .int .i64 f, .int .i64 c]) (hu : Blk w u 30 #[.func (.func 124) #[] #[.pointer (some ⟨q, 0, none⟩)]]) :
    Calls Tryz.prog 125 #[.slice A m d, .func (.func 126) #[] #[.pointer (some ⟨u, 0, none⟩)]] w fun e w' => e = .returned (.bool (F.toL.any (fun x => !ev (envV t r f c) x))) ∧ Below w.heap.size w w' := by
  have HC := Lib.hid (cifB_any N ih S F A m d t r f c q u w hN hok h hq hu)
  clear ih h hq hN hok hu
  go_enter Tryz.func125, Tryz.ntmps125
  go_wp2_with (fail)
  refine HC.out.mono ?_
  rintro e w1 ⟨⟨n, rfl, hn⟩, hb⟩
  have HB := Lib.hid hb
  have HN := Lib.hid hn
  clear hb hn
  go_wp2
  go_ret
  exact ⟨congrArg (fun b => Ending.returned (Value.bool b)) HN.out, HB.out⟩
set_option maxHeartbeats 8000000 in
set_option maxRecDepth 100000 in
theorem hld_of (N : Nat) (ih : HLD N) : HLD (N + 1) := by
  intro S x A m d t r f c w hN hok h
  have HI := Lib.hid ih
  have HR := Lib.hid h
  have HN := Lib.hid hN
  have HML := Lib.hid h.len
  have HC := Lib.hid (okC_cases hok)
  have HD := Lib.hid (ev_def (envV t r f c) x)
  have hcap := h.choose_spec.1.cap
  have hbig := h.choose_spec.1.big
  clear ih h hN hok
  by_cases hk1 : x.k = 1
  · have HE := Lib.hid (show ev (envV t r f c) x = decide (x.n ≤ envV t r f c x.v) by rw [HD.out, if_pos hk1])
    have g1 : (x.k == 1) = true := by rw [hk1]; rfl
    clear hk1 HC HD
    generalize ev (envV t r f c) x = z at HE ⊢
    go_enter Tryz.func72, Tryz.ntmps72
    go_wp2_with (fail)
    first | (refine calls_named ?_; intro W hW) | (refine body_named ?_; intro W hW) | (refine wpList_named ?_; intro W hW) | (refine wp_named ?_; intro W hW)
    have hb : Below w.heap.size w W := by rw [← hW]; exact (((Below.refl _ _).alloc (Nat.le_refl _) _).alloc (by simp) _).alloc (by simp; omega) _
    have hx : Blk W w.heap.size 24 #[.int .i64 x.k, .int .i64 x.v, .int .i64 x.n, .slice A m d] := by rw [← hW]; exact ((Blk.new w _ _).alloc _).alloc _
    have hq : Blk W (w.heap.size + 1) 49 #[.int .i64 t, .int .i64 r, .int .i64 f, .int .i64 c] := by
      rw [← hW, ← World.size_alloc w]
      exact (Blk.new _ _ _).alloc _
    have hu : Blk W (w.heap.size + 1 + 1) 30 #[.func (.func 124) #[] #[.pointer (some ⟨w.heap.size + 1, 0, none⟩)]] := by rw [← hW]; exact Blk.at_endH (by simp [World.size_alloc])
    clear hW
    have X0 := cell_by hx.lt (show W.cell? ⟨w.heap.size, 0, none⟩ = some (.int .i64 x.k) from hx.cell 0)
    have X1 := cell_by hx.lt (show W.cell? ⟨w.heap.size, 1, none⟩ = some (.int .i64 x.v) from hx.cell 1)
    have X2 := cell_by hx.lt (show W.cell? ⟨w.heap.size, 2, none⟩ = some (.int .i64 x.n) from hx.cell 2)
    have E0 := cell_by hq.lt (show W.cell? ⟨w.heap.size + 1, 0, none⟩ = some (.int .i64 t) from hq.cell 0)
    have E1 := cell_by hq.lt (show W.cell? ⟨w.heap.size + 1, 1, none⟩ = some (.int .i64 r) from hq.cell 1)
    have E2 := cell_by hq.lt (show W.cell? ⟨w.heap.size + 1, 2, none⟩ = some (.int .i64 f) from hq.cell 2)
    have E3 := cell_by hq.lt (show W.cell? ⟨w.heap.size + 1, 3, none⟩ = some (.int .i64 c) from hq.cell 3)
    have hc1 : ∀ p : BelowBy W, _ := calls_by fun W' hW => value_any t r f c x.v W'
    generalize envV t r f c x.v = vv at hc1 HE
    have HB := Lib.hid hb
    clear hx hq hu hb
    refine wp_region_below mixF (by kernel_rfl) ?_
    repeat (go_big_quiet_step (first | (go_at_call 123; with_reducible exact hc1 _)))
    refine wpQuiet_nil ?_
    intro _ hw'
    obtain ⟨⟨wq, hbq⟩, hw2⟩ := hw'
    subst hw2
    have HB2 := Lib.hid (HB.out.trans (hbq.mono HB.out.size))
    clear X0 X1 X2 E0 E1 E2 E3 hc1 hbq
    go_wp2_with (fail)
    go_ret
    exact ⟨by rw [HE.out]; rfl, HB2.out⟩
  · by_cases hk4 : x.k = 4
    · have HC4 := Lib.hid (show x.ps.num = 1 ∧ x.ps.okB = true by
        rcases HC.out with h | h | h
        · exact absurd h.1 hk1
        · exact ⟨h.2.2.2.1, h.2.2.2.2⟩
        · have := h.1; omega)
      have hm1 : 0 < m := by have h1 := HML.out; have h2 := HC4.out.1; rw [num_len] at h2; omega
      obtain ⟨b, off, y, B, n1, e1, rfl, hbb, hSb, hy, g0, g1, g2, g3, hr⟩ := HR.out.elem hm1
      simp only [Nat.zero_mul, Nat.add_zero] at g0 g1 g2 g3
      have HY := Lib.hid (show ev (envV t r f c) x = !ev (envV t r f c) y from by
        cases hl : x.ps.toL with
        | nil => rw [hl] at hy; cases hy
        | cons p q =>
          rw [hl] at hy
          injection hy with hy
          rw [← hy]
          exact ev_not _ hk4 hl)
      have HYM := Lib.hid (show y ∈ x.ps.toL by obtain ⟨h1, h2⟩ := List.getElem?_eq_some_iff.1 hy; rw [← h2]; exact List.getElem_mem h1)
      have HRy := Lib.hid hr
      have k1 : (x.k == 1) = false := by simpa using hk1
      have k4 : (x.k == 4) = true := by rw [hk4]; rfl
      clear hk1 hk4 HC HD hy hr hSb
      generalize ev (envV t r f c) x = z at HY ⊢
      go_enter Tryz.func72, Tryz.ntmps72
      go_wp2_with (fail)
      first | (refine calls_named ?_; intro W hW) | (refine body_named ?_; intro W hW) | (refine wpList_named ?_; intro W hW) | (refine wp_named ?_; intro W hW)
      have hb : Below w.heap.size w W := by rw [← hW]; exact (((Below.refl _ _).alloc (Nat.le_refl _) _).alloc (by simp) _).alloc (by simp; omega) _
      have hx : Blk W w.heap.size 24 #[.int .i64 x.k, .int .i64 x.v, .int .i64 x.n, .slice (some ⟨b, off, none⟩) m d] := by rw [← hW]; exact ((Blk.new w _ _).alloc _).alloc _
      have hq : Blk W (w.heap.size + 1) 49 #[.int .i64 t, .int .i64 r, .int .i64 f, .int .i64 c] := by
        rw [← hW, ← World.size_alloc w]
        exact (Blk.new _ _ _).alloc _
      have hu : Blk W (w.heap.size + 1 + 1) 30 #[.func (.func 124) #[] #[.pointer (some ⟨w.heap.size + 1, 0, none⟩)]] := by rw [← hW]; exact Blk.at_endH (by simp [World.size_alloc])
      clear hW
      have hz := hb.size
      rw [← hb.cell (p := ⟨b, _, none⟩) hbb] at g0 g1 g2 g3
      have hbl : b < W.heap.size := by omega
      have X3 := cell_by hx.lt (show W.cell? ⟨w.heap.size, 3, none⟩ = some (.slice (some ⟨b, off, none⟩) m d) from hx.cell 3)
      have U0 := cell_by hu.lt (show W.cell? ⟨w.heap.size + 1 + 1, 0, none⟩ = some (.func (.func 124) #[] #[.pointer (some ⟨w.heap.size + 1, 0, none⟩)]) from hu.cell 0)
      have Y0 := cell_by hbl g0
      have Y1 := cell_by hbl g1
      have Y2 := cell_by hbl g2
      have Y3 := cell_by hbl g3
      have hc1 : ∀ p : BelowBy W, _ := calls_by fun W' hW => hld1_any N HI.out S y B n1 e1 t r f c (w.heap.size + 1) W' (by have h5 := cnt_mem HYM.out; have h6 := HN.out; omega) (okB_mem HC4.out.2 y HYM.out) (HRy.out.below (hb.trans (hW.mono hz))) (hq.below hW hq.lt)
      have eg : ∀ args w, (callFunc 124 args).run Tryz.prog w = .ok (.enter 124 args) w := enters_of Tryz.func124 (by kernel_rfl) rfl
      have hm2 : (0 : Int) < (m : Int) := by omega
      generalize ev (envV t r f c) y = vv at hc1 HY
      have HB := Lib.hid hb
      clear hx hq hu hb g0 g1 g2 g3
      refine wp_region_below mixF (by kernel_rfl) ?_
      repeat (go_big_quiet_step (first | (go_at_call 124; with_reducible exact hc1 _) | (go_at_fn 124; with_reducible exact hc1 _)))
      refine wpQuiet_nil ?_
      intro _ hw'
      obtain ⟨⟨wq, hbq⟩, hw2⟩ := hw'
      subst hw2
      have HB2 := Lib.hid (HB.out.trans (hbq.mono HB.out.size))
      clear X3 U0 Y0 Y1 Y2 Y3 hc1 hbq eg
      go_wp2_with (fail)
      go_ret
      exact ⟨by rw [HY.out]; rfl, HB2.out⟩
    · have HC2 := Lib.hid (show (x.k = 2 ∨ x.k = 3) ∧ x.ps.okB = true by
        rcases HC.out with h | h | h
        · exact absurd h.1 hk1
        · exact absurd h.1 hk4
        · exact ⟨h.1, h.2.2.2.2.2⟩)
      have k1 : (x.k == 1) = false := by simpa using hk1
      have k4 : (x.k == 4) = false := by simpa using hk4
      clear hk1 hk4 HC HD
      by_cases hk3 : x.k = 3
      · have HE := Lib.hid (ev_or (envV t r f c) hk3)
        have k3 : (x.k == 3) = true := by rw [hk3]; rfl
        clear hk3
        generalize ev (envV t r f c) x = z at HE ⊢
        go_enter Tryz.func72, Tryz.ntmps72
        go_wp2_with (fail)
        first | (refine calls_named ?_; intro W hW) | (refine body_named ?_; intro W hW) | (refine wpList_named ?_; intro W hW) | (refine wp_named ?_; intro W hW)
        have hb : Below w.heap.size w W := by rw [← hW]; exact (((Below.refl _ _).alloc (Nat.le_refl _) _).alloc (by simp) _).alloc (by simp; omega) _
        have hx : Blk W w.heap.size 24 #[.int .i64 x.k, .int .i64 x.v, .int .i64 x.n, .slice A m d] := by rw [← hW]; exact ((Blk.new w _ _).alloc _).alloc _
        have hq : Blk W (w.heap.size + 1) 49 #[.int .i64 t, .int .i64 r, .int .i64 f, .int .i64 c] := by
          rw [← hW, ← World.size_alloc w]
          exact (Blk.new _ _ _).alloc _
        have hu : Blk W (w.heap.size + 1 + 1) 30 #[.func (.func 124) #[] #[.pointer (some ⟨w.heap.size + 1, 0, none⟩)]] := by rw [← hW]; exact Blk.at_endH (by simp [World.size_alloc])
        clear hW
        refine (ccfA_any N HI.out S x.ps A m d t r f c (w.heap.size + 1) 0 W (by have := HN.out; omega) HC2.out.2 (HR.out.below hb) hq).mono ?_
        rintro e w2 ⟨rfl, hb2⟩
        have HB2 := Lib.hid (hb.trans (hb2.mono hb.size))
        clear hb hx hq hu hb2
        go_wp2_with (fail)
        go_ret
        exact ⟨by rw [HE.out]; rfl, HB2.out⟩
      · have HE := Lib.hid (show ev (envV t r f c) x = !(x.ps.toL.any fun y => !ev (envV t r f c) y) by
          rw [ev_and (envV t r f c) (HC2.out.1.resolve_right hk3), List.all_eq_not_any_not])
        have k3 : (x.k == 3) = false := by simpa using hk3
        clear hk3
        generalize ev (envV t r f c) x = z at HE ⊢
        go_enter Tryz.func72, Tryz.ntmps72
        go_wp2_with (fail)
        first | (refine calls_named ?_; intro W hW) | (refine body_named ?_; intro W hW) | (refine wpList_named ?_; intro W hW) | (refine wp_named ?_; intro W hW)
        have hb : Below w.heap.size w W := by rw [← hW]; exact (((Below.refl _ _).alloc (Nat.le_refl _) _).alloc (by simp) _).alloc (by simp; omega) _
        have hx : Blk W w.heap.size 24 #[.int .i64 x.k, .int .i64 x.v, .int .i64 x.n, .slice A m d] := by rw [← hW]; exact ((Blk.new w _ _).alloc _).alloc _
        have hq : Blk W (w.heap.size + 1) 49 #[.int .i64 t, .int .i64 r, .int .i64 f, .int .i64 c] := by
          rw [← hW, ← World.size_alloc w]
          exact (Blk.new _ _ _).alloc _
        have hu : Blk W (w.heap.size + 1 + 1) 30 #[.func (.func 124) #[] #[.pointer (some ⟨w.heap.size + 1, 0, none⟩)]] := by rw [← hW]; exact Blk.at_endH (by simp [World.size_alloc])
        clear hW
        refine (ccfB_any N HI.out S x.ps A m d t r f c (w.heap.size + 1) (w.heap.size + 1 + 1) W (by have := HN.out; omega) HC2.out.2 (HR.out.below hb) hq hu).mono ?_
        rintro e w2 ⟨rfl, hb2⟩
        have HB2 := Lib.hid (hb.trans (hb2.mono hb.size))
        clear hb hx hq hu hb2
        go_wp2_with (fail)
        go_ret
        exact ⟨by rw [HE.out]; rfl, HB2.out⟩
theorem hld_all : ∀ N, HLD N
  | 0 => fun _ _ _ _ _ _ _ _ _ _ h => absurd h (by omega)
  | N + 1 => hld_of N (hld_all N)
/-- Holds' answer. -/
def holdsO (x : CT) (t r f c : Int) : Bool × Int := if tcond x ≠ 0 then (false, tcond x) else if envE t r f c ≠ 0 then (false, envE t r f c) else (ev (envV t r f c) x, 0)
set_option maxHeartbeats 4000000 in
set_option maxRecDepth 100000 in
theorem holds_any (S : Nat → Prop) (x : CT) (A : Option Addr) (m d : Nat) (t r f c : Int) (w : World) (h : RepH S w x.ps A m d) (hz : x.ps.cnt ≤ 999999) (hs : SpanIs w) :
    Calls Tryz.prog 27 #[.agg #[.int .i64 x.k, .int .i64 x.v, .int .i64 x.n, .slice A m d], .agg #[.int .i64 t, .int .i64 r, .int .i64 f, .int .i64 c]] w fun e w' => e = .returned (.tuple #[.bool (holdsO x t r f c).1, .int .i64 (holdsO x t r f c).2]) ∧ Below w.heap.size w w' := by
  have HT := Lib.hid (fun W (hW : Below w.heap.size w W) => tcond_any S x A m d W (h.below hW) hz)
  have HV := Lib.hid (fun W (hW : Below w.heap.size w W) => env_any t r f c W (hs.below hW))
  have HH := Lib.hid (fun W (hW : Below w.heap.size w W) (ho : okC x = true) => hld_all (x.ps.cnt + 1) S x A m d t r f c W (Nat.lt_succ_self _) ho (h.below hW))
  have HO := Lib.hid (show holdsO x t r f c = if tcond x ≠ 0 then (false, tcond x) else if envE t r f c ≠ 0 then (false, envE t r f c) else (ev (envV t r f c) x, 0) from rfl)
  generalize holdsO x t r f c = z at HO ⊢
  have HK := Lib.hid (tcond_zero (c := x))
  generalize envE t r f c = ee at HV HO
  clear h hz hs
  unfold cV at HT
  dsimp only [vi] at HT
  go_enter Tryz.func27, Tryz.ntmps27
  go_wp2_with (fail)
  first | (refine calls_named ?_; intro W hW) | (refine body_named ?_; intro W hW) | (refine wpList_named ?_; intro W hW) | (refine wp_named ?_; intro W hW)
  have hb : Below w.heap.size w W := by rw [← hW]; exact ((Below.refl _ _).alloc (Nat.le_refl _) _).alloc (by simp) _
  have hx : Blk W w.heap.size 24 #[.int .i64 x.k, .int .i64 x.v, .int .i64 x.n, .slice A m d] := by rw [← hW]; exact (Blk.new w _ _).alloc _
  have hq : Blk W (w.heap.size + 1) 49 #[.int .i64 t, .int .i64 r, .int .i64 f, .int .i64 c] := by
    rw [← hW, ← World.size_alloc w]
    exact Blk.new _ _ _
  clear hW
  have HB := Lib.hid hb
  have HX := Lib.hid hx
  have HQ := Lib.hid hq
  clear hb hx hq
  refine (HT.out W HB.out).mono ?_
  rintro e w2 ⟨rfl, hb2⟩
  have HB2 := Lib.hid (HB.out.trans (hb2.mono HB.out.size))
  have HX2 := Lib.hid (HX.out.below hb2 HX.out.lt)
  have HQ2 := Lib.hid (HQ.out.below hb2 HQ.out.lt)
  clear hb2 HX HQ
  by_cases h0 : tcond x = 0
  · have HO2 := Lib.hid (HO.out.trans (if_neg (Classical.not_not.2 h0)))
    have HOK := Lib.hid (HK.out h0)
    rw [h0]
    clear h0 HO
    have q0 := HQ2.out.cell 0
    have q1 := HQ2.out.cell 1
    have q2 := HQ2.out.cell 2
    have q3 := HQ2.out.cell 3
    have ql := HQ2.out.lt
    go_wp2_with (fail)
    refine (HV.out w2 HB2.out).mono ?_
    rintro e w3 ⟨rfl, hb3⟩
    have HB3 := Lib.hid (HB2.out.trans (hb3.mono HB2.out.size))
    have HX3 := Lib.hid (HX2.out.below hb3 HX2.out.lt)
    have HQ3 := Lib.hid (HQ2.out.below hb3 HQ2.out.lt)
    clear hb3 HX2 HQ2 q0 q1 q2 q3 ql
    by_cases he : ee = 0
    · subst he
      have HO3 := Lib.hid (HO2.out.trans (if_neg (by decide)))
      clear HO2
      have q0 := HQ3.out.cell 0
      have q1 := HQ3.out.cell 1
      have q2 := HQ3.out.cell 2
      have q3 := HQ3.out.cell 3
      have ql := HQ3.out.lt
      have x0 := HX3.out.cell 0
      have x1 := HX3.out.cell 1
      have x2 := HX3.out.cell 2
      have x3 := HX3.out.cell 3
      have xl := HX3.out.lt
      go_wp2_with (fail)
      refine (HH.out w3 HB3.out HOK.out.2.2).mono ?_
      rintro e w4 ⟨rfl, hb4⟩
      have HB4 := Lib.hid (HB3.out.trans (hb4.mono HB3.out.size))
      clear hb4 q0 q1 q2 q3 ql x0 x1 x2 x3 xl
      go_wp2_with (fail)
      go_ret2
      refine ⟨?_, HB4.out⟩
      rw [HO3.out]
      rfl
    · have HO3 := Lib.hid (HO2.out.trans (if_pos he))
      have heb : (ee != 0) = true := bne_iff_ne.2 he
      clear HO2 he
      go_wp2_with (fail)
      go_ret2
      refine ⟨?_, HB3.out⟩
      rw [HO3.out]
      rfl
  · have HO2 := Lib.hid (HO.out.trans (if_pos h0))
    have h0b : (tcond x != 0) = true := bne_iff_ne.2 h0
    generalize tcond x = tc at h0b HO2 ⊢
    clear h0 HO
    go_wp2_with (fail)
    go_ret2
    refine ⟨?_, HB2.out⟩
    rw [HO2.out]
    rfl
end Go.Proofs.YticpjdjdimpglaaGreatDoor
