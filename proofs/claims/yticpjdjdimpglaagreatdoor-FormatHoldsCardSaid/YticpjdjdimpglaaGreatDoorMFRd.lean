/- typing's value, has and Env by their contracts. -/
import Derived.Test.YticpjdjdimpglaaGreatDoorMTRow
import Derived.Test.YticpjdjdimpglaaGreatDoorMSam
import Derived.Test.YticpjdjdimpglaaGreatDoorMWText3
import Derived.Test.YticpjdjdimpglaaGreatDoorMYLaws
import Derived.Test.YticpjdjdimpglaaGreatDoorMFRules
import Derived.Laws.EntriesVeiled
import Derived.Test.YticpjdjdimpglaaGreatDoorMSan
import Derived.Test.YticpjdjdimpglaaGreatDoorMJoinPlain
import Derived.ProofKit
import Derived.HandedShaped
import Derived.OpenShut
import Derived.ShutString
import Derived.Below
import Derived.Handed
import Derived.LaidLaws
import Derived.Lay
import Derived.Shelf.Vars
import Derived.Test.YticpjdjdimpglaaGreatDoorProg
import Derived.Test.YticpjdjdimpglaaGreatDoorRows
import Derived.Lib.LaidTab
import Derived.Stop.LaidErr
import Derived.MakeChecks
import Derived.Test.YticpjdjdimpglaaGreatDoorMCmp2
import Derived.Deep.Slices
import Derived.Deep.Strs
namespace Go.Proofs.YticpjdjdimpglaaGreatDoor
set_option linter.unusedVariables false
set_option linter.unusedSimpArgs false
open Go.RowKit

def envV (t r f c v : Int) : Int := if v = 1 then t else if v = 2 then r else if v = 3 then f else c
def envA (t r f c : Int) : Value := .agg #[.int .i64 t, .int .i64 r, .int .i64 f, .int .i64 c]
set_option maxRecDepth 100000 in
theorem value_any (t r f c v : Int) (w : World) : Calls Tryz.prog 123 #[.int .i64 v, .agg #[.int .i64 t, .int .i64 r, .int .i64 f, .int .i64 c]] w fun e w' => e = .returned (.int .i64 (envV t r f c v)) ∧ Below w.heap.size w w' := by
  have hb : Below w.heap.size w (w.alloc (.cells #[.int .i64 t, .int .i64 r, .int .i64 f, .int .i64 c] 49)) := (Below.refl _ _).alloc (Nat.le_refl _) _
  by_cases h1 : v = 1
  · subst h1
    go_enter Tryz.func123, Tryz.ntmps123
    go_wp2_with (fail)
    go_ret
    exact ⟨rfl, hb⟩
  by_cases h2 : v = 2
  · subst h2
    go_enter Tryz.func123, Tryz.ntmps123
    go_wp2_with (fail)
    go_ret
    exact ⟨rfl, hb⟩
  by_cases h3 : v = 3
  · subst h3
    go_enter Tryz.func123, Tryz.ntmps123
    go_wp2_with (fail)
    go_ret
    exact ⟨rfl, hb⟩
  have HE := Lib.hid (show envV t r f c v = c by unfold envV; rw [if_neg h1, if_neg h2, if_neg h3])
  have g1 : (v == 1) = false := by simpa using h1
  have g2 : (v == 2) = false := by simpa using h2
  have g3 : (v == 3) = false := by simpa using h3
  clear h1 h2 h3
  go_enter Tryz.func123, Tryz.ntmps123
  go_wp2_with (fail)
  go_ret
  exact ⟨by rw [HE.out]; rfl, hb⟩
set_option maxRecDepth 100000 in
theorem has_any (lo hi n : Int) (w : World) : Calls Tryz.prog 122 #[.agg #[.int .i64 lo, .int .i64 hi], .int .i64 n] w fun e w' => e = .returned (.bool (decide (lo ≤ n) && decide (n ≤ hi))) ∧ Below w.heap.size w w' := by
  have hb : Below w.heap.size w (w.alloc (.cells #[.int .i64 lo, .int .i64 hi] 154)) := (Below.refl _ _).alloc (Nat.le_refl _) _
  by_cases h1 : lo ≤ n
  · by_cases h2 : n ≤ hi
    · go_enter Tryz.func122, Tryz.ntmps122
      go_wp2_with (fail)
      go_ret
      exact ⟨by simp [h1, h2], hb⟩
    · go_enter Tryz.func122, Tryz.ntmps122
      go_wp2_with (fail)
      go_ret
      exact ⟨by simp [h1, h2], hb⟩
  · go_enter Tryz.func122, Tryz.ntmps122
    go_wp2_with (fail)
    go_ret
    exact ⟨by rw [decide_eq_false (show ¬ lo ≤ n by omega)]; rfl, hb⟩
def spanL : List Int := [0, 0, 2, 24, 0, 46, 0, 1, 2, 24]
def SpanIs (w : World) : Prop := ∀ i v, spanL[i]? = some v → w.cell? ⟨1, i, none⟩ = some (.int .i64 v)
theorem SpanIs.below {w w' : World} (h : SpanIs w) (hb : Below w.heap.size w w') : SpanIs w' := fun i v hi => (hb.cell (p := ⟨_, i, none⟩) (World.block_lt_of_cell? w _ (h i v hi))).trans (h i v hi)
def spLo (i : Nat) : Int := if i = 1 then 2 else if i = 2 then 0 else if i = 3 then 0 else 2
def spHi (i : Nat) : Int := if i = 1 then 24 else if i = 2 then 46 else if i = 3 then 1 else 24
theorem span_at {w : World} (h : SpanIs w) {i : Nat} (h1 : 1 ≤ i) (h4 : i ≤ 4) : w.cell? ⟨1, i * 2, none⟩ = some (.int .i64 (spLo i)) ∧ w.cell? ⟨1, i * 2 + 1, none⟩ = some (.int .i64 (spHi i)) := by
  have : i = 1 ∨ i = 2 ∨ i = 3 ∨ i = 4 := by omega
  rcases this with rfl | rfl | rfl | rfl
  · exact ⟨h 2 _ rfl, h 3 _ rfl⟩
  · exact ⟨h 4 _ rfl, h 5 _ rfl⟩
  · exact ⟨h 6 _ rfl, h 7 _ rfl⟩
  · exact ⟨h 8 _ rfl, h 9 _ rfl⟩
theorem ix_spans (i : Nat) (h : i < 5) (W : World) : (Instr.indexAt 155 (.pointer (some ⟨1, 0, none⟩)) (.int .i64 (i : Int))).run Tryz.prog W = .ok (.pointer (some ⟨1, i * 2, none⟩)) W := by
  have hz : (Go.sizeOf 154).run Tryz.prog W = .ok 2 W := by kernel_rfl
  have h0 : (0 : Int) ≤ (i : Int) ∧ (i : Int) < 5 := by omega
  simp [Instr.indexAt, run_underlying Tryz.underlying155, Instr.sureAddr, asIntOf, hz, h0, Addr.add, h]
  intro e
  exact e.symm
def okV (t r f c : Int) (i : Nat) : Bool := decide (spLo i ≤ envV t r f c i) && decide (envV t r f c i ≤ spHi i)
/-- Env's answer. -/
def envE (t r f c : Int) : Int := if okV t r f c 1 && (okV t r f c 2 && (okV t r f c 3 && okV t r f c 4)) then 0 else 1
set_option maxHeartbeats 8000000 in
set_option maxRecDepth 100000 in
theorem env_any (t r f c : Int) (w : World) (hs : SpanIs w) : Calls Tryz.prog 71 #[.agg #[.int .i64 t, .int .i64 r, .int .i64 f, .int .i64 c]] w fun e w' => e = .returned (.int .i64 (envE t r f c)) ∧ Below w.heap.size w w' := by
  have HS := Lib.hid hs
  clear hs
  have HE := Lib.hid (show ∀ i : Nat, 1 ≤ i → i ≤ 4 → okV t r f c i = false → envE t r f c = 1 from fun i h1 h2 h => by
    unfold envE
    have : i = 1 ∨ i = 2 ∨ i = 3 ∨ i = 4 := by omega
    rcases this with rfl | rfl | rfl | rfl <;> rw [h] <;> simp)
  have HE0 := Lib.hid (show (∀ i : Nat, 1 ≤ i → i < 5 → okV t r f c i = true) → envE t r f c = 0 from fun h => by
    unfold envE
    rw [h 1 (by omega) (by omega), h 2 (by omega) (by omega), h 3 (by omega) (by omega), h 4 (by omega) (by omega)]
    rfl)
  generalize envE t r f c = z at HE HE0 ⊢
  go_enter Tryz.func71, Tryz.ntmps71
  go_wp2_with (fail)
  have hx0 : Blk (w.alloc (.cells #[.int .i64 t, .int .i64 r, .int .i64 f, .int .i64 c] 49)) w.heap.size 49 #[.int .i64 t, .int .i64 r, .int .i64 f, .int .i64 c] := Blk.new _ _ _
  have hb0 : Below w.heap.size w (w.alloc (.cells #[.int .i64 t, .int .i64 r, .int .i64 f, .int .i64 c] 49)) := (Below.refl _ _).alloc (Nat.le_refl _) _
  generalize w.alloc (.cells #[.int .i64 t, .int .i64 r, .int .i64 f, .int .i64 c] 49) = w0 at hx0 hb0 ⊢
  have HX := Lib.hid hx0
  have HB0 := Lib.hid hb0
  clear hx0 hb0
  go_loopw [3] (fun s wr => ∃ i : Nat, 1 ≤ i ∧ i ≤ 5 ∧ s = .int .i64 i ∧ Hid (∀ j : Nat, 1 ≤ j → j < i → okV t r f c j = true) ∧ Hid (Below w0.heap.size w0 wr)) (fun s _ => 5 - (intOf s).toNat)
  case atStart => exact ⟨1, Nat.le_refl _, by omega, rfl, fun j h1 h2 => by omega, Below.refl _ _⟩
  case round =>
    obtain ⟨i, hi1, hi5, rfl, HC, HB⟩ := hrel
    have HBw := Lib.hid (HB0.out.trans (HB.out.mono HB0.out.size))
    by_cases hlt : i ≤ 4
    · have hi2 : (i : Int) ≤ 4 := by omega
      have ix := ix_spans i (by omega)
      obtain ⟨c0, c1⟩ := span_at (HS.out.below HBw.out) hi1 hlt
      have hgl := World.block_lt_of_cell? wr _ c0
      have hx := HX.out.below HB.out HX.out.lt
      have C0 := cell_by hgl c0
      have C1 := cell_by hgl c1
      have E0 := cell_by hx.lt (show wr.cell? ⟨w.heap.size, 0, none⟩ = some (.int .i64 t) from hx.cell 0)
      have E1 := cell_by hx.lt (show wr.cell? ⟨w.heap.size, 1, none⟩ = some (.int .i64 r) from hx.cell 1)
      have E2 := cell_by hx.lt (show wr.cell? ⟨w.heap.size, 2, none⟩ = some (.int .i64 f) from hx.cell 2)
      have E3 := cell_by hx.lt (show wr.cell? ⟨w.heap.size, 3, none⟩ = some (.int .i64 c) from hx.cell 3)
      have hc1 : ∀ p : BelowBy wr, _ := calls_by fun W hW => value_any t r f c (i : Int) W
      have hc2 : ∀ p : BelowBy wr, _ := calls_by fun W hW => has_any (spLo i) (spHi i) (envV t r f c i) W
      have hi0 : (0 : Int) ≤ (i : Int) := by omega
      have hi6 : (i : Int) < 5 := by omega
      have HOK := Lib.hid (show okV t r f c i = (decide (spLo i ≤ envV t r f c i) && decide (envV t r f c i ≤ spHi i)) from rfl)
      generalize (decide (spLo i ≤ envV t r f c i) && decide (envV t r f c i ≤ spHi i)) = ok at hc2 HOK
      generalize envV t r f c (i : Int) = ev at hc1 hc2
      generalize spLo i = lo at C0 hc2
      generalize spHi i = hi at C1 hc2
      clear hgl hx c0 c1
      go_wp2_with (fail)
      refine wp_region_below mixF (by kernel_rfl) ?_
      repeat (go_big_quiet_step (first | (go_at_call 123; with_reducible exact hc1 _) | (go_at_call 122; with_reducible exact hc2 _)))
      refine wpQuiet_nil ?_
      intro _ hw'
      obtain ⟨⟨wq, hbq⟩, hw2⟩ := hw'
      subst hw2
      have HB2 := Lib.hid (HB.out.trans (hbq.mono HB.out.size))
      have HB3 := Lib.hid (HBw.out.trans (hbq.mono HBw.out.size))
      clear C0 C1 E0 E1 E2 E3 hc1 hc2 ix hbq
      cases ok
      · have HZ := Lib.hid (HE.out i hi1 hlt HOK.out)
        go_wp2_with (fail)
        go_ret
        exact ⟨by rw [HZ.out]; rfl, HB3.out⟩
      · go_wp2_with (fail)
        go_roundw
        case rel => exact ⟨i + 1, by omega, by omega, by go_num, fun j h1 h2 => by
          by_cases hj : j = i
          · rw [hj]; exact HOK.out
          · exact HC.out j h1 (by omega), HB2.out⟩
        case measure => simp [intOf]; omega
    · obtain rfl : i = 5 := by omega
      have HZ := Lib.hid (HE0.out fun j h1 h2 => HC.out j h1 h2)
      go_wp2_with (fail)
      go_ret
      exact ⟨by rw [HZ.out]; rfl, HBw.out⟩
end Go.Proofs.YticpjdjdimpglaaGreatDoor

/- typing's holds, its closures and Holds by their contracts. (Printed by wip/bin/genhld.py.) -/
namespace Go.Proofs.YticpjdjdimpglaaGreatDoor
set_option linter.unusedVariables false
set_option linter.unusedSimpArgs false
open Go.RowKit

/-- The contract of holds for conditions of a size. -/
def HLD (N : Nat) : Prop := ∀ (S : Nat → Prop) (x : CT) (A : Option Addr) (m d : Nat) (t r f c : Int) (w : World), x.ps.cnt < N → okC x = true → RepH S w x.ps A m d →
  Calls Tryz.prog 72 #[.agg #[.int .i64 x.k, .int .i64 x.v, .int .i64 x.n, .slice A m d], .agg #[.int .i64 t, .int .i64 r, .int .i64 f, .int .i64 c]] w fun e w' => e = .returned (.bool (ev (envV t r f c) x)) ∧ Below w.heap.size w w'
theorem Blk.at_endH {w : World} {b : Nat} {t : TypeId} {cs : Array Value} (h : b = w.heap.size) : Blk (w.alloc (.cells cs t)) b t cs := by subst h; exact Blk.new _ _ _
theorem cnt_mem {F : CF} {x : CT} (h : x ∈ F.toL) : x.ps.cnt < F.cnt := by
  induction F with
  | nil => cases h
  | cons k v n ps r _ ih =>
    rw [CF.toL] at h
    rw [CF.cnt]
    rcases List.mem_cons.1 h with rfl | h
    · show ps.cnt < _; omega
    · have := ih h; omega
set_option maxHeartbeats 4000000 in
set_option maxRecDepth 100000 in
theorem hld1_any (N : Nat) (ih : HLD N) (S : Nat → Prop) (x : CT) (A : Option Addr) (m d : Nat) (t r f c : Int) (q : Nat) (w : World) (hN : x.ps.cnt < N) (hok : okC x = true) (h : RepH S w x.ps A m d) (hq : Blk w q 49 #[.int .i64 t, .int .i64 r, .int .i64 f, .int .i64 c]) :
    Calls Tryz.prog 124 #[.agg #[.int .i64 x.k, .int .i64 x.v, .int .i64 x.n, .slice A m d], .pointer (some ⟨q, 0, none⟩)] w fun e w' => e = .returned (.bool (ev (envV t r f c) x)) ∧ Below w.heap.size w w' := by
  have HC := Lib.hid (fun W (hW : Below w.heap.size w W) => ih S x A m d t r f c W hN hok (h.below hW))
  have HQ := Lib.hid hq
  have ql := hq.lt
  clear ih hN hok h hq
  go_enter Tryz.func124, Tryz.ntmps124
  have hb0 : Below w.heap.size w (w.alloc (.cells #[.int .i64 x.k, .int .i64 x.v, .int .i64 x.n, .slice A m d] 24)) := (Below.refl _ _).alloc (Nat.le_refl _) _
  have hq0 := HQ.out.below hb0 ql
  have x0 := hq0.cell 0
  have x1 := hq0.cell 1
  have x2 := hq0.cell 2
  have x3 := hq0.cell 3
  have ql0 := hq0.lt
  have HB0 := Lib.hid hb0
  clear hb0 hq0
  go_wp2_with (fail)
  refine (HC.out _ HB0.out).mono ?_
  rintro e w1 ⟨rfl, hb⟩
  have HB1 := Lib.hid (HB0.out.trans (hb.mono HB0.out.size))
  clear hb x0 x1 x2 x3
  go_wp2_with (fail)
  go_ret
  exact ⟨rfl, HB1.out⟩
set_option maxHeartbeats 4000000 in
set_option maxRecDepth 100000 in
theorem hld2_any (N : Nat) (ih : HLD N) (S : Nat → Prop) (x : CT) (A : Option Addr) (m d : Nat) (t r f c : Int) (q u : Nat) (w : World) (hN : x.ps.cnt < N) (hok : okC x = true) (h : RepH S w x.ps A m d) (hq : Blk w q 49 #[.int .i64 t, .int .i64 r, .int .i64 f, .int .i64 c]) (hu : Blk w u 30 #[.func (.func 124) #[] #[.pointer (some ⟨q, 0, none⟩)]]) :
    Calls Tryz.prog 126 #[.agg #[.int .i64 x.k, .int .i64 x.v, .int .i64 x.n, .slice A m d], .pointer (some ⟨u, 0, none⟩)] w fun e w' => e = .returned (.bool (!ev (envV t r f c) x)) ∧ Below w.heap.size w w' := by
  have HC := Lib.hid (fun W (hW : Below w.heap.size w W) => hld1_any N ih S x A m d t r f c q W hN hok (h.below hW) (hq.below hW hq.lt))
  have hb0 : Below w.heap.size w (w.alloc (.cells #[.int .i64 x.k, .int .i64 x.v, .int .i64 x.n, .slice A m d] 24)) := (Below.refl _ _).alloc (Nat.le_refl _) _
  have hu0 := hu.below hb0 hu.lt
  have u0 := hu0.cell 0
  have ul := hu0.lt
  have ul2 := hu.lt
  have HB0 := Lib.hid hb0
  clear ih hN hok h hq hu hb0 hu0
  go_enter Tryz.func126, Tryz.ntmps126
  go_wp2_with (fail)
  refine (HC.out _ HB0.out).mono ?_
  rintro e w1 ⟨rfl, hb⟩
  have HB1 := Lib.hid (HB0.out.trans (hb.mono HB0.out.size))
  clear hb u0
  go_wp2_with (fail)
  go_ret
  exact ⟨rfl, HB1.out⟩
set_option maxHeartbeats 4000000 in
set_option maxRecDepth 100000 in
theorem cifA_any (N : Nat) (ih : HLD N) (S : Nat → Prop) (F : CF) (A : Option Addr) (m d : Nat) (t r f c : Int) (q u : Nat) (w : World) (hN : F.cnt ≤ N) (hok : F.okB = true) (h : RepH S w F A m d) (hq : Blk w q 49 #[.int .i64 t, .int .i64 r, .int .i64 f, .int .i64 c]) :
    Calls Tryz.prog 165 #[.slice A m d, .func (.func 124) #[] #[.pointer (some ⟨q, 0, none⟩)]] w fun e w' => (∃ n : Int, e = .returned (.int .i64 n) ∧ decide (n ≥ 0) = F.toL.any (fun x => ev (envV t r f c) x)) ∧ Below w.heap.size w w' := by
  have HI := Lib.hid ih
  have HR := Lib.hid h
  have HQ := Lib.hid hq
  have HN := Lib.hid hN
  have HOK := Lib.hid (okB_mem hok)
  have HL := Lib.hid (h.len.trans (toL_len F).symm)
  have hcap := h.choose_spec.1.cap
  have hbig := h.choose_spec.1.big

  clear ih h hq hN hok
  go_enter Tryz.func165, Tryz.ntmps165
  go_wp2_with (fail)
  go_loopw [8] (fun s wr => ∃ i : Nat, i ≤ m ∧ s = .int .i64 i ∧ Hid (Below w.heap.size w wr) ∧ Hid ((F.toL.take i).any (fun x => ev (envV t r f c) x) = false)) (fun s _ => m - (intOf s).toNat)
  case atStart => exact ⟨0, Nat.zero_le _, rfl, Below.refl _ _, by simp [Hid]⟩
  case round =>
    obtain ⟨i, him, rfl, HB, HA⟩ := hrel
    by_cases hlt : i < m
    · obtain ⟨b, off, x, B, n1, e1, rfl, hb, hS, hf, h0, h1, h2, h3, hr⟩ := HR.out.elem hlt
      rw [← HB.out.cell (p := ⟨b, _, none⟩) hb] at h0 h1 h2 h3
      have HF := Lib.hid hf
      have HRx := Lib.hid hr
      have HMx := Lib.hid (show x ∈ F.toL by obtain ⟨h1, h2⟩ := List.getElem?_eq_some_iff.1 hf; rw [← h2]; exact List.getElem_mem h1)
      have hi2 : (i : Int) < (m : Int) := by omega
      clear hf hr hS
      go_wp2_with (fail)
      refine (hld1_any N HI.out S x B n1 e1 t r f c q wr (by have h5 := cnt_mem HMx.out; have h6 := HN.out; omega) (HOK.out x HMx.out) (HRx.out.below HB.out) (HQ.out.below HB.out HQ.out.lt)).mono ?_
      rintro e w1 ⟨rfl, hb⟩
      have HB1 := Lib.hid (HB.out.trans (hb.mono HB.out.size))
      clear hb h0 h1 h2 h3
      cases ho : ev (envV t r f c) x with
      | false =>
        have HA1 := Lib.hid (show (F.toL.take (i + 1)).any (fun x => ev (envV t r f c) x) = false by
          obtain ⟨h1, h2⟩ := List.getElem?_eq_some_iff.1 HF.out
          rw [List.take_succ_eq_append_getElem h1, h2, List.any_append, HA.out, List.any_cons, ho]
          rfl)
        clear ho
        go_wp2_with (fail)
        go_roundw
        case rel => exact ⟨i + 1, hlt, by go_num, HB1.out, HA1.out⟩
        case measure => simp [intOf]; omega
      | true =>
        have HA1 := Lib.hid (show F.toL.any (fun x => ev (envV t r f c) x) = true by
          rw [List.any_eq_true]
          exact ⟨x, HMx.out, ho⟩)
        clear ho
        go_wp2_with (fail)
        go_ret
        exact ⟨⟨i, rfl, by rw [HA1.out]; simp⟩, HB1.out⟩
    · have HA1 := Lib.hid (show F.toL.any (fun x => ev (envV t r f c) x) = false by
        have h1 := HA.out
        rw [List.take_of_length_le (by rw [← HL.out]; omega)] at h1
        exact h1)
      go_wp2_with (fail)
      go_ret
      exact ⟨⟨-1, rfl, by rw [HA1.out]; rfl⟩, HB.out⟩
set_option maxHeartbeats 4000000 in
set_option maxRecDepth 100000 in
theorem ccfA_any (N : Nat) (ih : HLD N) (S : Nat → Prop) (F : CF) (A : Option Addr) (m d : Nat) (t r f c : Int) (q u : Nat) (w : World) (hN : F.cnt ≤ N) (hok : F.okB = true) (h : RepH S w F A m d) (hq : Blk w q 49 #[.int .i64 t, .int .i64 r, .int .i64 f, .int .i64 c]) :
    Calls Tryz.prog 125 #[.slice A m d, .func (.func 124) #[] #[.pointer (some ⟨q, 0, none⟩)]] w fun e w' => e = .returned (.bool (F.toL.any (fun x => ev (envV t r f c) x))) ∧ Below w.heap.size w w' := by
  have HC := Lib.hid (cifA_any N ih S F A m d t r f c q u w hN hok h hq)
  clear ih h hq hN hok
  go_enter Tryz.func125, Tryz.ntmps125
  go_wp2_with (fail)
  refine HC.out.mono ?_
  rintro e w1 ⟨⟨n, rfl, hn⟩, hb⟩
  have HB := Lib.hid hb
  have HN := Lib.hid hn
  clear hb hn
  go_wp2
  go_ret
  exact ⟨congrArg (fun b => Ending.returned (Value.bool b)) HN.out, HB.out⟩
set_option maxHeartbeats 4000000 in
set_option maxRecDepth 100000 in
theorem cifB_any (N : Nat) (ih : HLD N) (S : Nat → Prop) (F : CF) (A : Option Addr) (m d : Nat) (t r f c : Int) (q u : Nat) (w : World) (hN : F.cnt ≤ N) (hok : F.okB = true) (h : RepH S w F A m d) (hq : Blk w q 49 #[.int .i64 t, .int .i64 r, .int .i64 f, .int .i64 c]) (hu : Blk w u 30 #[.func (.func 124) #[] #[.pointer (some ⟨q, 0, none⟩)]]) :
    Calls Tryz.prog 165 #[.slice A m d, .func (.func 126) #[] #[.pointer (some ⟨u, 0, none⟩)]] w fun e w' => (∃ n : Int, e = .returned (.int .i64 n) ∧ decide (n ≥ 0) = F.toL.any (fun x => !ev (envV t r f c) x)) ∧ Below w.heap.size w w' := by
  have HI := Lib.hid ih
  have HR := Lib.hid h
  have HQ := Lib.hid hq
  have HN := Lib.hid hN
  have HOK := Lib.hid (okB_mem hok)
  have HL := Lib.hid (h.len.trans (toL_len F).symm)
  have hcap := h.choose_spec.1.cap
  have hbig := h.choose_spec.1.big
  have HU := Lib.hid hu
  clear hu
  clear ih h hq hN hok
  go_enter Tryz.func165, Tryz.ntmps165
  go_wp2_with (fail)
  go_loopw [8] (fun s wr => ∃ i : Nat, i ≤ m ∧ s = .int .i64 i ∧ Hid (Below w.heap.size w wr) ∧ Hid ((F.toL.take i).any (fun x => !ev (envV t r f c) x) = false)) (fun s _ => m - (intOf s).toNat)
  case atStart => exact ⟨0, Nat.zero_le _, rfl, Below.refl _ _, by simp [Hid]⟩
  case round =>
    obtain ⟨i, him, rfl, HB, HA⟩ := hrel
    by_cases hlt : i < m
    · obtain ⟨b, off, x, B, n1, e1, rfl, hb, hS, hf, h0, h1, h2, h3, hr⟩ := HR.out.elem hlt
      rw [← HB.out.cell (p := ⟨b, _, none⟩) hb] at h0 h1 h2 h3
      have HF := Lib.hid hf
      have HRx := Lib.hid hr
      have HMx := Lib.hid (show x ∈ F.toL by obtain ⟨h1, h2⟩ := List.getElem?_eq_some_iff.1 hf; rw [← h2]; exact List.getElem_mem h1)
      have hi2 : (i : Int) < (m : Int) := by omega
      clear hf hr hS
      go_wp2_with (fail)
      refine (hld2_any N HI.out S x B n1 e1 t r f c q u wr (by have h5 := cnt_mem HMx.out; have h6 := HN.out; omega) (HOK.out x HMx.out) (HRx.out.below HB.out) (HQ.out.below HB.out HQ.out.lt) (HU.out.below HB.out HU.out.lt)).mono ?_
      rintro e w1 ⟨rfl, hb⟩
      have HB1 := Lib.hid (HB.out.trans (hb.mono HB.out.size))
      clear hb h0 h1 h2 h3
      cases ho : !ev (envV t r f c) x with
      | false =>
        have HA1 := Lib.hid (show (F.toL.take (i + 1)).any (fun x => !ev (envV t r f c) x) = false by
          obtain ⟨h1, h2⟩ := List.getElem?_eq_some_iff.1 HF.out
          rw [List.take_succ_eq_append_getElem h1, h2, List.any_append, HA.out, List.any_cons, ho]
          rfl)
        clear ho
        go_wp2_with (fail)
        go_roundw
        case rel => exact ⟨i + 1, hlt, by go_num, HB1.out, HA1.out⟩
        case measure => simp [intOf]; omega
      | true =>
        have HA1 := Lib.hid (show F.toL.any (fun x => !ev (envV t r f c) x) = true by
          rw [List.any_eq_true]
          exact ⟨x, HMx.out, ho⟩)
        clear ho
        go_wp2_with (fail)
        go_ret
        exact ⟨⟨i, rfl, by rw [HA1.out]; simp⟩, HB1.out⟩
    · have HA1 := Lib.hid (show F.toL.any (fun x => !ev (envV t r f c) x) = false by
        have h1 := HA.out
        rw [List.take_of_length_le (by rw [← HL.out]; omega)] at h1
        exact h1)
      go_wp2_with (fail)
      go_ret
      exact ⟨⟨-1, rfl, by rw [HA1.out]; rfl⟩, HB.out⟩
set_option maxHeartbeats 4000000 in
set_option maxRecDepth 100000 in
theorem ccfB_any (N : Nat) (ih : HLD N) (S : Nat → Prop) (F : CF) (A : Option Addr) (m d : Nat) (t r f c : Int) (q u : Nat) (w : World) (hN : F.cnt ≤ N) (hok : F.okB = true) (h : RepH S w F A m d) (hq : Blk w q 49 #[.int .i64 t, .int .i64 r, .int .i64 f, .int .i64 c]) (hu : Blk w u 30 #[.func (.func 124) #[] #[.pointer (some ⟨q, 0, none⟩)]]) :
    Calls Tryz.prog 125 #[.slice A m d, .func (.func 126) #[] #[.pointer (some ⟨u, 0, none⟩)]] w fun e w' => e = .returned (.bool (F.toL.any (fun x => !ev (envV t r f c) x))) ∧ Below w.heap.size w w' := by
  have HC := Lib.hid (cifB_any N ih S F A m d t r f c q u w hN hok h hq hu)
  clear ih h hq hN hok hu
  go_enter Tryz.func125, Tryz.ntmps125
  go_wp2_with (fail)
  refine HC.out.mono ?_
  rintro e w1 ⟨⟨n, rfl, hn⟩, hb⟩
  have HB := Lib.hid hb
  have HN := Lib.hid hn
  clear hb hn
  go_wp2
  go_ret
  exact ⟨congrArg (fun b => Ending.returned (Value.bool b)) HN.out, HB.out⟩
set_option maxHeartbeats 8000000 in
set_option maxRecDepth 100000 in
theorem hld_of (N : Nat) (ih : HLD N) : HLD (N + 1) := by
  intro S x A m d t r f c w hN hok h
  have HI := Lib.hid ih
  have HR := Lib.hid h
  have HN := Lib.hid hN
  have HML := Lib.hid h.len
  have HC := Lib.hid (okC_cases hok)
  have HD := Lib.hid (ev_def (envV t r f c) x)
  have hcap := h.choose_spec.1.cap
  have hbig := h.choose_spec.1.big
  clear ih h hN hok
  by_cases hk1 : x.k = 1
  · have HE := Lib.hid (show ev (envV t r f c) x = decide (x.n ≤ envV t r f c x.v) by rw [HD.out, if_pos hk1])
    have g1 : (x.k == 1) = true := by rw [hk1]; rfl
    clear hk1 HC HD
    generalize ev (envV t r f c) x = z at HE ⊢
    go_enter Tryz.func72, Tryz.ntmps72
    go_wp2_with (fail)
    first | (refine calls_named ?_; intro W hW) | (refine body_named ?_; intro W hW) | (refine wpList_named ?_; intro W hW) | (refine wp_named ?_; intro W hW)
    have hb : Below w.heap.size w W := by rw [← hW]; exact (((Below.refl _ _).alloc (Nat.le_refl _) _).alloc (by simp) _).alloc (by simp; omega) _
    have hx : Blk W w.heap.size 24 #[.int .i64 x.k, .int .i64 x.v, .int .i64 x.n, .slice A m d] := by rw [← hW]; exact ((Blk.new w _ _).alloc _).alloc _
    have hq : Blk W (w.heap.size + 1) 49 #[.int .i64 t, .int .i64 r, .int .i64 f, .int .i64 c] := by
      rw [← hW, ← World.size_alloc w]
      exact (Blk.new _ _ _).alloc _
    have hu : Blk W (w.heap.size + 1 + 1) 30 #[.func (.func 124) #[] #[.pointer (some ⟨w.heap.size + 1, 0, none⟩)]] := by rw [← hW]; exact Blk.at_endH (by simp [World.size_alloc])
    clear hW
    have X0 := cell_by hx.lt (show W.cell? ⟨w.heap.size, 0, none⟩ = some (.int .i64 x.k) from hx.cell 0)
    have X1 := cell_by hx.lt (show W.cell? ⟨w.heap.size, 1, none⟩ = some (.int .i64 x.v) from hx.cell 1)
    have X2 := cell_by hx.lt (show W.cell? ⟨w.heap.size, 2, none⟩ = some (.int .i64 x.n) from hx.cell 2)
    have E0 := cell_by hq.lt (show W.cell? ⟨w.heap.size + 1, 0, none⟩ = some (.int .i64 t) from hq.cell 0)
    have E1 := cell_by hq.lt (show W.cell? ⟨w.heap.size + 1, 1, none⟩ = some (.int .i64 r) from hq.cell 1)
    have E2 := cell_by hq.lt (show W.cell? ⟨w.heap.size + 1, 2, none⟩ = some (.int .i64 f) from hq.cell 2)
    have E3 := cell_by hq.lt (show W.cell? ⟨w.heap.size + 1, 3, none⟩ = some (.int .i64 c) from hq.cell 3)
    have hc1 : ∀ p : BelowBy W, _ := calls_by fun W' hW => value_any t r f c x.v W'
    generalize envV t r f c x.v = vv at hc1 HE
    have HB := Lib.hid hb
    clear hx hq hu hb
    refine wp_region_below mixF (by kernel_rfl) ?_
    repeat (go_big_quiet_step (first | (go_at_call 123; with_reducible exact hc1 _)))
    refine wpQuiet_nil ?_
    intro _ hw'
    obtain ⟨⟨wq, hbq⟩, hw2⟩ := hw'
    subst hw2
    have HB2 := Lib.hid (HB.out.trans (hbq.mono HB.out.size))
    clear X0 X1 X2 E0 E1 E2 E3 hc1 hbq
    go_wp2_with (fail)
    go_ret
    exact ⟨by rw [HE.out]; rfl, HB2.out⟩
  · by_cases hk4 : x.k = 4
    · have HC4 := Lib.hid (show x.ps.num = 1 ∧ x.ps.okB = true by
        rcases HC.out with h | h | h
        · exact absurd h.1 hk1
        · exact ⟨h.2.2.2.1, h.2.2.2.2⟩
        · have := h.1; omega)
      have hm1 : 0 < m := by have h1 := HML.out; have h2 := HC4.out.1; rw [num_len] at h2; omega
      obtain ⟨b, off, y, B, n1, e1, rfl, hbb, hSb, hy, g0, g1, g2, g3, hr⟩ := HR.out.elem hm1
      simp only [Nat.zero_mul, Nat.add_zero] at g0 g1 g2 g3
      have HY := Lib.hid (show ev (envV t r f c) x = !ev (envV t r f c) y from by
        cases hl : x.ps.toL with
        | nil => rw [hl] at hy; cases hy
        | cons p q =>
          rw [hl] at hy
          injection hy with hy
          rw [← hy]
          exact ev_not _ hk4 hl)
      have HYM := Lib.hid (show y ∈ x.ps.toL by obtain ⟨h1, h2⟩ := List.getElem?_eq_some_iff.1 hy; rw [← h2]; exact List.getElem_mem h1)
      have HRy := Lib.hid hr
      have k1 : (x.k == 1) = false := by simpa using hk1
      have k4 : (x.k == 4) = true := by rw [hk4]; rfl
      clear hk1 hk4 HC HD hy hr hSb
      generalize ev (envV t r f c) x = z at HY ⊢
      go_enter Tryz.func72, Tryz.ntmps72
      go_wp2_with (fail)
      first | (refine calls_named ?_; intro W hW) | (refine body_named ?_; intro W hW) | (refine wpList_named ?_; intro W hW) | (refine wp_named ?_; intro W hW)
      have hb : Below w.heap.size w W := by rw [← hW]; exact (((Below.refl _ _).alloc (Nat.le_refl _) _).alloc (by simp) _).alloc (by simp; omega) _
      have hx : Blk W w.heap.size 24 #[.int .i64 x.k, .int .i64 x.v, .int .i64 x.n, .slice (some ⟨b, off, none⟩) m d] := by rw [← hW]; exact ((Blk.new w _ _).alloc _).alloc _
      have hq : Blk W (w.heap.size + 1) 49 #[.int .i64 t, .int .i64 r, .int .i64 f, .int .i64 c] := by
        rw [← hW, ← World.size_alloc w]
        exact (Blk.new _ _ _).alloc _
      have hu : Blk W (w.heap.size + 1 + 1) 30 #[.func (.func 124) #[] #[.pointer (some ⟨w.heap.size + 1, 0, none⟩)]] := by rw [← hW]; exact Blk.at_endH (by simp [World.size_alloc])
      clear hW
      have hz := hb.size
      rw [← hb.cell (p := ⟨b, _, none⟩) hbb] at g0 g1 g2 g3
      have hbl : b < W.heap.size := by omega
      have X3 := cell_by hx.lt (show W.cell? ⟨w.heap.size, 3, none⟩ = some (.slice (some ⟨b, off, none⟩) m d) from hx.cell 3)
      have U0 := cell_by hu.lt (show W.cell? ⟨w.heap.size + 1 + 1, 0, none⟩ = some (.func (.func 124) #[] #[.pointer (some ⟨w.heap.size + 1, 0, none⟩)]) from hu.cell 0)
      have Y0 := cell_by hbl g0
      have Y1 := cell_by hbl g1
      have Y2 := cell_by hbl g2
      have Y3 := cell_by hbl g3
      have hc1 : ∀ p : BelowBy W, _ := calls_by fun W' hW => hld1_any N HI.out S y B n1 e1 t r f c (w.heap.size + 1) W' (by have h5 := cnt_mem HYM.out; have h6 := HN.out; omega) (okB_mem HC4.out.2 y HYM.out) (HRy.out.below (hb.trans (hW.mono hz))) (hq.below hW hq.lt)
      have eg : ∀ args w, (callFunc 124 args).run Tryz.prog w = .ok (.enter 124 args) w := enters_of Tryz.func124 (by kernel_rfl) rfl
      have hm2 : (0 : Int) < (m : Int) := by omega
      generalize ev (envV t r f c) y = vv at hc1 HY
      have HB := Lib.hid hb
      clear hx hq hu hb g0 g1 g2 g3
      refine wp_region_below mixF (by kernel_rfl) ?_
      repeat (go_big_quiet_step (first | (go_at_call 124; with_reducible exact hc1 _) | (go_at_fn 124; with_reducible exact hc1 _)))
      refine wpQuiet_nil ?_
      intro _ hw'
      obtain ⟨⟨wq, hbq⟩, hw2⟩ := hw'
      subst hw2
      have HB2 := Lib.hid (HB.out.trans (hbq.mono HB.out.size))
      clear X3 U0 Y0 Y1 Y2 Y3 hc1 hbq eg
      go_wp2_with (fail)
      go_ret
      exact ⟨by rw [HY.out]; rfl, HB2.out⟩
    · have HC2 := Lib.hid (show (x.k = 2 ∨ x.k = 3) ∧ x.ps.okB = true by
        rcases HC.out with h | h | h
        · exact absurd h.1 hk1
        · exact absurd h.1 hk4
        · exact ⟨h.1, h.2.2.2.2.2⟩)
      have k1 : (x.k == 1) = false := by simpa using hk1
      have k4 : (x.k == 4) = false := by simpa using hk4
      clear hk1 hk4 HC HD
      by_cases hk3 : x.k = 3
      · have HE := Lib.hid (ev_or (envV t r f c) hk3)
        have k3 : (x.k == 3) = true := by rw [hk3]; rfl
        clear hk3
        generalize ev (envV t r f c) x = z at HE ⊢
        go_enter Tryz.func72, Tryz.ntmps72
        go_wp2_with (fail)
        first | (refine calls_named ?_; intro W hW) | (refine body_named ?_; intro W hW) | (refine wpList_named ?_; intro W hW) | (refine wp_named ?_; intro W hW)
        have hb : Below w.heap.size w W := by rw [← hW]; exact (((Below.refl _ _).alloc (Nat.le_refl _) _).alloc (by simp) _).alloc (by simp; omega) _
        have hx : Blk W w.heap.size 24 #[.int .i64 x.k, .int .i64 x.v, .int .i64 x.n, .slice A m d] := by rw [← hW]; exact ((Blk.new w _ _).alloc _).alloc _
        have hq : Blk W (w.heap.size + 1) 49 #[.int .i64 t, .int .i64 r, .int .i64 f, .int .i64 c] := by
          rw [← hW, ← World.size_alloc w]
          exact (Blk.new _ _ _).alloc _
        have hu : Blk W (w.heap.size + 1 + 1) 30 #[.func (.func 124) #[] #[.pointer (some ⟨w.heap.size + 1, 0, none⟩)]] := by rw [← hW]; exact Blk.at_endH (by simp [World.size_alloc])
        clear hW
        refine (ccfA_any N HI.out S x.ps A m d t r f c (w.heap.size + 1) 0 W (by have := HN.out; omega) HC2.out.2 (HR.out.below hb) hq).mono ?_
        rintro e w2 ⟨rfl, hb2⟩
        have HB2 := Lib.hid (hb.trans (hb2.mono hb.size))
        clear hb hx hq hu hb2
        go_wp2_with (fail)
        go_ret
        exact ⟨by rw [HE.out]; rfl, HB2.out⟩
      · have HE := Lib.hid (show ev (envV t r f c) x = !(x.ps.toL.any fun y => !ev (envV t r f c) y) by
          rw [ev_and (envV t r f c) (HC2.out.1.resolve_right hk3), List.all_eq_not_any_not])
        have k3 : (x.k == 3) = false := by simpa using hk3
        clear hk3
        generalize ev (envV t r f c) x = z at HE ⊢
        go_enter Tryz.func72, Tryz.ntmps72
        go_wp2_with (fail)
        first | (refine calls_named ?_; intro W hW) | (refine body_named ?_; intro W hW) | (refine wpList_named ?_; intro W hW) | (refine wp_named ?_; intro W hW)
        have hb : Below w.heap.size w W := by rw [← hW]; exact (((Below.refl _ _).alloc (Nat.le_refl _) _).alloc (by simp) _).alloc (by simp; omega) _
        have hx : Blk W w.heap.size 24 #[.int .i64 x.k, .int .i64 x.v, .int .i64 x.n, .slice A m d] := by rw [← hW]; exact ((Blk.new w _ _).alloc _).alloc _
        have hq : Blk W (w.heap.size + 1) 49 #[.int .i64 t, .int .i64 r, .int .i64 f, .int .i64 c] := by
          rw [← hW, ← World.size_alloc w]
          exact (Blk.new _ _ _).alloc _
        have hu : Blk W (w.heap.size + 1 + 1) 30 #[.func (.func 124) #[] #[.pointer (some ⟨w.heap.size + 1, 0, none⟩)]] := by rw [← hW]; exact Blk.at_endH (by simp [World.size_alloc])
        clear hW
        refine (ccfB_any N HI.out S x.ps A m d t r f c (w.heap.size + 1) (w.heap.size + 1 + 1) W (by have := HN.out; omega) HC2.out.2 (HR.out.below hb) hq hu).mono ?_
        rintro e w2 ⟨rfl, hb2⟩
        have HB2 := Lib.hid (hb.trans (hb2.mono hb.size))
        clear hb hx hq hu hb2
        go_wp2_with (fail)
        go_ret
        exact ⟨by rw [HE.out]; rfl, HB2.out⟩
theorem hld_all : ∀ N, HLD N
  | 0 => fun _ _ _ _ _ _ _ _ _ _ h => absurd h (by omega)
  | N + 1 => hld_of N (hld_all N)
/-- Holds' answer. -/
def holdsO (x : CT) (t r f c : Int) : Bool × Int := if tcond x ≠ 0 then (false, tcond x) else if envE t r f c ≠ 0 then (false, envE t r f c) else (ev (envV t r f c) x, 0)
set_option maxHeartbeats 4000000 in
set_option maxRecDepth 100000 in
theorem holds_any (S : Nat → Prop) (x : CT) (A : Option Addr) (m d : Nat) (t r f c : Int) (w : World) (h : RepH S w x.ps A m d) (hz : x.ps.cnt ≤ 999999) (hs : SpanIs w) :
    Calls Tryz.prog 27 #[.agg #[.int .i64 x.k, .int .i64 x.v, .int .i64 x.n, .slice A m d], .agg #[.int .i64 t, .int .i64 r, .int .i64 f, .int .i64 c]] w fun e w' => e = .returned (.tuple #[.bool (holdsO x t r f c).1, .int .i64 (holdsO x t r f c).2]) ∧ Below w.heap.size w w' := by
  have HT := Lib.hid (fun W (hW : Below w.heap.size w W) => tcond_any S x A m d W (h.below hW) hz)
  have HV := Lib.hid (fun W (hW : Below w.heap.size w W) => env_any t r f c W (hs.below hW))
  have HH := Lib.hid (fun W (hW : Below w.heap.size w W) (ho : okC x = true) => hld_all (x.ps.cnt + 1) S x A m d t r f c W (Nat.lt_succ_self _) ho (h.below hW))
  have HO := Lib.hid (show holdsO x t r f c = if tcond x ≠ 0 then (false, tcond x) else if envE t r f c ≠ 0 then (false, envE t r f c) else (ev (envV t r f c) x, 0) from rfl)
  generalize holdsO x t r f c = z at HO ⊢
  have HK := Lib.hid (tcond_zero (c := x))
  generalize envE t r f c = ee at HV HO
  clear h hz hs
  unfold cV at HT
  dsimp only [vi] at HT
  go_enter Tryz.func27, Tryz.ntmps27
  go_wp2_with (fail)
  first | (refine calls_named ?_; intro W hW) | (refine body_named ?_; intro W hW) | (refine wpList_named ?_; intro W hW) | (refine wp_named ?_; intro W hW)
  have hb : Below w.heap.size w W := by rw [← hW]; exact ((Below.refl _ _).alloc (Nat.le_refl _) _).alloc (by simp) _
  have hx : Blk W w.heap.size 24 #[.int .i64 x.k, .int .i64 x.v, .int .i64 x.n, .slice A m d] := by rw [← hW]; exact (Blk.new w _ _).alloc _
  have hq : Blk W (w.heap.size + 1) 49 #[.int .i64 t, .int .i64 r, .int .i64 f, .int .i64 c] := by
    rw [← hW, ← World.size_alloc w]
    exact Blk.new _ _ _
  clear hW
  have HB := Lib.hid hb
  have HX := Lib.hid hx
  have HQ := Lib.hid hq
  clear hb hx hq
  refine (HT.out W HB.out).mono ?_
  rintro e w2 ⟨rfl, hb2⟩
  have HB2 := Lib.hid (HB.out.trans (hb2.mono HB.out.size))
  have HX2 := Lib.hid (HX.out.below hb2 HX.out.lt)
  have HQ2 := Lib.hid (HQ.out.below hb2 HQ.out.lt)
  clear hb2 HX HQ
  by_cases h0 : tcond x = 0
  · have HO2 := Lib.hid (HO.out.trans (if_neg (Classical.not_not.2 h0)))
    have HOK := Lib.hid (HK.out h0)
    rw [h0]
    clear h0 HO
    have q0 := HQ2.out.cell 0
    have q1 := HQ2.out.cell 1
    have q2 := HQ2.out.cell 2
    have q3 := HQ2.out.cell 3
    have ql := HQ2.out.lt
    go_wp2_with (fail)
    refine (HV.out w2 HB2.out).mono ?_
    rintro e w3 ⟨rfl, hb3⟩
    have HB3 := Lib.hid (HB2.out.trans (hb3.mono HB2.out.size))
    have HX3 := Lib.hid (HX2.out.below hb3 HX2.out.lt)
    have HQ3 := Lib.hid (HQ2.out.below hb3 HQ2.out.lt)
    clear hb3 HX2 HQ2 q0 q1 q2 q3 ql
    by_cases he : ee = 0
    · subst he
      have HO3 := Lib.hid (HO2.out.trans (if_neg (by decide)))
      clear HO2
      have q0 := HQ3.out.cell 0
      have q1 := HQ3.out.cell 1
      have q2 := HQ3.out.cell 2
      have q3 := HQ3.out.cell 3
      have ql := HQ3.out.lt
      have x0 := HX3.out.cell 0
      have x1 := HX3.out.cell 1
      have x2 := HX3.out.cell 2
      have x3 := HX3.out.cell 3
      have xl := HX3.out.lt
      go_wp2_with (fail)
      refine (HH.out w3 HB3.out HOK.out.2.2).mono ?_
      rintro e w4 ⟨rfl, hb4⟩
      have HB4 := Lib.hid (HB3.out.trans (hb4.mono HB3.out.size))
      clear hb4 q0 q1 q2 q3 ql x0 x1 x2 x3 xl
      go_wp2_with (fail)
      go_ret2
      refine ⟨?_, HB4.out⟩
      rw [HO3.out]
      rfl
    · have HO3 := Lib.hid (HO2.out.trans (if_pos he))
      have heb : (ee != 0) = true := bne_iff_ne.2 he
      clear HO2 he
      go_wp2_with (fail)
      go_ret2
      refine ⟨?_, HB3.out⟩
      rw [HO3.out]
      rfl
  · have HO2 := Lib.hid (HO.out.trans (if_pos h0))
    have h0b : (tcond x != 0) = true := bne_iff_ne.2 h0
    generalize tcond x = tc at h0b HO2 ⊢
    clear h0 HO
    go_wp2_with (fail)
    go_ret2
    refine ⟨?_, HB2.out⟩
    rw [HO2.out]
    rfl
end Go.Proofs.YticpjdjdimpglaaGreatDoor

/- The reference's count and Few by their contracts. -/
namespace Go.Proofs.YticpjdjdimpglaaGreatDoor
set_option linter.unusedVariables false
set_option linter.unusedSimpArgs false
open Go.RowKit

def sumC (l : List CT) : Nat := (l.map fun x => x.ps.cnt + 1).sum
theorem sumC_toL : ∀ F : CF, sumC F.toL = F.cnt
  | .nil => rfl
  | .cons k v n ps r => by
    have := sumC_toL r
    unfold sumC at this ⊢
    rw [CF.toL, List.map_cons, List.sum_cons, this, CF.cnt]
theorem sumC_app (l m : List CT) : sumC (l ++ m) = sumC l + sumC m := by simp [sumC]
theorem sumC_take {l : List CT} {i : Nat} {x : CT} (h : l[i]? = some x) : sumC (l.take (i + 1)) = sumC (l.take i) + (x.ps.cnt + 1) := by
  rw [List.take_add_one, h, sumC_app]
  rfl
theorem dep_all : ∀ (F : CF) (k : Nat), (∀ x ∈ F.toL, x.ps.dep + 1 ≤ k) → F.dep ≤ k
  | .nil, _, _ => Nat.zero_le _
  | .cons k v n ps r, j, h => by
    have h1 := h ⟨k, v, n, ps⟩ (by simp [CF.toL])
    have h2 := dep_all r j fun x hx => h x (by rw [CF.toL]; exact List.mem_cons_of_mem _ hx)
    rw [CF.dep]
    simp only at h1
    omega
/-- The contract of count for conditions of a size. -/
def CNT (N : Nat) : Prop := ∀ (S : Nat → Prop) (c : CT) (A : Option Addr) (m d : Nat) (dp most : Int) (w : World), c.ps.cnt < N → 0 ≤ most → most ≤ 1000000 → -10 ≤ dp → dp ≤ 1000 → RepH S w c.ps A m d →
  Calls Tryz.prog 40 #[cV c A m d, .int .i64 dp, .int .i64 most] w fun e w' => Below w.heap.size w w' ∧ ∃ r : Int, e = .returned (.int .i64 r) ∧ 1 ≤ r ∧ r ≤ most + 1 ∧ (r ≤ most → r = c.ps.cnt + 1 ∧ (c.ps.dep : Int) + 1 ≤ dp)
set_option maxHeartbeats 8000000 in
set_option maxRecDepth 100000 in
theorem cnt_of (N : Nat) (ih : CNT N) : CNT (N + 1) := by
  intro S c A m d dp most w hN hm0 hm1 hd0 hd1 h
  have HI := Lib.hid ih
  have HR := Lib.hid h
  have HN := Lib.hid hN
  have HL := Lib.hid (h.len.trans (toL_len c.ps).symm)
  have hcap := h.choose_spec.1.cap
  have hbig := h.choose_spec.1.big
  clear ih h hN
  obtain ⟨k, v, n, ps⟩ := c
  unfold cV
  dsimp only [vi]
  dsimp only at HR HN HL ⊢
  go_enter Tryz.func40, Tryz.ntmps40
  by_cases hd : dp ≤ 0
  · go_wp2_with (fail)
    first | (refine calls_named ?_; intro W hW) | (refine body_named ?_; intro W hW) | (refine wpList_named ?_; intro W hW) | (refine wp_named ?_; intro W hW)
    have hb : Below w.heap.size w W := by rw [← hW]; exact (Below.refl _ _).alloc (Nat.le_refl _) _
    clear hW
    go_ret
    exact ⟨hb, most + 1, rfl, by omega, by omega, fun h => by omega⟩
  · have HD := Lib.hid hd
    go_wp2_with (fail)
    have hx0 : Blk (w.alloc (.cells #[.int .i64 k, .int .i64 v, .int .i64 n, .slice A m d] 24)) w.heap.size 24 #[.int .i64 k, .int .i64 v, .int .i64 n, .slice A m d] := Blk.new _ _ _
    have hb0 : Below w.heap.size w (w.alloc (.cells #[.int .i64 k, .int .i64 v, .int .i64 n, .slice A m d] 24)) := (Below.refl _ _).alloc (Nat.le_refl _) _
    generalize w.alloc (.cells #[.int .i64 k, .int .i64 v, .int .i64 n, .slice A m d] 24) = w0 at hx0 hb0 ⊢
    have HX := Lib.hid hx0
    have HB0 := Lib.hid hb0
    clear hx0 hb0
    go_loopw [7, 8] (fun s q wr => ∃ (i : Nat) (nn : Int), i ≤ m ∧ q = .int .i64 i ∧ s = .int .i64 nn ∧ 1 ≤ nn ∧ nn ≤ most + 1 ∧ Hid (nn ≤ most → nn = 1 + sumC (ps.toL.take i) ∧ ∀ x ∈ ps.toL.take i, (x.ps.dep : Int) + 1 ≤ dp - 1) ∧ Hid (Below w0.heap.size w0 wr)) (fun _ q _ => m - (intOf q).toNat)
    case atStart => exact ⟨0, 1, Nat.zero_le _, rfl, rfl, by omega, by omega, fun _ => ⟨rfl, fun x hx => by cases hx⟩, Below.refl _ _⟩
    case round =>
      obtain ⟨i, nn, him, rfl, rfl, hn1, hn2, HC, HB⟩ := hrel
      have hx := HX.out.below HB.out HX.out.lt
      have x3 := hx.cell 3
      have xl := hx.lt
      have HBw := Lib.hid (HB0.out.trans (HB.out.mono HB0.out.size))
      clear hx
      by_cases hlt : i < m
      · obtain ⟨b, off, x, B, n1, e1, rfl, hb, hSb, hx, g0, g1, g2, g3, hr⟩ := HR.out.elem hlt
        rw [← HBw.out.cell (p := ⟨b, _, none⟩) hb] at g0 g1 g2 g3
        have hbl : b < wr.heap.size := Nat.lt_of_lt_of_le hb HBw.out.size
        have HTK := Lib.hid (sumC_take hx)
        have HTE := Lib.hid (show ps.toL.take (i + 1) = ps.toL.take i ++ [x] by rw [List.take_add_one, hx]; rfl)
        have HXC := Lib.hid (show x.ps.cnt < N by
          obtain ⟨a1, a2⟩ := List.getElem?_eq_some_iff.1 hx
          have h1 : sumC (ps.toL.take (i + 1)) ≤ ps.cnt := by
            rw [← sumC_toL ps]
            conv => rhs; rw [← List.take_append_drop (i + 1) ps.toL, sumC_app]
            exact Nat.le_add_right _ _
          rw [sumC_take hx] at h1
          have := HN.out
          omega)
        have HRx := Lib.hid hr
        clear hx hr hSb
        have hi2 : (i : Int) < (m : Int) := by omega
        by_cases hmn : nn ≤ most
        · go_wp2_with (fail)
          refine (HI.out S x B n1 e1 (dp - 1) (most - nn) wr HXC.out (by omega) (by omega) (by omega) (by omega) (HRx.out.below HBw.out)).mono ?_
          rintro e w2 ⟨hb2, r, rfl, hr1, hr2, hr3⟩
          have HC2 := Lib.hid (show nn + r ≤ most → nn + r = 1 + sumC (ps.toL.take (i + 1)) ∧ ∀ x ∈ ps.toL.take (i + 1), (x.ps.dep : Int) + 1 ≤ dp - 1 from fun hle => by
            obtain ⟨h1, h2⟩ := hr3 (by omega)
            obtain ⟨h3, h4⟩ := HC.out hmn
            refine ⟨by rw [HTK.out]; omega, fun y hy => ?_⟩
            rw [HTE.out] at hy
            rcases List.mem_append.1 hy with hy | hy
            · exact h4 y hy
            · rw [List.mem_singleton.1 hy]; exact h2)
          have HB2 := Lib.hid (HB.out.trans (hb2.mono HB.out.size))
          clear hb2 g0 g1 g2 g3 x3 xl hr3
          go_wp2_with (fail)
          go_roundw
          case rel => exact ⟨i + 1, nn + r, hlt, by go_num, rfl, by omega, by omega, HC2.out, HB2.out⟩
          case measure => simp [intOf]; omega
        · go_wp2_with (fail)
          go_ret
          exact ⟨HBw.out, nn, rfl, hn1, hn2, fun h => by omega⟩
      · obtain rfl : i = m := by omega
        have hjj : ¬ (i : Int) < (i : Int) := by omega
        have HC2 := Lib.hid (show nn ≤ most → nn = ps.cnt + 1 ∧ (ps.dep : Int) + 1 ≤ dp from fun hle => by
          obtain ⟨h1, h2⟩ := HC.out hle
          rw [List.take_of_length_le (by rw [← HL.out]; exact Nat.le_refl _)] at h1 h2
          rw [sumC_toL] at h1
          have h3 := dep_all ps (dp - 1).toNat fun x hx => by have := h2 x hx; omega
          have := HD.out
          omega)
        go_wp2_with (fail)
        go_ret
        exact ⟨HBw.out, nn, rfl, hn1, hn2, HC2.out⟩
theorem cnt_all : ∀ N, CNT N
  | 0 => fun _ _ _ _ _ _ _ _ h => absurd h (by omega)
  | N + 1 => cnt_of N (cnt_all N)
/-- Few enough for the statements. -/
def Few60 (c : CT) : Prop := c.ps.cnt + 1 ≤ 60 ∧ c.ps.dep + 1 ≤ 40
set_option maxHeartbeats 4000000 in
set_option maxRecDepth 100000 in
theorem few_any (S : Nat → Prop) (c : CT) (A : Option Addr) (m d : Nat) (w : World) (h : RepH S w c.ps A m d) : Calls Tryz.prog 11 #[cV c A m d] w fun e w' => Below w.heap.size w w' ∧ ∃ b : Bool, e = .returned (.bool b) ∧ (b = true → Few60 c) := by
  have HI := Lib.hid (fun W (hW : Below w.heap.size w W) => cnt_all (c.ps.cnt + 1) S c A m d 40 60 W (Nat.lt_succ_self _) (by omega) (by omega) (by omega) (by omega) (h.below hW))
  clear h
  unfold cV at HI ⊢
  dsimp only [vi] at HI ⊢
  go_enter Tryz.func11, Tryz.ntmps11
  go_wp2_with (fail)
  first | (refine calls_named ?_; intro W hW) | (refine body_named ?_; intro W hW) | (refine wpList_named ?_; intro W hW) | (refine wp_named ?_; intro W hW)
  have hb : Below w.heap.size w W := by rw [← hW]; exact (Below.refl _ _).alloc (Nat.le_refl _) _
  clear hW
  refine (HI.out W hb).mono ?_
  rintro e w2 ⟨hb2, r, rfl, -, -, hr⟩
  have HB2 := Lib.hid (hb.trans (hb2.mono hb.size))
  clear hb hb2
  go_wp2_with (fail)
  go_ret
  exact ⟨HB2.out, decide (r ≤ 60), rfl, fun hd => by
    have h1 := of_decide_eq_true hd
    obtain ⟨h2, h3⟩ := hr h1
    exact ⟨by omega, by omega⟩⟩
end Go.Proofs.YticpjdjdimpglaaGreatDoor

/- FormatHolds: the walk of the law. -/
namespace Go.Proofs.YticpjdjdimpglaaGreatDoor
set_option linter.unusedVariables false
set_option linter.unusedSimpArgs false
open Go.RowKit

theorem tidy_no {c : CT} (h : (tidy c).2 ≠ 0) : (tidy c).1 = .zero ∧ ((tidy c).2 = tcond c ∨ (tidy c).2 = 2) := by
  unfold tidy at h ⊢
  split
  · exact ⟨rfl, .inl rfl⟩
  · next h0 =>
    rw [if_neg h0] at h
    split
    · exact ⟨rfl, .inr rfl⟩
    · next y hy =>
      rw [hy] at h
      simp only at h
      split
      · next h1 => rw [if_pos h1] at h; exact absurd rfl h
      · exact ⟨rfl, .inr rfl⟩
theorem holdsO_tidy {x : CT} (h : (tidy x).2 = 0) (t r f c : Int) : holdsO (tidy x).1 t r f c = holdsO x t r f c := by
  have h1 := tidy_ok h
  have h2 : tcond x = 0 := by
    unfold tidy at h
    split at h
    · next h0 => exact absurd h h0
    · next h0 => exact Classical.not_not.1 h0
  unfold holdsO
  rw [h1.2.2.1, h2, tidy_ev _ h]
theorem rsc_same (S : Nat → Prop) (a : CT) (A : Option Addr) (m d : Nat) (B : Option Addr) (n e : Nat) (w : World) (h1 : RepH S w a.ps A m d) (h2 : RepH S w a.ps B n e) :
    Calls Tryz.prog 24 #[.agg #[.int .i64 a.k, .int .i64 a.v, .int .i64 a.n, .slice A m d], .agg #[.int .i64 a.k, .int .i64 a.v, .int .i64 a.n, .slice B n e]] w fun e w' => e = .returned (.bool true) ∧ Below w.heap.size w w' :=
  (rsc_any S S a a A m d B n e w h1 h2).mono fun e w' ⟨h1, h2⟩ => ⟨h1.trans (congrArg (fun b => Ending.returned (.bool b)) (by rw [CT.cmp_zero.2 rfl]; rfl)), h2⟩
set_option maxHeartbeats 8000000 in
set_option maxRecDepth 100000 in
theorem hol_walk (x : CT) (A : Option Addr) (m d : Nat) (t r f c : Int) (w : World) (h : RepH N0 w x.ps A m d) (hG : FG w) (hcp : 0 < w.heap.size) (hs : SpanIs w) :
    Calls Tryz.prog 5 #[.agg #[.int .i64 x.k, .int .i64 x.v, .int .i64 x.n, .slice A m d], .agg #[.int .i64 t, .int .i64 r, .int .i64 f, .int .i64 c]] w fun e w' => e = .returned (.bool true) ∧ Below w.heap.size w w' := by
  have HR := Lib.hid h
  have HG := Lib.hid hG
  have HS := Lib.hid hs
  clear h hG hs
  go_enter Tryz.func5, Tryz.ntmps5
  go_wp2_with (fail)
  first | (refine calls_named ?_; intro W hW) | (refine body_named ?_; intro W hW) | (refine wpList_named ?_; intro W hW) | (refine wp_named ?_; intro W hW)
  have hb : Below w.heap.size w W := by rw [← hW]; exact ((Below.refl _ _).alloc (Nat.le_refl _) _).alloc (by simp) _
  have hx : Blk W w.heap.size 24 #[.int .i64 x.k, .int .i64 x.v, .int .i64 x.n, .slice A m d] := by rw [← hW]; exact (Blk.new w _ _).alloc _
  have hq : Blk W (w.heap.size + 1) 49 #[.int .i64 t, .int .i64 r, .int .i64 f, .int .i64 c] := by
    rw [← hW, ← World.size_alloc w]
    exact Blk.new _ _ _
  clear hW
  have HB := Lib.hid hb
  have HX := Lib.hid hx
  have HQ := Lib.hid hq
  clear hb hx hq
  refine (sane15_any W (HG.out.below HB.out) (Nat.lt_of_lt_of_le hcp HB.out.size)).mono ?_
  rintro e w1 ⟨rfl, hb⟩
  have HB1 := Lib.hid (HB.out.trans (hb.mono HB.out.size))
  have HX1 := Lib.hid (HX.out.below hb HX.out.lt)
  have HQ1 := Lib.hid (HQ.out.below hb HQ.out.lt)
  clear hb HX HQ HB
  have x0 := HX1.out.cell 0
  have x1 := HX1.out.cell 1
  have x2 := HX1.out.cell 2
  have x3 := HX1.out.cell 3
  have xl := HX1.out.lt
  go_wp2_with (fail)
  refine (few_any N0 x A m d w1 (HR.out.below HB1.out)).mono ?_
  rintro e w2 ⟨hb, b, rfl, hf⟩
  have HB2 := Lib.hid (HB1.out.trans (hb.mono HB1.out.size))
  have HX2 := Lib.hid (HX1.out.below hb HX1.out.lt)
  have HQ2 := Lib.hid (HQ1.out.below hb HQ1.out.lt)
  clear hb HX1 HQ1 HB1 x0 x1 x2 x3 xl
  cases b with
  | false =>
    go_wp2_with (fail)
    go_ret
    exact ⟨rfl, HB2.out⟩
  | true =>
    have HF := Lib.hid (hf rfl)
    clear hf
    have x0 := HX2.out.cell 0
    have x1 := HX2.out.cell 1
    have x2 := HX2.out.cell 2
    have x3 := HX2.out.cell 3
    have xl := HX2.out.lt
    go_wp2_with (fail)
    obtain ⟨⟨y, z⟩, hyz⟩ : ∃ q, q = tidy x := ⟨_, rfl⟩
    have HT := Lib.hid hyz
    refine (tidy_any (S := N0) (c := x) (fun _ h => h.elim) (HR.out.below HB2.out) (by have := HF.out.1; omega)).mono ?_
    rw [← hyz]
    clear hyz
    rintro e w3 ⟨hb, Ay, my, dy, rfl, hry⟩
    have HB3 := Lib.hid (HB2.out.trans (hb.mono HB2.out.size))
    have HX3 := Lib.hid (HX2.out.below hb HX2.out.lt)
    have HQ3 := Lib.hid (HQ2.out.below hb HQ2.out.lt)
    have HRY := Lib.hid hry
    clear hb hry HX2 HQ2 HB2 x0 x1 x2 x3 xl
    unfold cV
    dsimp only [vi]
    by_cases hz : z = 0
    · subst hz
      have HZ := Lib.hid (show (tidy x).2 = 0 by rw [← HT.out])
      have HO := Lib.hid (tidy_ok HZ.out)
      have HHO := Lib.hid (holdsO_tidy HZ.out t r f c)
      rw [← HT.out] at HO HHO
      have HYT := Lib.hid HO.out.2.2.2
      have HYC := Lib.hid HO.out.2.2.1
      have HYN := Lib.hid (show y.ps.cnt ≤ 999999 by
        have h1 : (CF.one y .nil).cnt ≤ 256 := (tcond_ok HYC.out).2.1
        have h2 : (CF.one y .nil).cnt = y.ps.cnt + 1 + 0 := rfl
        omega)
      clear HO
      go_wp2_with (fail)
      first | (refine calls_named ?_; intro W4 hW) | (refine body_named ?_; intro W4 hW) | (refine wpList_named ?_; intro W4 hW) | (refine wp_named ?_; intro W4 hW)
      have hb : Below w3.heap.size w3 W4 := by rw [← hW]; exact (Below.refl _ _).alloc (Nat.le_refl _) _
      have hy : Blk W4 w3.heap.size 24 #[.int .i64 y.k, .int .i64 y.v, .int .i64 y.n, .slice Ay my dy] := by rw [← hW]; exact Blk.new _ _ _
      clear hW
      have HB4 := Lib.hid (HB3.out.trans (hb.mono HB3.out.size))
      have HX4 := Lib.hid (HX3.out.below hb HX3.out.lt)
      have HQ4 := Lib.hid (HQ3.out.below hb HQ3.out.lt)
      have HR4 := Lib.hid (HRY.out.below hb)
      have HY4 := Lib.hid hy
      clear hb hy HX3 HQ3 HRY
      generalize w3.heap.size = yb at HY4 ⊢
      refine (tidy_any (S := N0) (c := y) (fun _ h => h.elim) HR4.out HYN.out).mono ?_
      rw [HYT.out]
      rintro e w5 ⟨hb, Az, mz, dz, rfl, hrz⟩
      have HB5 := Lib.hid (HB4.out.trans (hb.mono HB4.out.size))
      have HX5 := Lib.hid (HX4.out.below hb HX4.out.lt)
      have HQ5 := Lib.hid (HQ4.out.below hb HQ4.out.lt)
      have HY5 := Lib.hid (HY4.out.below hb HY4.out.lt)
      have HR5 := Lib.hid (HR4.out.below hb)
      have HRZ := Lib.hid hrz
      clear hb hrz HX4 HQ4 HY4 HR4
      unfold cV
      dsimp only [vi]
      have y0 := HY5.out.cell 0
      have y1 := HY5.out.cell 1
      have y2 := HY5.out.cell 2
      have y3 := HY5.out.cell 3
      have yl := HY5.out.lt
      go_wp2_with (fail)
      first | (refine calls_named ?_; intro W6 hW) | (refine body_named ?_; intro W6 hW) | (refine wpList_named ?_; intro W6 hW) | (refine wp_named ?_; intro W6 hW)
      have hb : Below w5.heap.size w5 W6 := by rw [← hW]; exact (Below.refl _ _).alloc (Nat.le_refl _) _
      clear hW y0 y1 y2 y3 yl
      have HB6 := Lib.hid (HB5.out.trans (hb.mono HB5.out.size))
      have HX6 := Lib.hid (HX5.out.below hb HX5.out.lt)
      have HQ6 := Lib.hid (HQ5.out.below hb HQ5.out.lt)
      have HY6 := Lib.hid (HY5.out.below hb HY5.out.lt)
      have HR6 := Lib.hid (HR5.out.below hb)
      have HZ6 := Lib.hid (HRZ.out.below hb)
      clear hb HX5 HQ5 HY5 HR5 HRZ
      refine (rsc_same N0 y Ay my dy Az mz dz W6 HR6.out HZ6.out).mono ?_
      rintro e w7 ⟨rfl, hb⟩
      have HB7 := Lib.hid (HB6.out.trans (hb.mono HB6.out.size))
      have HX7 := Lib.hid (HX6.out.below hb HX6.out.lt)
      have HQ7 := Lib.hid (HQ6.out.below hb HQ6.out.lt)
      have HY7 := Lib.hid (HY6.out.below hb HY6.out.lt)
      have HR7 := Lib.hid (HR6.out.below hb)
      clear hb HX6 HQ6 HY6 HR6 HZ6
      have y0 := HY7.out.cell 0
      have y1 := HY7.out.cell 1
      have y2 := HY7.out.cell 2
      have y3 := HY7.out.cell 3
      have yl := HY7.out.lt
      go_wp2_with (fail)
      refine (tcond_any N0 y Ay my dy w7 HR7.out HYN.out).mono ?_
      rw [HYC.out]
      rintro e w8 ⟨rfl, hb⟩
      have HB8 := Lib.hid (HB7.out.trans (hb.mono HB7.out.size))
      have HX8 := Lib.hid (HX7.out.below hb HX7.out.lt)
      have HQ8 := Lib.hid (HQ7.out.below hb HQ7.out.lt)
      have HY8 := Lib.hid (HY7.out.below hb HY7.out.lt)
      have HR8 := Lib.hid (HR7.out.below hb)
      clear hb HX7 HQ7 HY7 HR7 y0 y1 y2 y3 yl
      have x0 := HX8.out.cell 0
      have x1 := HX8.out.cell 1
      have x2 := HX8.out.cell 2
      have x3 := HX8.out.cell 3
      have xl := HX8.out.lt
      have q0 := HQ8.out.cell 0
      have q1 := HQ8.out.cell 1
      have q2 := HQ8.out.cell 2
      have q3 := HQ8.out.cell 3
      have ql := HQ8.out.lt
      go_wp2_with (fail)
      refine (holds_any N0 x A m d t r f c w8 (HR.out.below HB8.out) (by have := HF.out.1; omega) (HS.out.below HB8.out)).mono ?_
      rintro e w9 ⟨rfl, hb⟩
      have HB9 := Lib.hid (HB8.out.trans (hb.mono HB8.out.size))
      have HQ9 := Lib.hid (HQ8.out.below hb HQ8.out.lt)
      have HY9 := Lib.hid (HY8.out.below hb HY8.out.lt)
      have HR9 := Lib.hid (HR8.out.below hb)
      clear hb HX8 HQ8 HY8 HR8 x0 x1 x2 x3 xl q0 q1 q2 q3 ql
      have y0 := HY9.out.cell 0
      have y1 := HY9.out.cell 1
      have y2 := HY9.out.cell 2
      have y3 := HY9.out.cell 3
      have yl := HY9.out.lt
      have q0 := HQ9.out.cell 0
      have q1 := HQ9.out.cell 1
      have q2 := HQ9.out.cell 2
      have q3 := HQ9.out.cell 3
      have ql := HQ9.out.lt
      obtain ⟨⟨ob, oz⟩, ho⟩ : ∃ q, q = holdsO x t r f c := ⟨_, rfl⟩
      rw [← ho]
      go_wp2_with (fail)
      refine (holds_any N0 y Ay my dy t r f c w9 HR9.out HYN.out (HS.out.below HB9.out)).mono ?_
      rw [HHO.out, ← ho]
      rintro e w10 ⟨rfl, hb⟩
      have HB10 := Lib.hid (HB9.out.trans (hb.mono HB9.out.size))
      clear hb HQ9 HY9 HR9 y0 y1 y2 y3 yl q0 q1 q2 q3 ql ho
      go_wp2_with (fail)
      go_ret
      exact ⟨by simp, HB10.out⟩
    · obtain ⟨hz0, hzt⟩ := tidy_no (c := x) (by rw [← HT.out]; exact hz)
      rw [← HT.out] at hz0 hzt
      simp only at hz0 hzt
      subst hz0
      have HZT := Lib.hid hzt
      have hzb : (z != 0) = true := bne_iff_ne.2 hz
      clear hzt hz
      dsimp only [CT.zero]
      go_wp2_with (fail)
      first | (refine calls_named ?_; intro W4 hW) | (refine body_named ?_; intro W4 hW) | (refine wpList_named ?_; intro W4 hW) | (refine wp_named ?_; intro W4 hW)
      have hb : Below w3.heap.size w3 W4 := by rw [← hW]; exact (Below.refl _ _).alloc (Nat.le_refl _) _
      clear hW
      have HB4 := Lib.hid (HB3.out.trans (hb.mono HB3.out.size))
      have HX4 := Lib.hid (HX3.out.below hb HX3.out.lt)
      have HR4 := Lib.hid (HRY.out.below hb)
      clear hb HX3 HQ3 HRY
      refine (rsc_same N0 .zero Ay my dy none 0 0 W4 HR4.out RepH.nil).mono ?_
      rintro e w5 ⟨rfl, hb⟩
      have HB5 := Lib.hid (HB4.out.trans (hb.mono HB4.out.size))
      have HX5 := Lib.hid (HX4.out.below hb HX4.out.lt)
      clear hb HX4 HR4
      have x0 := HX5.out.cell 0
      have x1 := HX5.out.cell 1
      have x2 := HX5.out.cell 2
      have x3 := HX5.out.cell 3
      have xl := HX5.out.lt
      go_wp2_with (fail)
      refine (tcond_any N0 x A m d w5 (HR.out.below HB5.out) (by have := HF.out.1; omega)).mono ?_
      rintro e w6 ⟨rfl, hb⟩
      have HB6 := Lib.hid (HB5.out.trans (hb.mono HB5.out.size))
      clear hb HX5 x0 x1 x2 x3 xl
      by_cases he : tcond x = z
      · have heb : (tcond x == z) = true := by rw [he]; simp
        clear he
        generalize tcond x = tc at heb ⊢
        go_wp2_with (fail)
        go_ret
        exact ⟨rfl, HB6.out⟩
      · have heb : (tcond x == z) = false := by simpa using he
        have hz2 : z = 2 := by
          rcases HZT.out with h | h
          · exact absurd h.symm he
          · exact h
        clear he HZT
        generalize tcond x = tc at heb ⊢
        subst hz2
        go_wp2_with (fail)
        go_ret
        exact ⟨rfl, HB6.out⟩
end Go.Proofs.YticpjdjdimpglaaGreatDoor

/- The frame of a row: the wrap that keeps the listed variables and the world's shape; bytes that came in as a slice that reads. -/
namespace Go.Proofs.YticpjdjdimpglaaGreatDoor
set_option linter.unusedVariables false
set_option linter.unusedSimpArgs false
open Go.ChangeShapes Go.WideShapes Go.ChangeAt Go.RowKit

theorem wrap_both {H : Type} {enc : TypeId × Value → H} {a : Assume} {C : Checked} {os : Os} {f : FuncId} {fn : Func} {s : ChangeSpec} {conds : List PathCond} {apart fresh handsOn again : Bool} {X : World → Array Value → Prop}
    (hX : ∀ (w w' : World) (args : Array Value), w.heap = w'.heap → X w args → X w' args)
    (own : ownKnob C.prog.godebug = none) (started : os.Started) (noInit : C.prog.inits.idxOf? f = none) (hfn : C.prog.funcs[f]? = some fn)
    (witness : ∃ (w : World) (tape : Tape) (i : Input), w.os = os ∧ (w.forCall tape i).Shaped C.prog ∧ i.vars = [] ∧ Input.okWide C.prog (w.forCall tape i) .any w.heap.size f i ∧
      ((s.pre enc C.prog fn conds apart (w.forCall tape i).memory i.args ∧ X (w.forCall tape i).memory i.args) ∧ sizedMet enc C.prog fn (OpenSpec.ofChange s) apart (w.forCall tape i).memory i.args) ∧ a.holds C.prog (lone (Frame.enter C.prog f i.args .normal) [] (w.forCall tape i)))
    (contract : ∀ (W : World) (base : Nat) (args : Array Value) (ds gs : List (DataW H)) (before : List MemPlace),
      (∀ (j : Nat) t v, fn.params[j]? = some t → args[j]? = some v → Value.okWide C.prog W .any base t v) →
      DataW.Whole enc C.prog fn.params.toList s.vars apart W args.toList ds gs before →
      X W args → W.ShapedOpen C.prog →
      Calls C.prog f args W fun e W' => ∃ v, e = .returned v ∧ s.post enc C.prog fn apart fresh handsOn again W args v W') :
    ReturnsInHanded a C os f .any (fun w args => (s.pre enc C.prog fn conds apart w args ∧ X w args) ∧ sizedMet enc C.prog fn (OpenSpec.ofChange s) apart w args) (s.post enc C.prog fn apart fresh handsOn again) := by
  refine returnsInHanded_of_calls own started noInit witness ?_
  intro w tape i _ hsh _ hok hpre hholds
  obtain ⟨_, _, _, fn', hfn', _, _, _, _, hval⟩ := hok
  have e : fn' = fn := Option.some.inj (hfn'.symm.trans hfn)
  subst e
  obtain ⟨⟨⟨ds, gs, before, hw, hc⟩, hx⟩, hz⟩ := hpre
  have hw' := DataW.Whole.of_heap (w' := w.forCall tape i) (by rfl) hw
  refine (contract (w.forCall tape i) w.heap.size i.args ds gs before hval hw' (hX _ _ _ (by rfl) hx) hsh).mono fun e W' ⟨v, he, hp⟩ => ?_
  subst he
  exact ChangeSpec.post_blind hp

theorem rd_of_trod {H : Type} {enc : TypeId × Value → H} {P : Program} {W : World} {t e : TypeId} {a0 : Option Addr} {len cap : Nat} {d : DataW H} {p : List MemPlace} (hu : P.underlying t = some (.slice e)) (he : P.underlying e = some (.int .u8)) (hc : P.cellsOf e = 1)
    (h : DataW.Trod enc P W 0 (fun _ => true) true t (.slice a0 len cap) d p) : ∃ l : List UInt8, Rd W W.heap.size 1 a0 len cap (l.map vb) := by
  obtain ⟨fuel, hf⟩ := h
  rcases open_ints hu he hc hf with ⟨hcs, _⟩ | ⟨x, l, c, zs, hcs, _, hl, hm, hz, _, hcell, hwz⟩
  · simp [Value.cells] at hcs
    obtain ⟨rfl, rfl, rfl⟩ := hcs
    exact ⟨[], Rd.nil⟩
  · simp [Value.cells] at hcs
    obtain ⟨rfl, rfl, rfl⟩ := hcs
    have hz' : zs.length = cap := by simpa using hz
    refine ⟨(zs.take len).map (fun x => UInt8.ofNat x.toNat), by simp; omega, hl, hm, fun hn => ?_⟩
    obtain ⟨b, off, spot⟩ := x
    have h0 := hcell 0 (by omega)
    have hs : spot = none := by simpa [Addr.add] using World.cell?_spot h0
    subst hs
    refine ⟨b, off, rfl, World.block_lt_of_cell? W _ h0, fun j u hj => ?_⟩
    have hj2 : j < len := by
      rcases Nat.lt_or_ge j len with h3 | h3
      · exact h3
      · rw [List.getElem?_eq_none (by simp; omega)] at hj; cases hj
    have hcj := hcell j (by omega)
    have hw := hwz zs[j] (List.getElem_mem (by omega))
    have hb : 0 ≤ zs[j] ∧ zs[j] < 256 := by
      have h1 : IntKind.u8.min = 0 := rfl
      have h2 : IntKind.u8.max = 255 := rfl
      simp only [Lit.wf, Bool.and_eq_true, decide_eq_true_eq] at hw
      omega
    have e1 : u = .int .u8 zs[j] := by
      simp [List.getElem?_map, List.getElem?_take, hj2, show j < zs.length from by omega, vb] at hj
      rw [← hj]
      congr 1
      omega
    subst e1
    rw [show zs.getD j 0 = zs[j] from by simp [List.getD, show j < zs.length from by omega]] at hcj
    have hadd : (⟨b, off, none⟩ : Addr).add j = ⟨b, off + j, none⟩ := by unfold Addr.add; split <;> simp_all
    rwa [hadd] at hcj
end Go.Proofs.YticpjdjdimpglaaGreatDoor

/- Facts that every row of the seat shares. -/
namespace Go.Proofs.YticpjdjdimpglaaGreatDoor
set_option linter.unusedVariables false
set_option linter.unusedSimpArgs false
open Go.ChangeShapes Go.WideShapes Go.ChangeAt Go.RowKit

theorem own_knob : ownKnob Tryz.prog.godebug = none := by kernel_rfl
theorem laid_out : laidOutB Tryz.prog = true := by kernel_rfl
theorem maxlen_cell {W : World} (h : W.ShapedOpen Tryz.prog) : ∃ m, W.cell? ⟨4, 0, none⟩ = some (.int .i64 m) :=
  cell_of_shapedOpen_int (g := 4) (t := 3) (zero := #[.int .i64 0]) h (of_decide_eq_true (by kernel_rfl)) (by kernel_rfl) rfl (by kernel_rfl) (by kernel_rfl) Tryz.underlying3
end Go.Proofs.YticpjdjdimpglaaGreatDoor

/- From a row's cell 'laid' to what the calls of chapter 15 ask of the world. -/
namespace Go.Proofs.YticpjdjdimpglaaGreatDoor
set_option linter.unusedVariables false
set_option linter.unusedSimpArgs false
open Go.ChangeShapes Go.WideShapes Go.ChangeAt Go.RowKit

theorem array_at {H : Type} {enc : TypeId × Value → H} {P : Program} {w : World} {base : Nat} {sp : Nat → Bool} {held : Bool} {fuel : Nat} {t e : TypeId} {n : Nat} {cs : List Value} {ds : List (DataW H)} {p : List MemPlace}
    (ht : P.underlying t = some (.array n e)) (h : DataW.trod enc P w base sp held fuel t cs = some (.agg ds, p)) (i : Nat) (d : DataW H) (hd : ds[i]? = some d) : ∃ m q, DataW.trod enc P w base sp held m e ((cs.drop (i * P.cellsOf e)).take (P.cellsOf e)) = some (d, q) := by
  cases fuel with
  | zero => simp [DataW.trod] at h
  | succ fuel =>
    simp only [DataW.trod, ht] at h
    split at h
    · obtain ⟨xs, hm, hx⟩ := Option.map_eq_some_iff.1 h
      have hxs : xs.map (·.1) = ds := by
        have := congrArg Prod.fst hx
        simpa using this
      have hxl : xs.length = n := by simpa using Lib.mapM_length hm
      have hi : i < n := by
        obtain ⟨h1, _⟩ := List.getElem?_eq_some_iff.1 hd
        rw [← hxs, List.length_map, hxl] at h1
        exact h1
      obtain ⟨b, hb, hf⟩ := Lib.mapM_at hm i i (by simp [hi])
      have h2 : (xs.map (·.1))[i]? = some b.1 := by simp [hb]
      rw [hxs, hd] at h2
      obtain rfl := Option.some.inj h2
      exact ⟨fuel, b.2, hf⟩
    · cases h
theorem laid_head {P : Program} {W : World} {name : String} {D : DataW Unit} {rest : List (String × DataW Unit)} {g : Nat} {t : TypeId} (hg : P.globalNamed name = some g) (hty : (P.globals[g]?).map (·.type) = some t)
    (h : laidMet P ((name, D) :: rest) W) : ∃ cs fuel p, W.var? P name = some cs ∧ DataW.trod (fun _ => ()) P W 0 (fun _ => true) false fuel t cs.toList = some (D, p) := by
  obtain ⟨ps, ⟨g', t', cs, fuel, p, q, hg', ht', hvar, hd, _, _⟩, _⟩ := h
  obtain rfl := Option.some.inj (hg.symm.trans hg')
  obtain rfl := Option.some.inj (hty.symm.trans ht')
  exact ⟨cs, fuel, p, hvar, hd⟩
theorem strs_laid {P : Program} {W : World} {name : String} {L : List (List UInt8)} {rest : List (String × DataW Unit)} {g n : Nat} {t e : TypeId} (hg : P.globalNamed name = some g) (hty : (P.globals[g]?).map (·.type) = some t) (ht : P.underlying t = some (.array n e)) (he : P.underlying e = some .string) (hce : P.cellsOf e = 1)
    (h : laidMet P ((name, .agg (L.map fun s => .lit (.string s))) :: rest) W) : ∀ i s, L[i]? = some s → W.cell? ⟨g, i, none⟩ = some (.string (bs s)) := by
  obtain ⟨cs, fuel, p, hv, hd⟩ := laid_head hg hty h
  intro i s hs
  obtain ⟨m, q, h1⟩ := array_at ht hd i (.lit (.string s)) (by rw [List.getElem?_map, hs]; rfl)
  rw [hce, Nat.mul_one] at h1
  obtain ⟨b, e1, e2, _⟩ := DataW.trod_string he h1
  have h2 : cs.toList[i]? = some (.string b) := by
    have := congrArg (·[0]?) e1
    simpa [List.getElem?_take, List.getElem?_drop] using this
  have hb : b = bs s := by
    have e3 : s = b.data.toList := by
      have := congrArg Prod.fst e2
      simp only [DataW.lit.injEq, Lit.string.injEq] at this
      exact this
    rw [e3]
    apply ByteArray.ext
    simp [bs]
  have h3 := World.var?_cell hg hv i
  rw [h3, ← hb]
  simpa using h2
theorem gVars : Tryz.prog.globalNamed "assize/format.variables" = some 2 := by kernel_rfl
theorem gVarst : (Tryz.prog.globals[2]?).map (·.type) = some 179 := by kernel_rfl
theorem gCrit : Tryz.prog.globalNamed "assize/format.criteria" = some 0 := by kernel_rfl
theorem gCritt : (Tryz.prog.globals[0]?).map (·.type) = some 130 := by kernel_rfl
theorem gTab : Tryz.prog.globalNamed "internal/strconv.uint64pow10" = some 5 := by kernel_rfl
theorem gTabt : (Tryz.prog.globals[5]?).map (·.type) = some 243 := by kernel_rfl
theorem ceStr : Tryz.prog.cellsOf 9 = 1 := by kernel_rfl
theorem tab_eq : (Rows.laid_internal_strconv_uint64pow10 : DataW Unit) = Lib.tabData .u64 Lib.pow10Tab := by kernel_rfl
theorem vars_eq : (Rows.laid_assize_format_variables : DataW Unit) = .agg (varL.map fun s => .lit (.string s)) := by kernel_rfl
theorem crit_eq : (Rows.laid_assize_format_criteria : DataW Unit) = .agg (critL.map fun s => .lit (.string s)) := by kernel_rfl
theorem var_on {W W' : World} {n : String} {g : Nat} {cs : Array Value} (hg : Tryz.prog.globalNamed n = some g) (h : W.var? Tryz.prog n = some cs) (hb : Below W.heap.size W W') : W'.var? Tryz.prog n = some cs := by
  unfold World.var? at h ⊢
  rw [hg] at h ⊢
  simp only [Option.bind_some] at h ⊢
  have hlt : g < W.heap.size := by
    rcases Nat.lt_or_ge g W.heap.size with h' | h'
    · exact h'
    · simp [Array.getElem?_eq_none h'] at h
  rw [hb.block g hlt]
  exact h
theorem fg_of {W : World} {r1 r2 r3 : List (String × DataW Unit)} (h1 : laidMet Tryz.prog (("internal/strconv.uint64pow10", Rows.laid_internal_strconv_uint64pow10) :: r1) W) (h2 : laidMet Tryz.prog (("assize/format.variables", Rows.laid_assize_format_variables) :: r2) W)
    (h3 : laidMet Tryz.prog (("assize/format.criteria", Rows.laid_assize_format_criteria) :: r3) W) (hm : ∃ m, W.cell? ⟨4, 0, none⟩ = some (.int .i64 m)) : FG W ∧ 0 < W.heap.size := by
  rw [tab_eq] at h1
  rw [vars_eq] at h2
  rw [crit_eq] at h3
  have ht := Lib.tabIs_of_head gTab gTabt (Tryz.underlying243) Tryz.underlying214 (by kernel_rfl) (by kernel_rfl) h1
  have hv := strs_laid gVars gVarst Tryz.underlying179 Tryz.underlying9 ceStr h2
  have hc := strs_laid gCrit gCritt Tryz.underlying130 Tryz.underlying9 ceStr h3
  refine ⟨fun W' hb => ?_, World.block_lt_of_cell? W _ (hc 0 _ rfl)⟩
  obtain ⟨m, hm⟩ := hm
  exact ⟨⟨m, (hb.cell (p := ⟨_, 0, none⟩) (World.block_lt_of_cell? W _ hm)).trans hm⟩, var_on gTab ht hb,
    fun i s hs => (hb.cell (p := ⟨_, i, none⟩) (World.block_lt_of_cell? W _ (hv i s hs))).trans (hv i s hs), fun i s hs => (hb.cell (p := ⟨_, i, none⟩) (World.block_lt_of_cell? W _ (hc i s hs))).trans (hc i s hs)⟩
end Go.Proofs.YticpjdjdimpglaaGreatDoor

/- From a row's cell 'laid' to the spans of the variables. -/
namespace Go.Proofs.YticpjdjdimpglaaGreatDoor
set_option linter.unusedVariables false
set_option linter.unusedSimpArgs false
open Go.ChangeShapes Go.WideShapes Go.ChangeAt Go.RowKit

theorem gSpan : Tryz.prog.globalNamed "assize/typing.spans" = some 1 := by kernel_rfl
theorem gSpant : (Tryz.prog.globals[1]?).map (·.type) = some 155 := by kernel_rfl
theorem ceSp : Tryz.prog.cellsOf 154 = 2 := by kernel_rfl
theorem ceIn : Tryz.prog.cellsOf 3 = 1 := by kernel_rfl
theorem span_of {W : World} {r : List (String × DataW Unit)} (h : laidMet Tryz.prog (("assize/typing.spans", Rows.laid_assize_typing_spans) :: r) W) : SpanIs W := by
  obtain ⟨cs, fuel, p, hv, hd⟩ := laid_head gSpan gSpant h
  have key : ∀ (i : Nat) (lo hi : Int), ([(0, 0), (2, 24), (0, 46), (0, 1), (2, 24)] : List (Int × Int))[i]? = some (lo, hi) → W.cell? ⟨1, i * 2, none⟩ = some (.int .i64 lo) ∧ W.cell? ⟨1, i * 2 + 1, none⟩ = some (.int .i64 hi) := by
    intro i lo hi hl
    obtain ⟨m, q, h1⟩ := array_at Tryz.underlying155 hd i (.agg [.lit (.int .i64 lo), .lit (.int .i64 hi)]) (by
      have : i < 5 := by
        obtain ⟨h1, _⟩ := List.getElem?_eq_some_iff.1 hl
        exact h1
      have : i = 0 ∨ i = 1 ∨ i = 2 ∨ i = 3 ∨ i = 4 := by omega
      rcases this with rfl | rfl | rfl | rfl | rfl <;> (injection hl with hl; injection hl with e1 e2; subst e1 e2; rfl))
    rw [ceSp] at h1
    obtain ⟨xs, n, rfl, hx, hl2, hlen, hf⟩ := DataW.trod_struct Tryz.underlying154 h1
    have hxl : xs.length = 2 := hlen
    have f0 : DataW.trod (fun _ => ()) Tryz.prog W 0 (fun _ => true) false n 3 ((((cs.toList.drop (i * 2)).take 2).drop 0).take (Tryz.prog.cellsOf 3)) = xs[0]? := hf 0 _ rfl
    have f1 : DataW.trod (fun _ => ()) Tryz.prog W 0 (fun _ => true) false n 3 ((((cs.toList.drop (i * 2)).take 2).drop 1).take (Tryz.prog.cellsOf 3)) = xs[1]? := hf 1 _ rfl
    rw [List.getElem?_eq_getElem (by omega)] at f0 f1
    rw [ceIn] at f0 f1
    obtain ⟨a, e0, y0, _⟩ := DataW.trod_int Tryz.underlying3 f0
    obtain ⟨b, e1, y1, _⟩ := DataW.trod_int Tryz.underlying3 f1
    match xs, hxl with
    | [z0, z1], _ =>
      simp only [List.getElem_cons_zero, List.getElem_cons_succ] at y0 y1
      subst y0 y1
      have hx1 := congrArg Prod.fst hx
      simp only [List.map_cons, List.map_nil, DataW.agg.injEq, List.cons.injEq, DataW.lit.injEq, Lit.int.injEq, true_and, and_true] at hx1
      obtain ⟨rfl, rfl⟩ := hx1
      have g0 : cs.toList[i * 2]? = some (.int .i64 lo) := by
        have := congrArg (·[0]?) e0
        simpa [List.getElem?_take, List.getElem?_drop] using this
      have g1 : cs.toList[i * 2 + 1]? = some (.int .i64 hi) := by
        have := congrArg (·[0]?) e1
        simpa [List.getElem?_take, List.getElem?_drop] using this
      have c0 := World.var?_cell gSpan hv (i * 2)
      have c1 := World.var?_cell gSpan hv (i * 2 + 1)
      rw [c0, c1]
      exact ⟨by simpa using g0, by simpa using g1⟩
  intro i v hi
  have hlt : i < 10 := by
    obtain ⟨h1, _⟩ := List.getElem?_eq_some_iff.1 hi
    exact h1
  have : i = 0 ∨ i = 1 ∨ i = 2 ∨ i = 3 ∨ i = 4 ∨ i = 5 ∨ i = 6 ∨ i = 7 ∨ i = 8 ∨ i = 9 := by omega
  rcases this with rfl | rfl | rfl | rfl | rfl | rfl | rfl | rfl | rfl | rfl <;> (injection hi with hi; subst hi)
  · exact (key 0 _ _ rfl).1
  · exact (key 0 _ _ rfl).2
  · exact (key 1 _ _ rfl).1
  · exact (key 1 _ _ rfl).2
  · exact (key 2 _ _ rfl).1
  · exact (key 2 _ _ rfl).2
  · exact (key 3 _ _ rfl).1
  · exact (key 3 _ _ rfl).2
  · exact (key 4 _ _ rfl).1
  · exact (key 4 _ _ rfl).2
end Go.Proofs.YticpjdjdimpglaaGreatDoor

/- Conditions, steps, zones that came in as arguments read as the chapter's things. -/
namespace Go.Proofs.YticpjdjdimpglaaGreatDoor
set_option linter.unusedVariables false
set_option linter.unusedSimpArgs false
open Go.ChangeShapes Go.WideShapes Go.ChangeAt Go.RowKit

abbrev NC : Nat → Prop := fun _ => False
theorem build_list2 {α : Type} {p : Nat → α → Prop} : ∀ (k : Nat), (∀ i, i < k → ∃ t, p i t) → ∃ T : List α, T.length = k ∧ ∀ i t, T[i]? = some t → p i t
  | 0, _ => ⟨[], rfl, fun i t hi => by simp at hi⟩
  | k + 1, h => by
    obtain ⟨T, hl, hT⟩ := build_list2 k (fun i hi => h i (by omega))
    obtain ⟨t, ht⟩ := h k (by omega)
    refine ⟨T ++ [t], by simp [hl], fun i u hi => ?_⟩
    rcases Nat.lt_or_ge i k with h1 | h1
    · rw [List.getElem?_append_left (by omega)] at hi
      exact hT i u hi
    · rw [List.getElem?_append_right (by omega)] at hi
      obtain ⟨h2, h3⟩ := List.getElem?_eq_some_iff.1 hi
      simp only [List.length_singleton] at h2
      obtain rfl : i = k := by omega
      simp only [List.getElem_singleton] at h3
      exact h3 ▸ ht
theorem fm_len {α : Type} (f : α → List Value) (k : Nat) (hf : ∀ x, (f x).length = k) : ∀ l : List α, (l.flatMap f).length = l.length * k
  | [] => by simp
  | x :: l => by rw [List.flatMap_cons, List.length_append, hf, fm_len f k hf l, List.length_cons, Nat.add_mul]; omega
theorem fm_get {α : Type} (f : α → List Value) (k : Nat) (hf : ∀ x, (f x).length = k) (hk : 0 < k) : ∀ (l : List α) (j : Nat) (u : Value), (l.flatMap f)[j]? = some u → ∃ x, l[j / k]? = some x ∧ (f x)[j % k]? = some u
  | [], j, u, h => by simp at h
  | x :: l, j, u, h => by
    rw [List.flatMap_cons] at h
    rcases Nat.lt_or_ge j k with h1 | h1
    · rw [List.getElem?_append_left (by rw [hf]; exact h1)] at h
      exact ⟨x, by rw [Nat.div_eq_of_lt h1]; rfl, by rw [Nat.mod_eq_of_lt h1]; exact h⟩
    · rw [List.getElem?_append_right (by rw [hf]; exact h1), hf] at h
      obtain ⟨y, h2, h3⟩ := fm_get f k hf hk l (j - k) u h
      refine ⟨y, ?_, ?_⟩
      · rw [Nat.div_eq_sub_div hk h1, List.getElem?_cons_succ]
        exact h2
      · rw [Nat.mod_eq_sub_mod h1]
        exact h3
theorem rd_rows {α : Type} (f : α → List Value) (k : Nat) (hf : ∀ x, (f x).length = k) (hk : 0 < k) {W : World} {a : Addr} {len cap : Nat} (T : List α) (hT : T.length = len) (hl : len ≤ cap) (hm : cap ≤ maxLen)
    (each : ∀ i x, T[i]? = some x → ∀ j u, (f x)[j]? = some u → W.cell? ((a.add (i * k)).add j) = some u) : Rd W W.heap.size k (some a) len cap (T.flatMap f) := by
  refine ⟨by rw [fm_len f k hf, hT], hl, by unfold maxLen at hm; omega, fun h0 => ?_⟩
  obtain ⟨b, off, spot⟩ := a
  obtain ⟨x0, hx0⟩ : ∃ x, T[0]? = some x := ⟨T[0]'(by omega), List.getElem?_eq_getElem (by omega)⟩
  have hu0 : ∃ u, (f x0)[0]? = some u := ⟨(f x0)[0]'(by rw [hf]; exact hk), List.getElem?_eq_getElem (by rw [hf]; exact hk)⟩
  obtain ⟨u0, hu0⟩ := hu0
  have hc0 := each 0 x0 hx0 0 u0 hu0
  have hs : spot = none := by
    have := World.cell?_spot hc0
    simpa [Addr.add] using this
  subst hs
  have hadd : ∀ (o k : Nat), (⟨b, o, none⟩ : Addr).add k = ⟨b, o + k, none⟩ := by intro o k; unfold Addr.add; split <;> simp_all
  refine ⟨b, off, rfl, ?_, fun j u hj => ?_⟩
  · have := World.block_lt_of_cell? W _ hc0
    rw [hadd, hadd] at this
    exact this
  · obtain ⟨x, h1, h2⟩ := fm_get f k hf hk T j u hj
    have := each (j / k) x h1 (j % k) u h2
    rw [hadd, hadd, show off + j / k * k + j % k = off + j by rw [Nat.add_assoc, Nat.mul_comm, Nat.div_add_mod]] at this
    exact this
/-- A condition, a step with where its rows lie. -/
structure CR (W : World) where
  x : CT
  B : Option Addr
  n : Nat
  e : Nat
  h : RepH NC W x.ps B n e
structure SR (W : World) where
  x : ST
  B : Option Addr
  n : Nat
  e : Nat
  B1 : Option Addr
  n1 : Nat
  e1 : Nat
  B2 : Option Addr
  n2 : Nat
  e2 : Nat
  h : RepH NC W x.c.ps B n e
  h1 : RepT NC W x.th B1 n1 e1
  h2 : RepT NC W x.el B2 n2 e2
def encCR {W : World} (p : CR W) : List Value := [vi p.x.k, vi p.x.v, vi p.x.n, .slice p.B p.n p.e]
def encSR {W : World} (p : SR W) : List Value := [vi p.x.k, vi p.x.b, vi p.x.c.k, vi p.x.c.v, vi p.x.c.n, .slice p.B p.n p.e, .slice p.B1 p.n1 p.e1, .slice p.B2 p.n2 p.e2]
theorem repF_of {W : World} : ∀ d : List (CR W), RepF NC W (CF.ofL (d.map (·.x))) (d.flatMap encCR)
  | [] => rfl
  | p :: d => by
    obtain ⟨ys, h⟩ := p.h
    exact ⟨p.B, p.n, p.e, ys, d.flatMap encCR, rfl, h, repF_of d⟩
theorem repS_of {W : World} : ∀ d : List (SR W), RepS NC W (SF.ofL (d.map (·.x))) (d.flatMap encSR)
  | [] => rfl
  | p :: d => ⟨p.B, p.n, p.e, p.B1, p.n1, p.e1, p.B2, p.n2, p.e2, d.flatMap encSR, rfl, p.h, p.h1, p.h2, repS_of d⟩
theorem cells4 {cs : List Value} (h : cs.length = 4) : ∃ a b c d, cs = [a, b, c, d] := by
  match cs, h with
  | [a, b, c, d], _ => exact ⟨a, b, c, d, rfl⟩
theorem cells8 {cs : List Value} (h : cs.length = 8) : ∃ a b c d a' b' c' d', cs = [a, b, c, d, a', b', c', d'] := by
  match cs, h with
  | [a, b, c, d, a', b', c', d'], _ => exact ⟨a, b, c, d, a', b', c', d', rfl⟩
theorem ceC : Tryz.prog.cellsOf 24 = 4 := by kernel_rfl
theorem ceS : Tryz.prog.cellsOf 56 = 8 := by kernel_rfl
theorem ceI : Tryz.prog.cellsOf 3 = 1 := by kernel_rfl
theorem ceCs : Tryz.prog.cellsOf 22 = 1 := by kernel_rfl
theorem ceSs : Tryz.prog.cellsOf 25 = 1 := by kernel_rfl
section
variable {H : Type} {enc : TypeId × Value → H} {W : World}
theorem cond_row (fuel : Nat) (ih : ∀ (n : Nat), n < fuel → ∀ (cs : List Value) (x : DataW H × List MemPlace), DataW.trod enc Tryz.prog W 0 (fun _ => true) true n 24 cs = some x → ∃ p : CR W, cs = encCR p)
    (cs : List Value) (x : DataW H × List MemPlace) (h : DataW.trod enc Tryz.prog W 0 (fun _ => true) true fuel 22 cs = some x) : ∃ F A m d, cs = [.slice A m d] ∧ RepH NC W F A m d := by
  rcases DataW.trod_slice Tryz.underlying22 h with ⟨rfl, _⟩ | ⟨a, len, cap, elems, rest, n, rfl, rfl, _, hb, hl, hm, hlen, hel, _, _⟩
  · exact ⟨.nil, none, 0, 0, rfl, RepH.nil⟩
  · obtain ⟨T, hTl, hT⟩ := build_list2 (α := CR W) (p := fun i p => ∀ j u, (encCR p)[j]? = some u → W.cell? ((a.add (i * 4)).add j) = some u) len fun i hi => by
      have h1 := hel i hi
      rw [List.getElem?_eq_getElem (by omega), ceC] at h1
      obtain ⟨cs', h2, h3⟩ := Option.bind_eq_some_iff.1 h1
      obtain ⟨p, rfl⟩ := ih n (Nat.lt_succ_self _) cs' _ h3
      obtain ⟨_, _, hc⟩ := World.cells?_some h2
      refine ⟨p, fun j u hj => ?_⟩
      have hj4 : j < 4 := by
        rcases Nat.lt_or_ge j 4 with h6 | h6
        · exact h6
        · rw [List.getElem?_eq_none (by simpa [encCR] using h6)] at hj; cases hj
      rw [hc j hj4]
      exact hj
    exact ⟨CF.ofL (T.map (·.x)), some a, len, cap, rfl, T.flatMap encCR, rd_rows encCR 4 (fun _ => rfl) (by omega) T hTl hl hm hT, fun _ _ _ h => h, repF_of T⟩
theorem cond_all (fuel : Nat) : ∀ (cs : List Value) (x : DataW H × List MemPlace), DataW.trod enc Tryz.prog W 0 (fun _ => true) true fuel 24 cs = some x → ∃ p : CR W, cs = encCR p := by
  induction fuel using Nat.strongRecOn with
  | _ fuel ih =>
    intro cs x h
    obtain ⟨xs, n, rfl, _, hl, hlen, hf⟩ := DataW.trod_struct Tryz.underlying24 h
    rw [ceC] at hl
    obtain ⟨v0, v1, v2, v3, rfl⟩ := cells4 hl
    have hx : xs.length = 4 := hlen
    have h0 : DataW.trod enc Tryz.prog W 0 (fun _ => true) true n 3 ((([v0, v1, v2, v3] : List Value).drop 0).take (Tryz.prog.cellsOf 3)) = xs[0]? := hf 0 _ rfl
    have h1 : DataW.trod enc Tryz.prog W 0 (fun _ => true) true n 3 ((([v0, v1, v2, v3] : List Value).drop 1).take (Tryz.prog.cellsOf 3)) = xs[1]? := hf 1 _ rfl
    have h2 : DataW.trod enc Tryz.prog W 0 (fun _ => true) true n 3 ((([v0, v1, v2, v3] : List Value).drop 2).take (Tryz.prog.cellsOf 3)) = xs[2]? := hf 2 _ rfl
    have h3 : DataW.trod enc Tryz.prog W 0 (fun _ => true) true n 22 ((([v0, v1, v2, v3] : List Value).drop 3).take (Tryz.prog.cellsOf 22)) = xs[3]? := hf 3 _ rfl
    rw [List.getElem?_eq_getElem (by omega)] at h0 h1 h2 h3
    simp only [ceI, ceCs, List.drop_zero, List.drop_succ_cons, List.take_succ_cons, List.take_zero] at h0 h1 h2 h3
    obtain ⟨k, e0, _⟩ := DataW.trod_int Tryz.underlying3 h0
    obtain ⟨v, e1, _⟩ := DataW.trod_int Tryz.underlying3 h1
    obtain ⟨nn, e2, _⟩ := DataW.trod_int Tryz.underlying3 h2
    obtain ⟨F, A, m, d, e3, hr⟩ := cond_row n (fun j hj => ih j (by omega)) _ _ h3
    simp only [List.cons.injEq, and_true] at e0 e1 e2 e3
    subst e0 e1 e2 e3
    exact ⟨⟨⟨k, v, nn, F⟩, A, m, d, hr⟩, rfl⟩
theorem step_row (fuel : Nat) (ih : ∀ (n : Nat), n < fuel → ∀ (cs : List Value) (x : DataW H × List MemPlace), DataW.trod enc Tryz.prog W 0 (fun _ => true) true n 56 cs = some x → ∃ p : SR W, cs = encSR p)
    (cs : List Value) (x : DataW H × List MemPlace) (h : DataW.trod enc Tryz.prog W 0 (fun _ => true) true fuel 25 cs = some x) : ∃ F A m d, cs = [.slice A m d] ∧ RepT NC W F A m d := by
  rcases DataW.trod_slice Tryz.underlying25 h with ⟨rfl, _⟩ | ⟨a, len, cap, elems, rest, n, rfl, rfl, _, hb, hl, hm, hlen, hel, _, _⟩
  · exact ⟨.nil, none, 0, 0, rfl, RepT.nil⟩
  · obtain ⟨T, hTl, hT⟩ := build_list2 (α := SR W) (p := fun i p => ∀ j u, (encSR p)[j]? = some u → W.cell? ((a.add (i * 8)).add j) = some u) len fun i hi => by
      have h1 := hel i hi
      rw [List.getElem?_eq_getElem (by omega), ceS] at h1
      obtain ⟨cs', h2, h3⟩ := Option.bind_eq_some_iff.1 h1
      obtain ⟨p, rfl⟩ := ih n (Nat.lt_succ_self _) cs' _ h3
      obtain ⟨_, _, hc⟩ := World.cells?_some h2
      refine ⟨p, fun j u hj => ?_⟩
      have hj4 : j < 8 := by
        rcases Nat.lt_or_ge j 8 with h6 | h6
        · exact h6
        · rw [List.getElem?_eq_none (by simpa [encSR] using h6)] at hj; cases hj
      rw [hc j hj4]
      exact hj
    exact ⟨SF.ofL (T.map (·.x)), some a, len, cap, rfl, T.flatMap encSR, rd_rows encSR 8 (fun _ => rfl) (by omega) T hTl hl hm hT, fun _ _ _ h => h, repS_of T⟩
theorem step_all (fuel : Nat) : ∀ (cs : List Value) (x : DataW H × List MemPlace), DataW.trod enc Tryz.prog W 0 (fun _ => true) true fuel 56 cs = some x → ∃ p : SR W, cs = encSR p := by
  induction fuel using Nat.strongRecOn with
  | _ fuel ih =>
    intro cs x h
    obtain ⟨xs, n, rfl, _, hl, hlen, hf⟩ := DataW.trod_struct Tryz.underlying56 h
    rw [ceS] at hl
    obtain ⟨v0, v1, v2, v3, v4, v5, v6, v7, rfl⟩ := cells8 hl
    have hx : xs.length = 5 := hlen
    have h0 : DataW.trod enc Tryz.prog W 0 (fun _ => true) true n 3 ((([v0, v1, v2, v3, v4, v5, v6, v7] : List Value).drop 0).take (Tryz.prog.cellsOf 3)) = xs[0]? := hf 0 _ rfl
    have h1 : DataW.trod enc Tryz.prog W 0 (fun _ => true) true n 3 ((([v0, v1, v2, v3, v4, v5, v6, v7] : List Value).drop 1).take (Tryz.prog.cellsOf 3)) = xs[1]? := hf 1 _ rfl
    have h2 : DataW.trod enc Tryz.prog W 0 (fun _ => true) true n 24 ((([v0, v1, v2, v3, v4, v5, v6, v7] : List Value).drop 2).take (Tryz.prog.cellsOf 24)) = xs[2]? := hf 2 _ rfl
    have h3 : DataW.trod enc Tryz.prog W 0 (fun _ => true) true n 25 ((([v0, v1, v2, v3, v4, v5, v6, v7] : List Value).drop 6).take (Tryz.prog.cellsOf 25)) = xs[3]? := hf 3 _ rfl
    have h4 : DataW.trod enc Tryz.prog W 0 (fun _ => true) true n 25 ((([v0, v1, v2, v3, v4, v5, v6, v7] : List Value).drop 7).take (Tryz.prog.cellsOf 25)) = xs[4]? := hf 4 _ rfl
    rw [List.getElem?_eq_getElem (by omega)] at h0 h1 h2 h3 h4
    simp only [ceI, ceC, ceSs, List.drop_zero, List.drop_succ_cons, List.take_succ_cons, List.take_zero] at h0 h1 h2 h3 h4
    obtain ⟨k, e0, _⟩ := DataW.trod_int Tryz.underlying3 h0
    obtain ⟨b, e1, _⟩ := DataW.trod_int Tryz.underlying3 h1
    obtain ⟨p, e2⟩ := cond_all n _ _ h2
    obtain ⟨F, A, m, d, e3, hr⟩ := step_row n (fun j hj => ih j (by omega)) _ _ h3
    obtain ⟨G, B, q, d', e4, hr'⟩ := step_row n (fun j hj => ih j (by omega)) _ _ h4
    unfold encCR at e2
    simp only [List.cons.injEq, and_true] at e0 e1 e2 e3 e4
    obtain ⟨rfl, rfl, rfl, rfl⟩ := e2
    subst e0 e1 e3 e4
    exact ⟨⟨⟨k, b, p.x, F, G⟩, p.B, p.n, p.e, A, m, d, B, q, d', p.h, hr, hr'⟩, rfl⟩
/-- A condition as an argument. -/
theorem cond_arg {v : Value} {d : DataW H} {ps : List MemPlace} {cs : Array Value} (hv : v = .agg cs) (h : DataW.Trod enc Tryz.prog W 0 (fun _ => true) true 24 v d ps) : ∃ (x : CT) (A : Option Addr) (m d : Nat), v = .agg #[.int .i64 x.k, .int .i64 x.v, .int .i64 x.n, .slice A m d] ∧ RepH NC W x.ps A m d := by
  obtain ⟨fuel, h⟩ := h
  obtain ⟨p, hp⟩ := cond_all fuel _ _ h
  subst hv
  have e : cs.toList = encCR p := by simpa [Value.cells] using hp
  refine ⟨p.x, p.B, p.n, p.e, ?_, p.h⟩
  have : cs = (encCR p).toArray := by rw [← e]
  rw [this]
  rfl
/-- A list of steps as an argument. -/
theorem steps_arg {A : Option Addr} {m c : Nat} {d : DataW H} {ps : List MemPlace} (h : DataW.Trod enc Tryz.prog W 0 (fun _ => true) true 25 (.slice A m c) d ps) : ∃ F, RepT NC W F A m c := by
  obtain ⟨fuel, h⟩ := h
  obtain ⟨F, A', m', c', e, hr⟩ := step_row fuel (fun n _ => step_all n) _ _ h
  have e' : (Value.slice A m c) = .slice A' m' c' := by simpa [Value.cells] using e
  injection e' with e1 e2 e3
  subst e1 e2 e3
  exact ⟨F, hr⟩
/-- An environment as an argument. -/
theorem env_arg {v : Value} {d : DataW H} {ps : List MemPlace} {cs : Array Value} (hv : v = .agg cs) (h : DataW.Trod enc Tryz.prog W 0 (fun _ => true) true 49 v d ps) : ∃ (t r f c : Int), v = .agg #[.int .i64 t, .int .i64 r, .int .i64 f, .int .i64 c] := by
  obtain ⟨fuel, h⟩ := h
  obtain ⟨xs, n, rfl, _, hl, hlen, hf⟩ := DataW.trod_struct Tryz.underlying49 h
  rw [show Tryz.prog.cellsOf 49 = 4 by kernel_rfl] at hl
  obtain ⟨v0, v1, v2, v3, e⟩ := cells4 hl
  rw [e] at hf
  have hx : xs.length = 4 := hlen
  have h0 : DataW.trod enc Tryz.prog W 0 (fun _ => true) true n 3 ((([v0, v1, v2, v3] : List Value).drop 0).take (Tryz.prog.cellsOf 3)) = xs[0]? := hf 0 _ rfl
  have h1 : DataW.trod enc Tryz.prog W 0 (fun _ => true) true n 3 ((([v0, v1, v2, v3] : List Value).drop 1).take (Tryz.prog.cellsOf 3)) = xs[1]? := hf 1 _ rfl
  have h2 : DataW.trod enc Tryz.prog W 0 (fun _ => true) true n 3 ((([v0, v1, v2, v3] : List Value).drop 2).take (Tryz.prog.cellsOf 3)) = xs[2]? := hf 2 _ rfl
  have h3 : DataW.trod enc Tryz.prog W 0 (fun _ => true) true n 3 ((([v0, v1, v2, v3] : List Value).drop 3).take (Tryz.prog.cellsOf 3)) = xs[3]? := hf 3 _ rfl
  rw [List.getElem?_eq_getElem (by omega)] at h0 h1 h2 h3
  simp only [ceI, List.drop_zero, List.drop_succ_cons, List.take_succ_cons, List.take_zero] at h0 h1 h2 h3
  obtain ⟨a0, e0, _⟩ := DataW.trod_int Tryz.underlying3 h0
  obtain ⟨a1, e1, _⟩ := DataW.trod_int Tryz.underlying3 h1
  obtain ⟨a2, e2, _⟩ := DataW.trod_int Tryz.underlying3 h2
  obtain ⟨a3, e3, _⟩ := DataW.trod_int Tryz.underlying3 h3
  simp only [List.cons.injEq, and_true] at e0 e1 e2 e3
  subst e0 e1 e2 e3
  subst hv
  have e4 : cs.toList = [.int .i64 a0, .int .i64 a1, .int .i64 a2, .int .i64 a3] := by simpa [Value.cells] using e
  refine ⟨a0, a1, a2, a3, ?_⟩
  have : cs = [.int .i64 a0, .int .i64 a1, .int .i64 a2, .int .i64 a3].toArray := by rw [← e4]
  rw [this]
end
end Go.Proofs.YticpjdjdimpglaaGreatDoor
