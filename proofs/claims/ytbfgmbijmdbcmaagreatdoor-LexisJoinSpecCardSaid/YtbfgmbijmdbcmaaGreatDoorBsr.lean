/- strings.(*byteStringReplacer).Replace at the three bytes: what is written between quotes. -/
import Derived.Test.YtbfgmbijmdbcmaaGreatDoorProg
import Derived.Test.YtbfgmbijmdbcmaaGreatDoorShelf
import Derived.Test.YtbfgmbijmdbcmaaGreatDoorEsc
import Derived.Test.YtbfgmbijmdbcmaaGreatDoorQuoted
import Derived.Test.YtbfgmbijmdbcmaaGreatDoorApp
import Derived.BigQuiet
import Derived.Laws.CopyOwn
namespace Go.Proofs.YtbfgmbijmdbcmaaGreatDoor
set_option linter.unusedVariables false
set_option linter.unusedSimpArgs false
open Go.RowKit

/-- The row for byte i. -/
def rv (r1 r2 r3 d1 d2 d3 i : Nat) : Value := if i = 34 then .slice (some ⟨r1, 0, none⟩) 2 d1 else if i = 92 then .slice (some ⟨r2, 0, none⟩) 2 d2 else if i = 10 then .slice (some ⟨r3, 0, none⟩) 2 d3 else .slice none 0 0
/-- The replacer's tables. -/
structure BS (w : World) (B g r1 r2 r3 d1 d2 d3 o oc : Nat) : Prop where
  lt : g < B
  lo : o < B
  tab : ∀ i, i < 256 → w.cell? ⟨g, i, none⟩ = some (rv r1 r2 r3 d1 d2 d3 i)
  strs : w.cell? ⟨g, 256, none⟩ = some (.slice (some ⟨o, 0, none⟩) 3 oc)
  str : ∀ k, k < 3 → w.cell? ⟨o, k, none⟩ = some (.string ⟨#[chq k]⟩)
  q1 : Rd w B 1 (some ⟨r1, 0, none⟩) 2 d1 ((esc1 34).map vb)
  q2 : Rd w B 1 (some ⟨r2, 0, none⟩) 2 d2 ((esc1 92).map vb)
  q3 : Rd w B 1 (some ⟨r3, 0, none⟩) 2 d3 ((esc1 10).map vb)
  oc3 : 3 ≤ oc
  ocb : oc ≤ 9223372036854775807
section
variable {w w' : World} {B g r1 r2 r3 d1 d2 d3 o oc : Nat}
theorem BS.below (h : BS w B g r1 r2 r3 d1 d2 d3 o oc) (hb : Below B w w') : BS w' B g r1 r2 r3 d1 d2 d3 o oc :=
  ⟨h.lt, h.lo, fun i hi => (hb.cell h.lt).trans (h.tab i hi), (hb.cell h.lt).trans h.strs, fun k hk => (hb.cell h.lo).trans (h.str k hk), h.q1.below hb, h.q2.below hb, h.q3.below hb, h.oc3, h.ocb⟩
theorem BS.more {B' : Nat} (h : BS w B g r1 r2 r3 d1 d2 d3 o oc) (hB : B ≤ B') : BS w B' g r1 r2 r3 d1 d2 d3 o oc :=
  ⟨Nat.lt_of_lt_of_le h.lt hB, Nat.lt_of_lt_of_le h.lo hB, h.tab, h.strs, h.str, h.q1.more hB, h.q2.more hB, h.q3.more hB, h.oc3, h.ocb⟩
/-- The row of a byte that is replaced. -/
theorem BS.hit (h : BS w B g r1 r2 r3 d1 d2 d3 o oc) (x : UInt8) (hx : sp x = true) : ∃ r d, w.cell? ⟨g, x.toNat, none⟩ = some (.slice (some ⟨r, 0, none⟩) 2 d) ∧ Rd w B 1 (some ⟨r, 0, none⟩) 2 d ((esc1 x).map vb) := by
  have hlt := UInt8.toNat_lt x
  simp [sp] at hx
  rcases hx with (rfl | rfl) | rfl
  · exact ⟨r1, d1, h.tab 34 (by omega), h.q1⟩
  · exact ⟨r2, d2, h.tab 92 (by omega), h.q2⟩
  · exact ⟨r3, d3, h.tab 10 (by omega), h.q3⟩
theorem BS.miss (h : BS w B g r1 r2 r3 d1 d2 d3 o oc) (i : Nat) (hi : i < 256) (hx : sp (UInt8.ofNat i) = false) : w.cell? ⟨g, i, none⟩ = some (.slice none 0 0) := by
  rw [h.tab i hi]
  have h1 : i ≠ 34 := by rintro rfl; exact absurd hx (by decide)
  have h2 : i ≠ 92 := by rintro rfl; exact absurd hx (by decide)
  have h3 : i ≠ 10 := by rintro rfl; exact absurd hx (by decide)
  unfold rv
  rw [if_neg h1, if_neg h2, if_neg h3]
end

theorem own_full {w : World} {B g n : Nat} {e : TypeId} {xs : List Value} (h : w.ownsRow B e 1 (.slice (some ⟨g, 0, none⟩) n n) n xs) : Blk w g e xs.toArray := by
  rcases h.2 with ⟨e1, _⟩ | ⟨g', cap, cur, e1, hb, hg, hnc, hcm, hcs, htake⟩
  · simp at e1
  · simp only [Value.slice.injEq, Option.some.injEq, Addr.mk.injEq, and_true, true_and] at e1
    obtain ⟨rfl, rfl⟩ := e1
    have : xs = cur.toList := by rw [← htake]; exact List.take_of_length_le (by rw [Array.length_toList]; omega)
    subst this
    exact hg
def cn (l : List UInt8) (i : Nat) : Nat := (l.take i).countP sp
theorem cn_hit (l : List UInt8) (i : Nat) (h : i < l.length) (hs : sp (UInt8.ofNat (bt l i)) = true) : cn l (i + 1) = cn l i + 1 := by unfold cn; rw [count_take l i h, if_pos hs]
theorem cn_miss (l : List UInt8) (i : Nat) (h : i < l.length) (hs : sp (UInt8.ofNat (bt l i)) = false) : cn l (i + 1) = cn l i := by unfold cn; rw [count_take l i h, hs]; rfl
theorem cn_le (l : List UInt8) (i : Nat) : cn l i ≤ l.length := by
  unfold cn
  have h1 := List.countP_le_length (p := sp) (l := l.take i)
  rw [List.length_take] at h1
  omega
theorem cn_zero (l : List UInt8) : cn l 0 = 0 := by simp [cn]
theorem cn_end (l : List UInt8) : cn l l.length = l.countP sp := by simp [cn]
theorem Rd.addc {w : World} {B n c : Nat} {p : Addr} {xs : List Value} (h : Rd w B 1 (some p) n c xs) (h0 : 0 < n) : ∀ k v, xs[k]? = some v → w.cell? (p.add k) = some v := by
  obtain ⟨b, off, e, _, hc⟩ := h.cells h0
  injection e with e
  subst e
  intro k v hv
  have hadd : (⟨b, off, none⟩ : Addr).add k = ⟨b, off + k, none⟩ := by unfold Addr.add; split <;> simp_all
  rw [hadd]
  exact hc k v hv
/-- The new row, as far as it is filled. -/
def BufAt (B : Nat) (w wr : World) (g : Nat) (l : List UInt8) (i : Nat) : Prop := Blk wr g 5 (bufL l i).toArray ∧ Below B w wr ∧ B ≤ g
theorem BufAt.mk0 {B g : Nat} {w wr : World} {l : List UInt8} {n : Nat} (hn : (escape l).length = n) (h : wr.ownsRow B 5 1 (.slice (some ⟨g, 0, none⟩) n n) n (madeCells (Value.int .u8 0).cells (n * 1)).toList) (hb : Below B w wr) (hg : B ≤ g) : BufAt B w wr g l 0 := by
  have h1 := own_full h
  rw [show (Value.int .u8 0).cells = #[.int .u8 0] from rfl, toList_madeCells_one, Nat.mul_one, ← hn, ← bufL_zero] at h1
  exact ⟨h1, hb, hg⟩
theorem BufAt.rd {B g : Nat} {w wr : World} {l : List UInt8} {n : Nat} (hn : (escape l).length = n) (h63 : n ≤ 9223372036854775807) (h : BufAt B w wr g l l.length) : Rd wr wr.heap.size 1 (some ⟨g, 0, none⟩) n n ((escape l).map vb) := by
  have h1 := h.1
  rw [bufL_end] at h1
  refine ⟨by simp [hn], Nat.le_refl _, h63, fun _ => ⟨g, 0, rfl, h1.lt, fun j u hj => ?_⟩⟩
  rw [Nat.zero_add, h1.cell]
  simpa using hj

set_option pp.deepTerms true in
set_option maxHeartbeats 4000000 in
set_option maxRecDepth 100000 in
theorem bsr_any (l : List UInt8) (B g r1 r2 r3 d1 d2 d3 o oc : Nat) (w : World) (h : BS w B g r1 r2 r3 d1 d2 d3 o oc) (hB : B ≤ w.heap.size) (hl : l.length ≤ 1000000) :
    Calls Tryz.prog 146 #[.pointer (some ⟨g, 0, none⟩), .string (bs l)] w fun e w' => e = .returned (.string (bs (escape l))) ∧ Below w.heap.size w w' := by
  have hst := h.strs
  have hoc3 := h.oc3
  have hocb := h.ocb
  have H := Lib.hid h
  clear h
  by_cases h24 : 24 ≤ l.length
  · have d24 : decide ((24 : Int) ≤ (l.length : Int)) = true := decide_eq_true (by omega)
    clear h24
    go_enter Tryz.func146, Tryz.ntmps146
    go_wp2_with (fail)
    go_loopw [5, 6, 8, 9, 32] (fun s5 s6 s8 s9 s32 wr => ∃ k : Nat, k ≤ 3 ∧ s32 = .int .i64 k ∧ s5 = .int .i64 ((l.length + pc l k : Nat) : Int) ∧ s6 = .bool (decide (0 < pc l k)) ∧ Hid (Below w.heap.size w wr)) (fun _ _ _ _ s32 _ => 3 - (intOf s32).toNat)
    case atStart => exact ⟨0, by omega, rfl, by simp [pc], by simp [pc], Below.refl _ _⟩
    case round =>
      obtain ⟨k, hk, rfl, rfl, rfl, hbw⟩ := hrel
      by_cases hlt : k < 3
      · have HW := Lib.hid (H.out.below (hbw.out.mono hB))
        have hs := HW.out.str k hlt
        obtain ⟨rr, dd, hh, hq⟩ := HW.out.hit (chq k) (by obtain rfl | rfl | rfl : k = 0 ∨ k = 1 ∨ k = 2 := by omega
                                                          all_goals decide)
        have hpc := pc_succ l k hlt
        have hc1 : l.count (chq k) ≤ l.length := List.count_le_length
        have hp1 : pc l k ≤ l.length + l.length := by obtain rfl | rfl | rfl : k = 0 ∨ k = 1 ∨ k = 2 := by omega
                                                      all_goals (have e1 : l.count 10 ≤ l.length := List.count_le_length; have e2 : l.count 92 ≤ l.length := List.count_le_length; simp [pc]; try omega)
        generalize hx : chq k = x at *
        have hs' : wr.cell? ⟨o, k, none⟩ = some (.string (bs [x])) := hs
        have hh' : wr.cell? ⟨g, bt [x] 0, none⟩ = some (.slice (some ⟨rr, 0, none⟩) 2 dd) := hh
        have hx256 : bt [x] 0 < 256 := bt_lt _ _
        have hx256' : (bt [x] 0 : Int) < 256 := by omega
        have hx1 : 0 < (bs [x]).size := Nat.one_pos
        clear hs hh
        by_cases hc0 : l.count x = 0
        · have q1 : ((l.count x : Int) != 0) = false := by rw [hc0]; rfl
          have e1 : pc l (k + 1) = pc l k := by omega
          have E1 := Lib.hid e1
          clear hx hpc e1
          go_wp2_with (go_at_call 148; refine (Tryz.strings_Count_one (bs l) x wr).mono ?_; rintro e w' ⟨rfl, rfl⟩; rw [show Lib.countByte (bs l).data.toList x = l.count x from rfl])
          go_roundw
          case rel => exact ⟨k + 1, by omega, by go_num, by rw [E1.out]; go_num, by rw [E1.out], hbw.out⟩
          case measure => simp [intOf]; omega
        · have q1 : ((l.count x : Int) != 0) = true := by simpa using hc0
          have E1 := Lib.hid hpc
          have E2 := Lib.hid (show decide (0 < pc l (k + 1)) = true by simp; omega)
          clear hx hpc
          go_wp2_with (go_at_call 148; refine (Tryz.strings_Count_one (bs l) x wr).mono ?_; rintro e w' ⟨rfl, rfl⟩; rw [show Lib.countByte (bs l).data.toList x = l.count x from rfl])
          go_quiet (fail)
          go_wp2
          go_roundw
          case rel => exact ⟨k + 1, by omega, by go_num, by rw [E1.out]; go_num, by rw [E2.out], hbw.out.trans ((below_drewNg w' nq).mono hbw.out.size)⟩
          case measure => simp [intOf]; omega
      · obtain rfl : k = 3 := by omega
        rw [pc_all l]
        have hel := escape_len l
        have hcl : l.countP sp ≤ l.length := List.countP_le_length
        have HE0 := Lib.hid (escape_same l)
        generalize l.countP sp = z at *
        by_cases hc0 : z = 0
        · have HE := Lib.hid (HE0.out hc0)
          have q1 : decide (0 < z) = false := decide_eq_false (by omega)
          clear hel hc0
          go_wp2
          go_ret
          exact ⟨by rw [HE.out]; rfl, hbw.out⟩
        · have q1 : decide (0 < z) = true := decide_eq_true (by omega)
          have hN : l.length + z = (escape l).length := hel.symm
          rw [hN]
          have hN2 : (escape l).length ≤ 2000000 := by omega
          clear hel hc0 hN
          generalize hE : (escape l).length = N at hN2 ⊢
          have HN := Lib.hid hE
          obtain ⟨ie, hi1, hi2, hi3, hi4⟩ := info_parts (P := Tryz.prog) (e := 5) (z := .int .u8 0) (size := 1) (bytes := 1) (by kernel_rfl)
          have Hhi := Lib.hid (And.intro hi1 (And.intro hi2 (And.intro hi3 hi4)))
          clear hi1 hi2 hi3 hi4
          generalize hW : wr = W at *
          clear hW
          go_wp2_with (first | (at_make; go_must (refine wpList_make_full _ rfl _ _ 22 rfl w.heap.size 5 ie (.int .u8 0) 1 Tryz.underlying22 Hhi.out.1 Hhi.out.2.1 Hhi.out.2.2.1 _ _ _ _ N rfl rfl rfl rfl (by rw [Hhi.out.2.2.2]; omega) (by unfold maxLen; omega) hbw.out.size ?_; intro w4 hown4 hg4)) | fail)
          have HF := Lib.hid (BufAt.mk0 HN.out hown4 (hbw.out.grown hg4 hbw.out.size (fun k hk => by cases hk)) hbw.out.size)
          have hg0 := hbw.out.size
          generalize W.heap.size = G at *
          clear hown4 hg4
          go_loopw [13, 14, 15] (fun s13 s14 s15 wr => ∃ i : Nat, i ≤ l.length ∧ s14 = .int .i64 i ∧ s13 = .int .i64 (((escape (l.take i)).length : Nat) : Int) ∧ Hid (BufAt w.heap.size w wr G l i)) (fun _ s14 _ _ => l.length - (intOf s14).toNat)
          case atStart => exact ⟨0, Nat.zero_le _, rfl, by simp [escape], HF.out⟩
          case round =>
            obtain ⟨i, hi, rfl, rfl, hbf⟩ := hrel
            by_cases hlt : i < l.length
            · have HW := Lib.hid (H.out.below (hbf.out.2.1.mono hB))
              have hb256 : (bt l i : Int) < 256 := by have := bt_lt l i; omega
              have hbn256 : bt l i < 256 := bt_lt l i
              have hsplit := escape_split l i hlt
              have HT := Lib.hid (congrArg List.length (escape_take l i hlt))
              have h1 := hbf.out.1
              have f1 := h1.frozen (escape (l.take i)).length
              have hbl := bufL_len l i
              have HSP := Lib.hid (bufL_splice l i hlt)
              have HST := Lib.hid (bufL_set l i hlt)
              have hbt : (UInt8.ofNat (bt l i)).toNat = bt l i := by simp; omega
              rw [hE] at hsplit hbl
              have hElt : (escape (l.take i)).length ≤ N := by omega
              generalize hx : UInt8.ofNat (bt l i) = x at *
              by_cases hs : sp x = true
              · obtain ⟨rr, dd, hh, hq⟩ := HW.out.hit x hs
                rw [hbt] at hh
                have hl2 := sp_len hs
                rw [hl2] at hsplit
                have Hq := Lib.hid hq
                have HTl := Lib.hid (show (escape (l.take (i + 1))).length = (escape (l.take i)).length + 2 by rw [HT.out, List.length_append, hl2])
                clear HT HST hx hbt hs hq f1
                have H1 := Lib.hid h1
                clear h1
                generalize (escape (l.take i)).length = j at *
                have Hl2 := Lib.hid hl2
                have hnj : ¬ N = j := by omega
                have Hsp := Lib.hid hsplit
                have Hbl := Lib.hid hbl
                go_wp2
                go_region_law (refine step_copy_splice rfl (.tmp 105) (.tmp 111) 22 22 rfl 5 Tryz.underlying22 (by kernel_rfl) (some ⟨G, j, none⟩) (some ⟨rr, 0, none⟩) (N - j) (N - j) 2 dd (by simp [Act.eval, Act.put, hnj]) (by simp [Act.eval, Act.put]) G j (bufL l i) 5 (by exact H1.out) ((esc1 x).map vb) (by rw [List.length_map, Hl2.out]; exact (Nat.min_eq_left (by have := Hsp.out; omega)).symm) (fun _ => ⟨rfl, ⟨rr, 0, none⟩, rfl, (by first | exact Hq.out.addc (by omega) | exact Hq.out.drew.addc (by omega))⟩) (by rw [List.length_map, Hl2.out, Hbl.out]; exact Hsp.out) (vb_one _) w.heap.size w (hbf.out.2.1.trans (Below.mono (by go_grown; try exact Below.refl _ _) hbf.out.2.1.size)) hbf.out.2.2 ?_; intro w5 hb5 hbl5)
                all_goals
                  go_wp2
                  go_roundw
                  case rel => exact ⟨i + 1, by omega, by go_num, by rw [HTl.out]; go_num, by have := hb5.out; rw [HSP.out] at this; exact ⟨this, hbl5, hbf.out.2.2⟩⟩
                  case measure => simp [intOf]; omega
              · have hs' : sp x = false := by simpa using hs
                have hh := HW.out.miss (bt l i) hbn256 (by rw [hx]; exact hs')
                have hj := HST.out hs'
                have HJ := Lib.hid hj
                have hl1 : (esc1 x).length = 1 := by rw [sp_not hs']; rfl
                rw [hl1] at hsplit
                have HTl := Lib.hid (show (escape (l.take (i + 1))).length = (escape (l.take i)).length + 1 by rw [HT.out, List.length_append, hl1])
                clear HT HSP HST hx hbt hs hs' hj
                have c1 : ∃ v, wr.cell? ⟨G, (escape (l.take i)).length, none⟩ = some v := ⟨_, by rw [h1.cell]; exact Array.getElem?_eq_getElem (by simp; omega)⟩
                obtain ⟨v, c1⟩ := c1
                have H1 := Lib.hid (h1.set (escape (l.take i)).length (.int .u8 (bt l i : Int)))
                clear h1
                generalize (escape (l.take i)).length = j at *
                go_wp2
                go_roundw
                case rel => exact ⟨i + 1, by omega, by go_num, by rw [HTl.out]; go_num, by have := H1.out; rw [HJ.out] at this; exact ⟨this, hbf.out.2.1.setCell hbf.out.2.2 _, hbf.out.2.2⟩⟩
                case measure => simp [intOf]; omega
            · obtain rfl : i = l.length := by omega
              have hrd := hbf.out.rd HN.out (by omega)
              have hcv := hrd.conv (P := Tryz.prog) (src := 22) (dst := 9) Tryz.underlying22 Tryz.underlying5 Tryz.underlying9 N
              clear hrd
              go_wp2
              go_ret
              exact ⟨rfl, hbf.out.2.1⟩
  · have d24 : decide ((24 : Int) ≤ (l.length : Int)) = false := decide_eq_false (by omega)
    have d24n : decide (24 ≤ l.length) = false := decide_eq_false h24
    clear h24
    go_enter Tryz.func146, Tryz.ntmps146
    go_wp2_with (fail)
    go_loopw [5, 6, 10, 11] (fun s5 s6 s10 s11 wr => ∃ i : Nat, i ≤ l.length ∧ s10 = .int .i64 i ∧ s5 = .int .i64 ((l.length + cn l i : Nat) : Int) ∧ s6 = .bool (decide (0 < cn l i)) ∧ Hid (Below w.heap.size w wr)) (fun _ _ s10 _ _ => l.length - (intOf s10).toNat)
    case atStart => exact ⟨0, Nat.zero_le _, rfl, by rw [cn_zero]; simp, by rw [cn_zero]; simp, Below.refl _ _⟩
    case round =>
      obtain ⟨i, hi, rfl, rfl, rfl, hbw⟩ := hrel
      by_cases hlt : i < l.length
      · have HW := Lib.hid (H.out.below (hbw.out.mono hB))
        have hb256 : (bt l i : Int) < 256 := by have := bt_lt l i; omega
        have hbn256 : bt l i < 256 := bt_lt l i
        have hbt : (UInt8.ofNat (bt l i)).toNat = bt l i := by simp; omega
        have hcl := cn_le l i
        by_cases hs : sp (UInt8.ofNat (bt l i)) = true
        · obtain ⟨rr, dd, hh, hq⟩ := HW.out.hit _ hs
          rw [hbt] at hh
          have HC := Lib.hid (cn_hit l i hlt hs)
          have HD := Lib.hid (show decide (0 < cn l (i + 1)) = true by rw [HC.out]; simp)
          clear hs hq hbt
          go_wp2
          go_roundw
          case rel => exact ⟨i + 1, by omega, by go_num, by rw [HC.out]; go_num, by rw [HD.out], hbw.out⟩
          case measure => simp [intOf]; omega
        · have hs' : sp (UInt8.ofNat (bt l i)) = false := by simpa using hs
          have hh := HW.out.miss (bt l i) hbn256 hs'
          have HC := Lib.hid (cn_miss l i hlt hs')
          clear hs hs' hbt
          go_wp2
          go_roundw
          case rel => exact ⟨i + 1, by omega, by go_num, by rw [HC.out], by rw [HC.out], hbw.out⟩
          case measure => simp [intOf]; omega
      · obtain rfl : i = l.length := by omega
        rw [cn_end l]
        have hel := escape_len l
        have hcl : l.countP sp ≤ l.length := List.countP_le_length
        have HE0 := Lib.hid (escape_same l)
        generalize l.countP sp = z at *
        by_cases hc0 : z = 0
        · have HE := Lib.hid (HE0.out hc0)
          have q1 : decide (0 < z) = false := decide_eq_false (by omega)
          clear hel hc0
          go_wp2
          go_ret
          exact ⟨by rw [HE.out]; rfl, hbw.out⟩
        · have q1 : decide (0 < z) = true := decide_eq_true (by omega)
          have hN : l.length + z = (escape l).length := hel.symm
          rw [hN]
          have hN2 : (escape l).length ≤ 2000000 := by omega
          clear hel hc0 hN
          generalize hE : (escape l).length = N at hN2 ⊢
          have HN := Lib.hid hE
          obtain ⟨ie, hi1, hi2, hi3, hi4⟩ := info_parts (P := Tryz.prog) (e := 5) (z := .int .u8 0) (size := 1) (bytes := 1) (by kernel_rfl)
          have Hhi := Lib.hid (And.intro hi1 (And.intro hi2 (And.intro hi3 hi4)))
          clear hi1 hi2 hi3 hi4
          generalize hW : wr = W at *
          clear hW
          go_wp2_with (first | (at_make; go_must (refine wpList_make_full _ rfl _ _ 22 rfl w.heap.size 5 ie (.int .u8 0) 1 Tryz.underlying22 Hhi.out.1 Hhi.out.2.1 Hhi.out.2.2.1 _ _ _ _ N rfl rfl rfl rfl (by rw [Hhi.out.2.2.2]; omega) (by unfold maxLen; omega) hbw.out.size ?_; intro w4 hown4 hg4)) | fail)
          have HF := Lib.hid (BufAt.mk0 HN.out hown4 (hbw.out.grown hg4 hbw.out.size (fun k hk => by cases hk)) hbw.out.size)
          have hg0 := hbw.out.size
          generalize W.heap.size = G at *
          clear hown4 hg4
          go_loopw [13, 14, 15] (fun s13 s14 s15 wr => ∃ i : Nat, i ≤ l.length ∧ s14 = .int .i64 i ∧ s13 = .int .i64 (((escape (l.take i)).length : Nat) : Int) ∧ Hid (BufAt w.heap.size w wr G l i)) (fun _ s14 _ _ => l.length - (intOf s14).toNat)
          case atStart => exact ⟨0, Nat.zero_le _, rfl, by simp [escape], HF.out⟩
          case round =>
            obtain ⟨i, hi, rfl, rfl, hbf⟩ := hrel
            by_cases hlt : i < l.length
            · have HW := Lib.hid (H.out.below (hbf.out.2.1.mono hB))
              have hb256 : (bt l i : Int) < 256 := by have := bt_lt l i; omega
              have hbn256 : bt l i < 256 := bt_lt l i
              have hsplit := escape_split l i hlt
              have HT := Lib.hid (congrArg List.length (escape_take l i hlt))
              have h1 := hbf.out.1
              have f1 := h1.frozen (escape (l.take i)).length
              have hbl := bufL_len l i
              have HSP := Lib.hid (bufL_splice l i hlt)
              have HST := Lib.hid (bufL_set l i hlt)
              have hbt : (UInt8.ofNat (bt l i)).toNat = bt l i := by simp; omega
              rw [hE] at hsplit hbl
              have hElt : (escape (l.take i)).length ≤ N := by omega
              generalize hx : UInt8.ofNat (bt l i) = x at *
              by_cases hs : sp x = true
              · obtain ⟨rr, dd, hh, hq⟩ := HW.out.hit x hs
                rw [hbt] at hh
                have hl2 := sp_len hs
                rw [hl2] at hsplit
                have Hq := Lib.hid hq
                have HTl := Lib.hid (show (escape (l.take (i + 1))).length = (escape (l.take i)).length + 2 by rw [HT.out, List.length_append, hl2])
                clear HT HST hx hbt hs hq f1
                have H1 := Lib.hid h1
                clear h1
                generalize (escape (l.take i)).length = j at *
                have Hl2 := Lib.hid hl2
                have hnj : ¬ N = j := by omega
                have Hsp := Lib.hid hsplit
                have Hbl := Lib.hid hbl
                go_wp2
                go_region_law (refine step_copy_splice rfl (.tmp 105) (.tmp 111) 22 22 rfl 5 Tryz.underlying22 (by kernel_rfl) (some ⟨G, j, none⟩) (some ⟨rr, 0, none⟩) (N - j) (N - j) 2 dd (by simp [Act.eval, Act.put, hnj]) (by simp [Act.eval, Act.put]) G j (bufL l i) 5 (by exact H1.out) ((esc1 x).map vb) (by rw [List.length_map, Hl2.out]; exact (Nat.min_eq_left (by have := Hsp.out; omega)).symm) (fun _ => ⟨rfl, ⟨rr, 0, none⟩, rfl, (by first | exact Hq.out.addc (by omega) | exact Hq.out.drew.addc (by omega))⟩) (by rw [List.length_map, Hl2.out, Hbl.out]; exact Hsp.out) (vb_one _) w.heap.size w (hbf.out.2.1.trans (Below.mono (by go_grown; try exact Below.refl _ _) hbf.out.2.1.size)) hbf.out.2.2 ?_; intro w5 hb5 hbl5)
                all_goals
                  go_wp2
                  go_roundw
                  case rel => exact ⟨i + 1, by omega, by go_num, by rw [HTl.out]; go_num, by have := hb5.out; rw [HSP.out] at this; exact ⟨this, hbl5, hbf.out.2.2⟩⟩
                  case measure => simp [intOf]; omega
              · have hs' : sp x = false := by simpa using hs
                have hh := HW.out.miss (bt l i) hbn256 (by rw [hx]; exact hs')
                have hj := HST.out hs'
                have HJ := Lib.hid hj
                have hl1 : (esc1 x).length = 1 := by rw [sp_not hs']; rfl
                rw [hl1] at hsplit
                have HTl := Lib.hid (show (escape (l.take (i + 1))).length = (escape (l.take i)).length + 1 by rw [HT.out, List.length_append, hl1])
                clear HT HSP HST hx hbt hs hs' hj
                have c1 : ∃ v, wr.cell? ⟨G, (escape (l.take i)).length, none⟩ = some v := ⟨_, by rw [h1.cell]; exact Array.getElem?_eq_getElem (by simp; omega)⟩
                obtain ⟨v, c1⟩ := c1
                have H1 := Lib.hid (h1.set (escape (l.take i)).length (.int .u8 (bt l i : Int)))
                clear h1
                generalize (escape (l.take i)).length = j at *
                go_wp2
                go_roundw
                case rel => exact ⟨i + 1, by omega, by go_num, by rw [HTl.out]; go_num, by have := H1.out; rw [HJ.out] at this; exact ⟨this, hbf.out.2.1.setCell hbf.out.2.2 _, hbf.out.2.2⟩⟩
                case measure => simp [intOf]; omega
            · obtain rfl : i = l.length := by omega
              have hrd := hbf.out.rd HN.out (by omega)
              have hcv := hrd.conv (P := Tryz.prog) (src := 22) (dst := 9) Tryz.underlying22 Tryz.underlying5 Tryz.underlying9 N
              clear hrd
              go_wp2
              go_ret
              exact ⟨rfl, hbf.out.2.1⟩
end Go.Proofs.YtbfgmbijmdbcmaaGreatDoor
