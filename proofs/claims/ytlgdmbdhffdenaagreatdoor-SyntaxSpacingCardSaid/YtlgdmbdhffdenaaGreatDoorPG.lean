/- Plain laws about what is written between quotes, byte by byte. No program. -/
import Derived.Test.YtlgdmbdhffdenaaGreatDoorPC
import Derived.Laws.CopyOwn
import Derived.Test.YtlgdmbdhffdenaaGreatDoorProg
import Derived.Test.YtlgdmbdhffdenaaGreatDoorShelf
import Derived.Test.YtlgdmbdhffdenaaGreatDoorQuoted
import Derived.Test.YtlgdmbdhffdenaaGreatDoorPE
import Derived.BigQuiet
import Derived.Test.YtlgdmbdhffdenaaGreatDoorYJoinB
import Derived.Lib.ConvBytes
import Derived.Test.YtlgdmbdhffdenaaGreatDoorPA
import Derived.Tactics
import Derived.Tactics2
import Derived.Defers
import Derived.Laws.Pointers
import Derived.Laws.LoneSync
import Derived.RegionTactic
import Derived.RegionCalls
import Derived.ChangeAlike
namespace Go.Proofs.YtlgdmbdhffdenaaGreatDoor
set_option linter.unusedVariables false
set_option linter.unusedSimpArgs false

/-- A byte that takes two bytes between quotes. -/
def sp (c : UInt8) : Bool := c == 34 || c == 92 || c == 10
theorem sp_not {c : UInt8} (h : sp c = false) : esc1 c = [c] := by
  simp [sp] at h
  have h1 : c.toNat ≠ 34 := fun e => h.1.1 (UInt8.toNat_inj.1 e)
  have h2 : c.toNat ≠ 92 := fun e => h.1.2 (UInt8.toNat_inj.1 e)
  have h3 : c.toNat ≠ 10 := fun e => h.2 (UInt8.toNat_inj.1 e)
  unfold esc1
  rw [if_neg h1, if_neg h2, if_neg h3]
theorem sp_len {c : UInt8} (h : sp c = true) : (esc1 c).length = 2 := by
  simp [sp] at h
  rcases h with (rfl | rfl) | rfl <;> rfl
theorem escape_cons (c : UInt8) (s : List UInt8) : escape (c :: s) = esc1 c ++ escape s := by simp [escape]
theorem escape_app (a b : List UInt8) : escape (a ++ b) = escape a ++ escape b := by simp [escape]
theorem escape_len (l : List UInt8) : (escape l).length = l.length + l.countP sp := by
  induction l with
  | nil => rfl
  | cons c s ih =>
    rw [escape_cons, List.length_append, ih, List.countP_cons]
    cases h : sp c
    · rw [sp_not h]; simp; omega
    · rw [sp_len h]; simp; omega
theorem escape_same (l : List UInt8) (h : l.countP sp = 0) : escape l = l := by
  induction l with
  | nil => rfl
  | cons c s ih =>
    rw [List.countP_cons] at h
    cases hc : sp c
    · rw [escape_cons, sp_not hc, ih (by omega)]; rfl
    · rw [hc] at h; simp at h
theorem escape_take (l : List UInt8) (i : Nat) (h : i < l.length) : escape (l.take (i + 1)) = escape (l.take i) ++ esc1 (UInt8.ofNat (bt l i)) := by
  rw [take_bt l i h, escape_app]
  simp [escape]
theorem escape_split (l : List UInt8) (i : Nat) (h : i < l.length) : (escape (l.take i)).length + (esc1 (UInt8.ofNat (bt l i))).length ≤ (escape l).length := by
  have := escape_take l i h
  have e : escape l = escape (l.take (i + 1)) ++ escape (l.drop (i + 1)) := by rw [← escape_app, List.take_append_drop]
  rw [e, this]
  simp
theorem count_take (l : List UInt8) (i : Nat) (h : i < l.length) : (l.take (i + 1)).countP sp = (l.take i).countP sp + if sp (UInt8.ofNat (bt l i)) then 1 else 0 := by
  rw [take_bt l i h, List.countP_append]
  simp [List.countP_cons]
/-- The three bytes, in the order in which they are looked for. -/
def chq : Nat → UInt8 | 0 => 10 | 1 => 92 | _ => 34
def pc (l : List UInt8) : Nat → Nat | 0 => 0 | 1 => l.count 10 | 2 => l.count 10 + l.count 92 | _ => l.count 10 + l.count 92 + l.count 34
theorem pc_succ (l : List UInt8) (k : Nat) (h : k < 3) : pc l (k + 1) = pc l k + l.count (chq k) := by
  obtain rfl | rfl | rfl : k = 0 ∨ k = 1 ∨ k = 2 := by omega
  · simp [pc, chq]
  · simp [pc, chq]
  · simp [pc, chq]
theorem pc_all (l : List UInt8) : pc l 3 = l.countP sp := by
  show l.count 10 + l.count 92 + l.count 34 = _
  induction l with
  | nil => rfl
  | cons c s ih =>
    rw [List.count_cons, List.count_cons, List.count_cons, List.countP_cons, ← ih]
    by_cases h1 : c = 10
    · subst h1; simp [sp]; omega
    · by_cases h2 : c = 92
      · subst h2; simp [sp]; omega
      · by_cases h3 : c = 34
        · subst h3; simp [sp]; omega
        · simp [sp, h1, h2, h3]
/-- What the new row holds behind i bytes. -/
def bufL (l : List UInt8) (i : Nat) : List Value := (escape (l.take i)).map vb ++ List.replicate ((escape l).length - (escape (l.take i)).length) (.int .u8 0)
theorem esc_le (l : List UInt8) (i : Nat) : (escape (l.take i)).length ≤ (escape l).length := by
  have e : escape l = escape (l.take i) ++ escape (l.drop i) := by rw [← escape_app, List.take_append_drop]
  rw [e]; simp
theorem bufL_len (l : List UInt8) (i : Nat) : (bufL l i).length = (escape l).length := by
  have := esc_le l i
  simp [bufL]; omega
theorem bufL_zero (l : List UInt8) : bufL l 0 = List.replicate (escape l).length (.int .u8 0) := by simp [bufL, escape]
theorem bufL_end (l : List UInt8) : bufL l l.length = (escape l).map vb := by
  unfold bufL
  rw [List.take_of_length_le (Nat.le_refl _)]
  simp
theorem bufL_splice (l : List UInt8) (i : Nat) (h : i < l.length) : splice (bufL l i) (escape (l.take i)).length ((esc1 (UInt8.ofNat (bt l i))).map vb) = bufL l (i + 1) := by
  have hs := escape_split l i h
  unfold splice bufL
  rw [escape_take l i h]
  have e1 : ((escape (l.take i)).map vb ++ List.replicate ((escape l).length - (escape (l.take i)).length) (Value.int .u8 0)).take (escape (l.take i)).length = (escape (l.take i)).map vb := by
    rw [List.take_append_of_le_length (by simp)]
    exact List.take_of_length_le (by simp)
  have e2 : ((escape (l.take i)).map vb ++ List.replicate ((escape l).length - (escape (l.take i)).length) (Value.int .u8 0)).drop ((escape (l.take i)).length + ((esc1 (UInt8.ofNat (bt l i))).map vb).length) = List.replicate ((escape l).length - (escape (l.take i) ++ esc1 (UInt8.ofNat (bt l i))).length) (Value.int .u8 0) := by
    rw [List.drop_append, List.drop_of_length_le (by simp), List.drop_replicate, List.nil_append]
    congr 1
    simp
    omega
  rw [e1, e2]
  simp
theorem bufL_set (l : List UInt8) (i : Nat) (h : i < l.length) (hs : sp (UInt8.ofNat (bt l i)) = false) : (bufL l i).toArray.setIfInBounds (escape (l.take i)).length (.int .u8 (bt l i : Int)) = (bufL l (i + 1)).toArray := by
  have h1 := bufL_splice l i h
  have h2 := escape_split l i h
  rw [sp_not hs] at h1 h2
  rw [← h1, List.setIfInBounds_toArray]
  congr 1
  have h3 := bufL_len l i
  have hv : vb (UInt8.ofNat (bt l i)) = .int .u8 (bt l i : Int) := by
    have hlt := bt_lt l i
    simp [vb, Nat.mod_eq_of_lt hlt]
  simp only [List.length_singleton] at h2
  generalize bufL l i = X at *
  generalize (escape (l.take i)).length = j at *
  unfold splice
  rw [List.map_singleton, hv]
  rw [List.set_eq_take_append_cons_drop, if_pos (by omega)]
  simp
end Go.Proofs.YtlgdmbdhffdenaaGreatDoor

/- strings.(*byteStringReplacer).Replace at the three bytes: what is written between quotes. -/
namespace Go.Proofs.YtlgdmbdhffdenaaGreatDoor
set_option linter.unusedVariables false
set_option linter.unusedSimpArgs false
open Go.RowKit

/-- The row for byte i. -/
def rv (r1 r2 r3 d1 d2 d3 i : Nat) : Value := if i = 34 then .slice (some ⟨r1, 0, none⟩) 2 d1 else if i = 92 then .slice (some ⟨r2, 0, none⟩) 2 d2 else if i = 10 then .slice (some ⟨r3, 0, none⟩) 2 d3 else .slice none 0 0
/-- The replacer's tables. -/
structure BS (w : World) (B g r1 r2 r3 d1 d2 d3 o oc : Nat) : Prop where
  lt : g < B
  lo : o < B
  tab : ∀ i, i < 256 → w.cell? ⟨g, i, none⟩ = some (rv r1 r2 r3 d1 d2 d3 i)
  strs : w.cell? ⟨g, 256, none⟩ = some (.slice (some ⟨o, 0, none⟩) 3 oc)
  str : ∀ k, k < 3 → w.cell? ⟨o, k, none⟩ = some (.string ⟨#[chq k]⟩)
  q1 : Rd w B 1 (some ⟨r1, 0, none⟩) 2 d1 ((esc1 34).map vb)
  q2 : Rd w B 1 (some ⟨r2, 0, none⟩) 2 d2 ((esc1 92).map vb)
  q3 : Rd w B 1 (some ⟨r3, 0, none⟩) 2 d3 ((esc1 10).map vb)
  oc3 : 3 ≤ oc
  ocb : oc ≤ 9223372036854775807
section
variable {w w' : World} {B g r1 r2 r3 d1 d2 d3 o oc : Nat}
theorem BS.below (h : BS w B g r1 r2 r3 d1 d2 d3 o oc) (hb : Below B w w') : BS w' B g r1 r2 r3 d1 d2 d3 o oc :=
  ⟨h.lt, h.lo, fun i hi => (hb.cell h.lt).trans (h.tab i hi), (hb.cell h.lt).trans h.strs, fun k hk => (hb.cell h.lo).trans (h.str k hk), h.q1.below hb, h.q2.below hb, h.q3.below hb, h.oc3, h.ocb⟩
theorem BS.more {B' : Nat} (h : BS w B g r1 r2 r3 d1 d2 d3 o oc) (hB : B ≤ B') : BS w B' g r1 r2 r3 d1 d2 d3 o oc :=
  ⟨Nat.lt_of_lt_of_le h.lt hB, Nat.lt_of_lt_of_le h.lo hB, h.tab, h.strs, h.str, h.q1.more hB, h.q2.more hB, h.q3.more hB, h.oc3, h.ocb⟩
/-- The row of a byte that is replaced. -/
theorem BS.hit (h : BS w B g r1 r2 r3 d1 d2 d3 o oc) (x : UInt8) (hx : sp x = true) : ∃ r d, w.cell? ⟨g, x.toNat, none⟩ = some (.slice (some ⟨r, 0, none⟩) 2 d) ∧ Rd w B 1 (some ⟨r, 0, none⟩) 2 d ((esc1 x).map vb) := by
  have hlt := UInt8.toNat_lt x
  simp [sp] at hx
  rcases hx with (rfl | rfl) | rfl
  · exact ⟨r1, d1, h.tab 34 (by omega), h.q1⟩
  · exact ⟨r2, d2, h.tab 92 (by omega), h.q2⟩
  · exact ⟨r3, d3, h.tab 10 (by omega), h.q3⟩
theorem BS.miss (h : BS w B g r1 r2 r3 d1 d2 d3 o oc) (i : Nat) (hi : i < 256) (hx : sp (UInt8.ofNat i) = false) : w.cell? ⟨g, i, none⟩ = some (.slice none 0 0) := by
  rw [h.tab i hi]
  have h1 : i ≠ 34 := by rintro rfl; exact absurd hx (by decide)
  have h2 : i ≠ 92 := by rintro rfl; exact absurd hx (by decide)
  have h3 : i ≠ 10 := by rintro rfl; exact absurd hx (by decide)
  unfold rv
  rw [if_neg h1, if_neg h2, if_neg h3]
end

theorem own_full {w : World} {B g n : Nat} {e : TypeId} {xs : List Value} (h : w.ownsRow B e 1 (.slice (some ⟨g, 0, none⟩) n n) n xs) : Blk w g e xs.toArray := by
  rcases h.2 with ⟨e1, _⟩ | ⟨g', cap, cur, e1, hb, hg, hnc, hcm, hcs, htake⟩
  · simp at e1
  · simp only [Value.slice.injEq, Option.some.injEq, Addr.mk.injEq, and_true, true_and] at e1
    obtain ⟨rfl, rfl⟩ := e1
    have : xs = cur.toList := by rw [← htake]; exact List.take_of_length_le (by rw [Array.length_toList]; omega)
    subst this
    exact hg
def cn (l : List UInt8) (i : Nat) : Nat := (l.take i).countP sp
theorem cn_hit (l : List UInt8) (i : Nat) (h : i < l.length) (hs : sp (UInt8.ofNat (bt l i)) = true) : cn l (i + 1) = cn l i + 1 := by unfold cn; rw [count_take l i h, if_pos hs]
theorem cn_miss (l : List UInt8) (i : Nat) (h : i < l.length) (hs : sp (UInt8.ofNat (bt l i)) = false) : cn l (i + 1) = cn l i := by unfold cn; rw [count_take l i h, hs]; rfl
theorem cn_le (l : List UInt8) (i : Nat) : cn l i ≤ l.length := by
  unfold cn
  have h1 := List.countP_le_length (p := sp) (l := l.take i)
  rw [List.length_take] at h1
  omega
theorem cn_zero (l : List UInt8) : cn l 0 = 0 := by simp [cn]
theorem cn_end (l : List UInt8) : cn l l.length = l.countP sp := by simp [cn]
theorem Rd.addc {w : World} {B n c : Nat} {p : Addr} {xs : List Value} (h : Rd w B 1 (some p) n c xs) (h0 : 0 < n) : ∀ k v, xs[k]? = some v → w.cell? (p.add k) = some v := by
  obtain ⟨b, off, e, _, hc⟩ := h.cells h0
  injection e with e
  subst e
  intro k v hv
  have hadd : (⟨b, off, none⟩ : Addr).add k = ⟨b, off + k, none⟩ := by unfold Addr.add; split <;> simp_all
  rw [hadd]
  exact hc k v hv
/-- The new row, as far as it is filled. -/
def BufAt (B : Nat) (w wr : World) (g : Nat) (l : List UInt8) (i : Nat) : Prop := Blk wr g 5 (bufL l i).toArray ∧ Below B w wr ∧ B ≤ g
theorem BufAt.mk0 {B g : Nat} {w wr : World} {l : List UInt8} {n : Nat} (hn : (escape l).length = n) (h : wr.ownsRow B 5 1 (.slice (some ⟨g, 0, none⟩) n n) n (madeCells (Value.int .u8 0).cells (n * 1)).toList) (hb : Below B w wr) (hg : B ≤ g) : BufAt B w wr g l 0 := by
  have h1 := own_full h
  rw [show (Value.int .u8 0).cells = #[.int .u8 0] from rfl, toList_madeCells_one, Nat.mul_one, ← hn, ← bufL_zero] at h1
  exact ⟨h1, hb, hg⟩
theorem BufAt.rd {B g : Nat} {w wr : World} {l : List UInt8} {n : Nat} (hn : (escape l).length = n) (h63 : n ≤ 9223372036854775807) (h : BufAt B w wr g l l.length) : Rd wr wr.heap.size 1 (some ⟨g, 0, none⟩) n n ((escape l).map vb) := by
  have h1 := h.1
  rw [bufL_end] at h1
  refine ⟨by simp [hn], Nat.le_refl _, h63, fun _ => ⟨g, 0, rfl, h1.lt, fun j u hj => ?_⟩⟩
  rw [Nat.zero_add, h1.cell]
  simpa using hj

set_option pp.deepTerms true in
set_option maxHeartbeats 4000000 in
set_option maxRecDepth 100000 in
theorem bsr_any (l : List UInt8) (B g r1 r2 r3 d1 d2 d3 o oc : Nat) (w : World) (h : BS w B g r1 r2 r3 d1 d2 d3 o oc) (hB : B ≤ w.heap.size) (hl : l.length ≤ 1000000) :
    Calls Tryz.prog 232 #[.pointer (some ⟨g, 0, none⟩), .string (bs l)] w fun e w' => e = .returned (.string (bs (escape l))) ∧ Below w.heap.size w w' := by
  have hst := h.strs
  have hoc3 := h.oc3
  have hocb := h.ocb
  have H := Lib.hid h
  clear h
  by_cases h24 : 24 ≤ l.length
  · have d24 : decide ((24 : Int) ≤ (l.length : Int)) = true := decide_eq_true (by omega)
    clear h24
    go_enter Tryz.func232, Tryz.ntmps232
    go_wp2_with (fail)
    go_loopw [5, 6, 8, 9, 32] (fun s5 s6 s8 s9 s32 wr => ∃ k : Nat, k ≤ 3 ∧ s32 = .int .i64 k ∧ s5 = .int .i64 ((l.length + pc l k : Nat) : Int) ∧ s6 = .bool (decide (0 < pc l k)) ∧ Hid (Below w.heap.size w wr)) (fun _ _ _ _ s32 _ => 3 - (intOf s32).toNat)
    case atStart => exact ⟨0, by omega, rfl, by simp [pc], by simp [pc], Below.refl _ _⟩
    case round =>
      obtain ⟨k, hk, rfl, rfl, rfl, hbw⟩ := hrel
      by_cases hlt : k < 3
      · have HW := Lib.hid (H.out.below (hbw.out.mono hB))
        have hs := HW.out.str k hlt
        obtain ⟨rr, dd, hh, hq⟩ := HW.out.hit (chq k) (by obtain rfl | rfl | rfl : k = 0 ∨ k = 1 ∨ k = 2 := by omega
                                                          all_goals decide)
        have hpc := pc_succ l k hlt
        have hc1 : l.count (chq k) ≤ l.length := List.count_le_length
        have hp1 : pc l k ≤ l.length + l.length := by obtain rfl | rfl | rfl : k = 0 ∨ k = 1 ∨ k = 2 := by omega
                                                      all_goals (have e1 : l.count 10 ≤ l.length := List.count_le_length; have e2 : l.count 92 ≤ l.length := List.count_le_length; simp [pc]; try omega)
        generalize hx : chq k = x at *
        have hs' : wr.cell? ⟨o, k, none⟩ = some (.string (bs [x])) := hs
        have hh' : wr.cell? ⟨g, bt [x] 0, none⟩ = some (.slice (some ⟨rr, 0, none⟩) 2 dd) := hh
        have hx256 : bt [x] 0 < 256 := bt_lt _ _
        have hx256' : (bt [x] 0 : Int) < 256 := by omega
        have hx1 : 0 < (bs [x]).size := Nat.one_pos
        clear hs hh
        by_cases hc0 : l.count x = 0
        · have q1 : ((l.count x : Int) != 0) = false := by rw [hc0]; rfl
          have e1 : pc l (k + 1) = pc l k := by omega
          have E1 := Lib.hid e1
          clear hx hpc e1
          go_wp2_with (go_at_call 234; refine (Tryz.strings_Count_one (bs l) x wr).mono ?_; rintro e w' ⟨rfl, rfl⟩; rw [show Lib.countByte (bs l).data.toList x = l.count x from rfl])
          go_roundw
          case rel => exact ⟨k + 1, by omega, by go_num, by rw [E1.out]; go_num, by rw [E1.out], hbw.out⟩
          case measure => simp [intOf]; omega
        · have q1 : ((l.count x : Int) != 0) = true := by simpa using hc0
          have E1 := Lib.hid hpc
          have E2 := Lib.hid (show decide (0 < pc l (k + 1)) = true by simp; omega)
          clear hx hpc
          go_wp2_with (go_at_call 234; refine (Tryz.strings_Count_one (bs l) x wr).mono ?_; rintro e w' ⟨rfl, rfl⟩; rw [show Lib.countByte (bs l).data.toList x = l.count x from rfl])
          go_quiet (fail)
          go_wp2
          go_roundw
          case rel => exact ⟨k + 1, by omega, by go_num, by rw [E1.out]; go_num, by rw [E2.out], hbw.out.trans ((below_drewNg w' nq).mono hbw.out.size)⟩
          case measure => simp [intOf]; omega
      · obtain rfl : k = 3 := by omega
        rw [pc_all l]
        have hel := escape_len l
        have hcl : l.countP sp ≤ l.length := List.countP_le_length
        have HE0 := Lib.hid (escape_same l)
        generalize l.countP sp = z at *
        by_cases hc0 : z = 0
        · have HE := Lib.hid (HE0.out hc0)
          have q1 : decide (0 < z) = false := decide_eq_false (by omega)
          clear hel hc0
          go_wp2
          go_ret
          exact ⟨by rw [HE.out]; rfl, hbw.out⟩
        · have q1 : decide (0 < z) = true := decide_eq_true (by omega)
          have hN : l.length + z = (escape l).length := hel.symm
          rw [hN]
          have hN2 : (escape l).length ≤ 2000000 := by omega
          clear hel hc0 hN
          generalize hE : (escape l).length = N at hN2 ⊢
          have HN := Lib.hid hE
          obtain ⟨ie, hi1, hi2, hi3, hi4⟩ := info_parts (P := Tryz.prog) (e := 5) (z := .int .u8 0) (size := 1) (bytes := 1) (by kernel_rfl)
          have Hhi := Lib.hid (And.intro hi1 (And.intro hi2 (And.intro hi3 hi4)))
          clear hi1 hi2 hi3 hi4
          generalize hW : wr = W at *
          clear hW
          go_wp2_with (first | (at_make; go_must (refine wpList_make_full _ rfl _ _ 22 rfl w.heap.size 5 ie (.int .u8 0) 1 Tryz.underlying22 Hhi.out.1 Hhi.out.2.1 Hhi.out.2.2.1 _ _ _ _ N rfl rfl rfl rfl (by rw [Hhi.out.2.2.2]; omega) (by unfold maxLen; omega) hbw.out.size ?_; intro w4 hown4 hg4)) | fail)
          have HF := Lib.hid (BufAt.mk0 HN.out hown4 (hbw.out.grown hg4 hbw.out.size (fun k hk => by cases hk)) hbw.out.size)
          have hg0 := hbw.out.size
          generalize W.heap.size = G at *
          clear hown4 hg4
          go_loopw [13, 14, 15] (fun s13 s14 s15 wr => ∃ i : Nat, i ≤ l.length ∧ s14 = .int .i64 i ∧ s13 = .int .i64 (((escape (l.take i)).length : Nat) : Int) ∧ Hid (BufAt w.heap.size w wr G l i)) (fun _ s14 _ _ => l.length - (intOf s14).toNat)
          case atStart => exact ⟨0, Nat.zero_le _, rfl, by simp [escape], HF.out⟩
          case round =>
            obtain ⟨i, hi, rfl, rfl, hbf⟩ := hrel
            by_cases hlt : i < l.length
            · have HW := Lib.hid (H.out.below (hbf.out.2.1.mono hB))
              have hb256 : (bt l i : Int) < 256 := by have := bt_lt l i; omega
              have hbn256 : bt l i < 256 := bt_lt l i
              have hsplit := escape_split l i hlt
              have HT := Lib.hid (congrArg List.length (escape_take l i hlt))
              have h1 := hbf.out.1
              have f1 := h1.frozen (escape (l.take i)).length
              have hbl := bufL_len l i
              have HSP := Lib.hid (bufL_splice l i hlt)
              have HST := Lib.hid (bufL_set l i hlt)
              have hbt : (UInt8.ofNat (bt l i)).toNat = bt l i := by simp; omega
              rw [hE] at hsplit hbl
              have hElt : (escape (l.take i)).length ≤ N := by omega
              generalize hx : UInt8.ofNat (bt l i) = x at *
              by_cases hs : sp x = true
              · obtain ⟨rr, dd, hh, hq⟩ := HW.out.hit x hs
                rw [hbt] at hh
                have hl2 := sp_len hs
                rw [hl2] at hsplit
                have Hq := Lib.hid hq
                have HTl := Lib.hid (show (escape (l.take (i + 1))).length = (escape (l.take i)).length + 2 by rw [HT.out, List.length_append, hl2])
                clear HT HST hx hbt hs hq f1
                have H1 := Lib.hid h1
                clear h1
                generalize (escape (l.take i)).length = j at *
                have Hl2 := Lib.hid hl2
                have hnj : ¬ N = j := by omega
                have Hsp := Lib.hid hsplit
                have Hbl := Lib.hid hbl
                go_wp2
                go_region_law (refine step_copy_splice rfl (.tmp 105) (.tmp 111) 22 22 rfl 5 Tryz.underlying22 (by kernel_rfl) (some ⟨G, j, none⟩) (some ⟨rr, 0, none⟩) (N - j) (N - j) 2 dd (by simp [Act.eval, Act.put, hnj]) (by simp [Act.eval, Act.put]) G j (bufL l i) 5 (by exact H1.out) ((esc1 x).map vb) (by rw [List.length_map, Hl2.out]; exact (Nat.min_eq_left (by have := Hsp.out; omega)).symm) (fun _ => ⟨rfl, ⟨rr, 0, none⟩, rfl, (by first | exact Hq.out.addc (by omega) | exact Hq.out.drew.addc (by omega))⟩) (by rw [List.length_map, Hl2.out, Hbl.out]; exact Hsp.out) (vb_one _) w.heap.size w (hbf.out.2.1.trans (Below.mono (by go_grown; try exact Below.refl _ _) hbf.out.2.1.size)) hbf.out.2.2 ?_; intro w5 hb5 hbl5)
                all_goals
                  go_wp2
                  go_roundw
                  case rel => exact ⟨i + 1, by omega, by go_num, by rw [HTl.out]; go_num, by have := hb5.out; rw [HSP.out] at this; exact ⟨this, hbl5, hbf.out.2.2⟩⟩
                  case measure => simp [intOf]; omega
              · have hs' : sp x = false := by simpa using hs
                have hh := HW.out.miss (bt l i) hbn256 (by rw [hx]; exact hs')
                have hj := HST.out hs'
                have HJ := Lib.hid hj
                have hl1 : (esc1 x).length = 1 := by rw [sp_not hs']; rfl
                rw [hl1] at hsplit
                have HTl := Lib.hid (show (escape (l.take (i + 1))).length = (escape (l.take i)).length + 1 by rw [HT.out, List.length_append, hl1])
                clear HT HSP HST hx hbt hs hs' hj
                have c1 : ∃ v, wr.cell? ⟨G, (escape (l.take i)).length, none⟩ = some v := ⟨_, by rw [h1.cell]; exact Array.getElem?_eq_getElem (by simp; omega)⟩
                obtain ⟨v, c1⟩ := c1
                have H1 := Lib.hid (h1.set (escape (l.take i)).length (.int .u8 (bt l i : Int)))
                clear h1
                generalize (escape (l.take i)).length = j at *
                go_wp2
                go_roundw
                case rel => exact ⟨i + 1, by omega, by go_num, by rw [HTl.out]; go_num, by have := H1.out; rw [HJ.out] at this; exact ⟨this, hbf.out.2.1.setCell hbf.out.2.2 _, hbf.out.2.2⟩⟩
                case measure => simp [intOf]; omega
            · obtain rfl : i = l.length := by omega
              have hrd := hbf.out.rd HN.out (by omega)
              have hcv := hrd.conv (P := Tryz.prog) (src := 22) (dst := 9) Tryz.underlying22 Tryz.underlying5 Tryz.underlying9 N
              clear hrd
              go_wp2
              go_ret
              exact ⟨rfl, hbf.out.2.1⟩
  · have d24 : decide ((24 : Int) ≤ (l.length : Int)) = false := decide_eq_false (by omega)
    have d24n : decide (24 ≤ l.length) = false := decide_eq_false h24
    clear h24
    go_enter Tryz.func232, Tryz.ntmps232
    go_wp2_with (fail)
    go_loopw [5, 6, 10, 11] (fun s5 s6 s10 s11 wr => ∃ i : Nat, i ≤ l.length ∧ s10 = .int .i64 i ∧ s5 = .int .i64 ((l.length + cn l i : Nat) : Int) ∧ s6 = .bool (decide (0 < cn l i)) ∧ Hid (Below w.heap.size w wr)) (fun _ _ s10 _ _ => l.length - (intOf s10).toNat)
    case atStart => exact ⟨0, Nat.zero_le _, rfl, by rw [cn_zero]; simp, by rw [cn_zero]; simp, Below.refl _ _⟩
    case round =>
      obtain ⟨i, hi, rfl, rfl, rfl, hbw⟩ := hrel
      by_cases hlt : i < l.length
      · have HW := Lib.hid (H.out.below (hbw.out.mono hB))
        have hb256 : (bt l i : Int) < 256 := by have := bt_lt l i; omega
        have hbn256 : bt l i < 256 := bt_lt l i
        have hbt : (UInt8.ofNat (bt l i)).toNat = bt l i := by simp; omega
        have hcl := cn_le l i
        by_cases hs : sp (UInt8.ofNat (bt l i)) = true
        · obtain ⟨rr, dd, hh, hq⟩ := HW.out.hit _ hs
          rw [hbt] at hh
          have HC := Lib.hid (cn_hit l i hlt hs)
          have HD := Lib.hid (show decide (0 < cn l (i + 1)) = true by rw [HC.out]; simp)
          clear hs hq hbt
          go_wp2
          go_roundw
          case rel => exact ⟨i + 1, by omega, by go_num, by rw [HC.out]; go_num, by rw [HD.out], hbw.out⟩
          case measure => simp [intOf]; omega
        · have hs' : sp (UInt8.ofNat (bt l i)) = false := by simpa using hs
          have hh := HW.out.miss (bt l i) hbn256 hs'
          have HC := Lib.hid (cn_miss l i hlt hs')
          clear hs hs' hbt
          go_wp2
          go_roundw
          case rel => exact ⟨i + 1, by omega, by go_num, by rw [HC.out], by rw [HC.out], hbw.out⟩
          case measure => simp [intOf]; omega
      · obtain rfl : i = l.length := by omega
        rw [cn_end l]
        have hel := escape_len l
        have hcl : l.countP sp ≤ l.length := List.countP_le_length
        have HE0 := Lib.hid (escape_same l)
        generalize l.countP sp = z at *
        by_cases hc0 : z = 0
        · have HE := Lib.hid (HE0.out hc0)
          have q1 : decide (0 < z) = false := decide_eq_false (by omega)
          clear hel hc0
          go_wp2
          go_ret
          exact ⟨by rw [HE.out]; rfl, hbw.out⟩
        · have q1 : decide (0 < z) = true := decide_eq_true (by omega)
          have hN : l.length + z = (escape l).length := hel.symm
          rw [hN]
          have hN2 : (escape l).length ≤ 2000000 := by omega
          clear hel hc0 hN
          generalize hE : (escape l).length = N at hN2 ⊢
          have HN := Lib.hid hE
          obtain ⟨ie, hi1, hi2, hi3, hi4⟩ := info_parts (P := Tryz.prog) (e := 5) (z := .int .u8 0) (size := 1) (bytes := 1) (by kernel_rfl)
          have Hhi := Lib.hid (And.intro hi1 (And.intro hi2 (And.intro hi3 hi4)))
          clear hi1 hi2 hi3 hi4
          generalize hW : wr = W at *
          clear hW
          go_wp2_with (first | (at_make; go_must (refine wpList_make_full _ rfl _ _ 22 rfl w.heap.size 5 ie (.int .u8 0) 1 Tryz.underlying22 Hhi.out.1 Hhi.out.2.1 Hhi.out.2.2.1 _ _ _ _ N rfl rfl rfl rfl (by rw [Hhi.out.2.2.2]; omega) (by unfold maxLen; omega) hbw.out.size ?_; intro w4 hown4 hg4)) | fail)
          have HF := Lib.hid (BufAt.mk0 HN.out hown4 (hbw.out.grown hg4 hbw.out.size (fun k hk => by cases hk)) hbw.out.size)
          have hg0 := hbw.out.size
          generalize W.heap.size = G at *
          clear hown4 hg4
          go_loopw [13, 14, 15] (fun s13 s14 s15 wr => ∃ i : Nat, i ≤ l.length ∧ s14 = .int .i64 i ∧ s13 = .int .i64 (((escape (l.take i)).length : Nat) : Int) ∧ Hid (BufAt w.heap.size w wr G l i)) (fun _ s14 _ _ => l.length - (intOf s14).toNat)
          case atStart => exact ⟨0, Nat.zero_le _, rfl, by simp [escape], HF.out⟩
          case round =>
            obtain ⟨i, hi, rfl, rfl, hbf⟩ := hrel
            by_cases hlt : i < l.length
            · have HW := Lib.hid (H.out.below (hbf.out.2.1.mono hB))
              have hb256 : (bt l i : Int) < 256 := by have := bt_lt l i; omega
              have hbn256 : bt l i < 256 := bt_lt l i
              have hsplit := escape_split l i hlt
              have HT := Lib.hid (congrArg List.length (escape_take l i hlt))
              have h1 := hbf.out.1
              have f1 := h1.frozen (escape (l.take i)).length
              have hbl := bufL_len l i
              have HSP := Lib.hid (bufL_splice l i hlt)
              have HST := Lib.hid (bufL_set l i hlt)
              have hbt : (UInt8.ofNat (bt l i)).toNat = bt l i := by simp; omega
              rw [hE] at hsplit hbl
              have hElt : (escape (l.take i)).length ≤ N := by omega
              generalize hx : UInt8.ofNat (bt l i) = x at *
              by_cases hs : sp x = true
              · obtain ⟨rr, dd, hh, hq⟩ := HW.out.hit x hs
                rw [hbt] at hh
                have hl2 := sp_len hs
                rw [hl2] at hsplit
                have Hq := Lib.hid hq
                have HTl := Lib.hid (show (escape (l.take (i + 1))).length = (escape (l.take i)).length + 2 by rw [HT.out, List.length_append, hl2])
                clear HT HST hx hbt hs hq f1
                have H1 := Lib.hid h1
                clear h1
                generalize (escape (l.take i)).length = j at *
                have Hl2 := Lib.hid hl2
                have hnj : ¬ N = j := by omega
                have Hsp := Lib.hid hsplit
                have Hbl := Lib.hid hbl
                go_wp2
                go_region_law (refine step_copy_splice rfl (.tmp 105) (.tmp 111) 22 22 rfl 5 Tryz.underlying22 (by kernel_rfl) (some ⟨G, j, none⟩) (some ⟨rr, 0, none⟩) (N - j) (N - j) 2 dd (by simp [Act.eval, Act.put, hnj]) (by simp [Act.eval, Act.put]) G j (bufL l i) 5 (by exact H1.out) ((esc1 x).map vb) (by rw [List.length_map, Hl2.out]; exact (Nat.min_eq_left (by have := Hsp.out; omega)).symm) (fun _ => ⟨rfl, ⟨rr, 0, none⟩, rfl, (by first | exact Hq.out.addc (by omega) | exact Hq.out.drew.addc (by omega))⟩) (by rw [List.length_map, Hl2.out, Hbl.out]; exact Hsp.out) (vb_one _) w.heap.size w (hbf.out.2.1.trans (Below.mono (by go_grown; try exact Below.refl _ _) hbf.out.2.1.size)) hbf.out.2.2 ?_; intro w5 hb5 hbl5)
                all_goals
                  go_wp2
                  go_roundw
                  case rel => exact ⟨i + 1, by omega, by go_num, by rw [HTl.out]; go_num, by have := hb5.out; rw [HSP.out] at this; exact ⟨this, hbl5, hbf.out.2.2⟩⟩
                  case measure => simp [intOf]; omega
              · have hs' : sp x = false := by simpa using hs
                have hh := HW.out.miss (bt l i) hbn256 (by rw [hx]; exact hs')
                have hj := HST.out hs'
                have HJ := Lib.hid hj
                have hl1 : (esc1 x).length = 1 := by rw [sp_not hs']; rfl
                rw [hl1] at hsplit
                have HTl := Lib.hid (show (escape (l.take (i + 1))).length = (escape (l.take i)).length + 1 by rw [HT.out, List.length_append, hl1])
                clear HT HSP HST hx hbt hs hs' hj
                have c1 : ∃ v, wr.cell? ⟨G, (escape (l.take i)).length, none⟩ = some v := ⟨_, by rw [h1.cell]; exact Array.getElem?_eq_getElem (by simp; omega)⟩
                obtain ⟨v, c1⟩ := c1
                have H1 := Lib.hid (h1.set (escape (l.take i)).length (.int .u8 (bt l i : Int)))
                clear h1
                generalize (escape (l.take i)).length = j at *
                go_wp2
                go_roundw
                case rel => exact ⟨i + 1, by omega, by go_num, by rw [HTl.out]; go_num, by have := H1.out; rw [HJ.out] at this; exact ⟨this, hbf.out.2.1.setCell hbf.out.2.2 _, hbf.out.2.2⟩⟩
                case measure => simp [intOf]; omega
            · obtain rfl : i = l.length := by omega
              have hrd := hbf.out.rd HN.out (by omega)
              have hcv := hrd.conv (P := Tryz.prog) (src := 22) (dst := 9) Tryz.underlying22 Tryz.underlying5 Tryz.underlying9 N
              clear hrd
              go_wp2
              go_ret
              exact ⟨rfl, hbf.out.2.1⟩
end Go.Proofs.YtlgdmbdhffdenaaGreatDoor

/- strings.(*Replacer).build at the six strings: the tables. -/
namespace Go.Proofs.YtlgdmbdhffdenaaGreatDoor
set_option linter.unusedVariables false
set_option linter.unusedSimpArgs false
open Go.RowKit

/-- The cells of a byteStringReplacer. -/
def bsc (f : Nat → Value) (x : Value) : Array Value := ((List.range 256).map f ++ [x]).toArray
theorem bsc_size (f : Nat → Value) (x : Value) : (bsc f x).size = 257 := by simp [bsc]
theorem bsc_get (f : Nat → Value) (x : Value) (i : Nat) (h : i < 256) : (bsc f x)[i]? = some (f i) := by simp [bsc, List.getElem?_append, h]
theorem bsc_last (f : Nat → Value) (x : Value) : (bsc f x)[256]? = some x := by simp [bsc, List.getElem?_append]
theorem bsc_out (f : Nat → Value) (x : Value) (k : Nat) (h : 257 ≤ k) : (bsc f x)[k]? = none := Array.getElem?_eq_none (by rw [bsc_size]; exact h)
theorem bsc_set (f : Nat → Value) (x v : Value) (i : Nat) (h : i < 256) : (bsc f x).setIfInBounds i v = bsc (fun j => if j = i then v else f j) x := by
  apply Array.ext_getElem?
  intro k
  rw [Array.getElem?_setIfInBounds, bsc_size]
  by_cases e : i = k
  · subst e
    rw [if_pos rfl, if_pos (by omega), bsc_get _ _ _ h, if_pos rfl]
  · rw [if_neg e]
    rcases Nat.lt_or_ge k 256 with h3 | h3
    · rw [bsc_get _ _ _ h3, bsc_get _ _ _ h3, if_neg (fun h => e h.symm)]
    · rcases Nat.eq_or_lt_of_le h3 with rfl | h4
      · rw [bsc_last, bsc_last]
      · rw [bsc_out _ _ _ h4, bsc_out _ _ _ h4]
theorem bsc_set_last (f : Nat → Value) (x v : Value) : (bsc f x).setIfInBounds 256 v = bsc f v := by
  apply Array.ext_getElem?
  intro k
  rw [Array.getElem?_setIfInBounds, bsc_size]
  by_cases e : 256 = k
  · subst e
    rw [if_pos rfl, if_pos (by omega), bsc_last]
  · rw [if_neg e]
    rcases Nat.lt_or_ge k 256 with h3 | h3
    · rw [bsc_get _ _ _ h3, bsc_get _ _ _ h3]
    · rw [bsc_out _ _ _ (by omega), bsc_out _ _ _ (by omega)]
theorem bsc_one (f : Nat → Value) (x : Value) (hf : ∀ i, (f i).oneCell' = true) (hx : x.oneCell' = true) : ∀ v ∈ (bsc f x).toList, v.oneCell' = true := by
  intro v hv
  simp only [bsc, List.mem_append, List.mem_map, List.mem_singleton] at hv
  rcases hv with ⟨i, _, rfl⟩ | rfl
  · exact hf i
  · exact hx
def nilS : Value := .slice none 0 0
theorem zero_bsr (w : World) : (zeroValue 179).run Tryz.prog w = .ok (.agg (bsc (fun _ => nilS) nilS)) w := by kernel_rfl
theorem build_bsr (x : Value) (hx : ∃ A n c, x = .slice A n c) (w : World) : (Instr.build 179 #[(1, x)]).run Tryz.prog w = .ok (.agg (bsc (fun _ => nilS) x)) w := by
  obtain ⟨A, n, c, rfl⟩ := hx
  kernel_rfl
theorem info_bsr : (Tryz.prog.info? 179).map (·.size) = some 257 := by kernel_rfl
theorem elemStr : Elem Tryz.prog 117 9 1 16 := Elem.mk' Tryz.underlying117 (z := .string ⟨#[]⟩) (by kernel_rfl) rfl (by omega)

section
variable {P : Program} {ops : Array Oper} {rest : List Oper} {o : Oper} {a : Act} {w : World} {Q : Exit → Act → World → Prop}
theorem wpList_build1 (hgd : o.guard = none) (t : TypeId) (i : Nat) (x : Operand) (ho : o.op = .build t #[(i, x)]) (u : Value)
    (hx : a.eval x = u) (r : Value) (hr : (Instr.build t #[(i, u)]).run P w = .ok r w) (h : wpList P ops Q rest (a.put o.dst r) w) : wpList P ops Q (o :: rest) a w := by
  refine wpList_by hgd (v := r) (w' := w) ?_ h
  unfold execOp
  simp only [ho, List.map_toArray, List.map_cons, List.map_nil, hx, Sem.run_bind, hr]
  rfl
end
/-- A block that holds bytes at its head. -/
def RowX (w : World) (e : TypeId) (r : Nat) (l : List UInt8) : Prop := ∃ (cs : Array Value) (fr : Nat × Nat), w.heap[r]? = some (.cells cs e fr) ∧ ∀ (j : Nat) (u : Value), (l.map vb)[j]? = some u → cs[j]? = some u
theorem RowX.lt {w : World} {e : TypeId} {r : Nat} {l : List UInt8} (h : RowX w e r l) : r < w.heap.size := by
  obtain ⟨cs, fr, h1, _⟩ := h
  exact (Array.getElem?_eq_some_iff.1 h1).1
theorem RowX.rd {w : World} {e : TypeId} {r c : Nat} {l : List UInt8} (h : RowX w e r l) (hc : l.length ≤ c) (hb : c ≤ 9223372036854775807) : Rd w w.heap.size 1 (some ⟨r, 0, none⟩) l.length c (l.map vb) := by
  have hlt := h.lt
  obtain ⟨cs, fr, h1, h2⟩ := h
  refine ⟨by simp, hc, hb, fun _ => ⟨r, 0, rfl, hlt, fun j u hj => ?_⟩⟩
  rw [Nat.zero_add, cell_of_row w r j cs e fr h1]
  exact h2 j u hj
theorem RowX.heap {w w' : World} {e : TypeId} {r : Nat} {l : List UInt8} (h : RowX w e r l) (he : w'.heap[r]? = w.heap[r]?) : RowX w' e r l := by
  obtain ⟨cs, fr, h1, h2⟩ := h
  exact ⟨cs, fr, he.trans h1, h2⟩
theorem RowX.ne {w : World} {e t : TypeId} {r g : Nat} {l : List UInt8} {cs : Array Value} (h : RowX w e r l) (hb : Blk w g t cs) (hne : e ≠ t) : r ≠ g := by
  rintro rfl
  obtain ⟨cs', fr, h1, _⟩ := h
  unfold Blk at hb
  rw [h1] at hb
  injection hb with hb
  injection hb with _ h2 _
  exact hne h2
theorem RowX.own {w : World} {B size n r : Nat} {e t : TypeId} {v : Value} {xs : List Value} {l : List UInt8} (h : RowX w e r l) (ho : w.ownsRow B t size v n xs) (hne : t ≠ e) : ∀ k, v.ownBlock = some k → k ≠ r := by
  rintro k hk rfl
  obtain ⟨cs', fr, h1, _⟩ := h
  rcases ho.2 with ⟨rfl, _⟩ | ⟨g', cap, cur, rfl, hg, hgg, rest⟩
  · simp [Value.ownBlock] at hk
  · simp [Value.ownBlock] at hk
    subst hk
    rw [hgg] at h1
    injection h1 with h1
    injection h1 with _ h2 _
    exact hne h2
section
variable {P : Program} {ops : Array Oper} {rest : List Oper} {o : Oper} {a : Act} {w : World} {Q : Exit → Act → World → Prop}
/-- []byte(s). -/
theorem wpList_bytes (hgd : o.guard = none) (src dst e : TypeId) (x : Operand) (ho : o.op = .convert src dst x) (hs : P.underlying src = some .string) (hd : P.underlying dst = some (.slice e)) (he : P.underlying e = some (.int .u8))
    (l : List UInt8) (hx : a.eval x = .string (bs l)) (hl : l.length ≤ maxLen)
    (h : ∀ c w', RowX w' e w.heap.size l → l.length ≤ c → c ≤ 9223372036854775807 → Below w.heap.size w w' → wpList P ops Q rest (a.put o.dst (.slice (some ⟨w.heap.size, 0, none⟩) l.length c)) w') : wpList P ops Q (o :: rest) a w := by
  have hrun := Lib.run_convert_string_bytes (P := P) w src dst e (bs l) hs hd he
  have hsz := Lib.bytesWorld_size w e (bs l)
  refine wpList_by hgd (v := .slice (some ⟨w.heap.size, 0, none⟩) l.length (grownCap w (bs l).size 0 e)) (w' := Lib.bytesWorld w e (bs l)) ?_ (h _ _ ?_ ?_ ?_ ?_)
  · unfold execOp
    simp only [ho, hx, Sem.run_bind, hrun]
    rfl
  · refine ⟨_, _, Lib.bytesWorld_at_new w e (bs l), fun j u hj => ?_⟩
    have hjl : j < l.length := by
      rcases Nat.lt_or_ge j l.length with h1 | h1
      · exact h1
      · rw [List.getElem?_eq_none (by simpa using h1)] at hj; cases hj
    rw [← hj]
    simp [Lib.bytesCells, bs, Array.getElem?_append, hjl, vb]
  · exact grownCap_ge w _ _ _
  · have := grownCap_le_maxLen w (bs l).size 0 e (by rw [bs_size]; exact hl)
    unfold maxLen at this
    exact this
  · exact ⟨rfl, rfl, rfl, by omega, fun k hk => Lib.bytesWorld_at_old w e (bs l) k hk⟩
end

/-- The tables on the way: the struct's block, the strings' row, the rows of bytes. -/
structure BSt (w0 w : World) (g : Nat) (F : Nat → Value) (X : Value) (A : Option Addr) (n c : Nat) (xs : List Value) (R : List (Nat × List UInt8)) : Prop where
  blk : Blk w g 179 (bsc F X)
  own : w.ownsRow w0.heap.size 9 1 (.slice A n c) n xs
  rows : ∀ p ∈ R, RowX w 5 p.1 p.2
  bel : Below w0.heap.size w0 w
  hg : w0.heap.size ≤ g
section
variable {w0 w W : World} {g n c : Nat} {F : Nat → Value} {X : Value} {A : Option Addr} {xs : List Value} {R : List (Nat × List UInt8)}
theorem BSt.below (h : BSt w0 w g F X A n c xs R) (hb : Below w.heap.size w W) : BSt w0 W g F X A n c xs R :=
  ⟨h.blk.below hb h.blk.lt, own_below_all h.own hb, fun p hp => (h.rows p hp).heap (hb.block p.1 (h.rows p hp).lt), h.bel.trans (hb.mono h.bel.size), h.hg⟩
theorem BSt.push {A' : Option Addr} {n' c' : Nat} {xs' : List Value} (h : BSt w0 w g F X A n c xs R) (hgr : w.grownBy W (Value.slice A n c).ownBlock) (ho : W.ownsRow w0.heap.size 9 1 (.slice A' n' c') n' xs') : BSt w0 W g F X A' n' c' xs' R := by
  have hO : Only (fun k => (Value.slice A n c).ownBlock = some k) w W := Only.of_grown hgr (fun k hk => hk)
  exact ⟨h.blk.only hO (fun e => own_ne h.own h.blk (by decide) g e rfl), ho, fun p hp => (h.rows p hp).heap (hO.block p.1 (h.rows p hp).lt (fun e => (h.rows p hp).own h.own (by decide) p.1 e rfl)), hO.below h.bel h.bel.size (fun k hk => (h.own.lt k hk).1), h.hg⟩
theorem BSt.set256 (h : BSt w0 w g F X A n c xs R) (v : Value) : BSt w0 (w.setCell ⟨g, 256, none⟩ v) g F v A n c xs R := by
  have hb := h.blk.set 256 v
  rw [bsc_set_last] at hb
  exact ⟨hb, own_setCell h.own (own_ne h.own h.blk (by decide)) v, fun p hp => (h.rows p hp).heap (Below.heap_setCell _ _ _ _ ((h.rows p hp).ne h.blk (by decide))), h.bel.setCell h.hg v, h.hg⟩
theorem BSt.setTab (h : BSt w0 w g F X A n c xs R) (i : Nat) (hi : i < 256) (v : Value) : BSt w0 (w.setCell ⟨g, i, none⟩ v) g (fun j => if j = i then v else F j) X A n c xs R := by
  have hb := h.blk.set i v
  rw [bsc_set _ _ _ _ hi] at hb
  exact ⟨hb, own_setCell h.own (own_ne h.own h.blk (by decide)) v, fun p hp => (h.rows p hp).heap (Below.heap_setCell _ _ _ _ ((h.rows p hp).ne h.blk (by decide))), h.bel.setCell h.hg v, h.hg⟩
theorem BSt.row {r : Nat} {l : List UInt8} (h : BSt w0 w g F X A n c xs R) (hr : RowX w 5 r l) : BSt w0 w g F X A n c xs ((r, l) :: R) :=
  ⟨h.blk, h.own, fun p hp => by rcases List.mem_cons.1 hp with rfl | hp; exact hr; exact h.rows p hp, h.bel, h.hg⟩
theorem BSt.tab (h : BSt w0 w g F X A n c xs R) (i : Nat) (hi : i < 256) : w.cell? ⟨g, i, none⟩ = some (F i) := by rw [h.blk.cell, bsc_get _ _ _ hi]
theorem BSt.last (h : BSt w0 w g F X A n c xs R) : w.cell? ⟨g, 256, none⟩ = some X := by rw [h.blk.cell, bsc_last]
theorem BSt.free (h : BSt w0 w g F X A n c xs R) (i : Nat) : w.frozen? ⟨g, i, none⟩ = false := h.blk.frozen i
end
end Go.Proofs.YtlgdmbdhffdenaaGreatDoor

/- sync.Once's slow road in parts: the lock is taken and let go, 'done' is stored. -/
namespace Go.Proofs.YtlgdmbdhffdenaaGreatDoor
set_option linter.unusedVariables false
set_option linter.unusedSimpArgs false

theorem race_disable (w : World) : (callFunc 169 #[]).run Tryz.prog w = .ok (.value (.tuple #[])) w := run_call_mark0 Tryz.func169 (by kernel_rfl) (by kernel_rfl) (by kernel_rfl) .disable (by kernel_rfl) w
theorem race_enable (w : World) : (callFunc 171 #[]).run Tryz.prog w = .ok (.value (.tuple #[])) w := run_call_mark0 Tryz.func171 (by kernel_rfl) (by kernel_rfl) (by kernel_rfl) .enable (by kernel_rfl) w
theorem race_acquire (a : Addr) (w : World) : (callFunc 172 #[.pointer (some a)]).run Tryz.prog w = .ok (.value (.tuple #[])) w := run_call_marked Tryz.func172 (by kernel_rfl) (by kernel_rfl) (by kernel_rfl) .acquire (by kernel_rfl) a w
theorem race_release (a : Addr) (w : World) : (callFunc 174 #[.pointer (some a)]).run Tryz.prog w = .ok (.value (.tuple #[])) w := run_call_marked Tryz.func174 (by kernel_rfl) (by kernel_rfl) (by kernel_rfl) .releaseMerge (by kernel_rfl) a w

/-- 'done' is stored, entered as a deferred call. -/
theorem store_deferred (a : Addr) (x : Value) (u : FrameMode) (w : World) (hc : w.cell? a = some x) (hz : w.frozen? a = false) :
    CallsD Tryz.prog 139 #[.pointer (some a), .bool true] u w fun e u' w' => u' = u ∧ (e = .returned (.tuple #[]) ∧ w' = w.drew.setCell a (.int .u32 1)) := by
  have hc' : w.drew.cell? a = some x := by go_simp
  have hz' : w.drew.frozen? a = false := by go_simp
  have hst := run_call_store (P := Tryz.prog) Tryz.func159 (by kernel_rfl) (by kernel_rfl) (by kernel_rfl) (by kernel_rfl) (k := .u32) (y := 1) hc' hz'
  go_enter_d Tryz.func139, Tryz.ntmps139
  go_wp2
  go_region_calls
  all_goals (go_end0; exact ⟨rfl, rfl⟩)

set_option maxRecDepth 100000 in
set_option maxHeartbeats 1600000 in
/-- The lock is let go, entered as a deferred call, nobody waiting. -/
theorem unlock_deferred (a : Addr) (u : FrameMode) (w : World) (hc : w.cell? a = some (.int .i32 1)) (hz : w.frozen? a = false) :
    CallsD Tryz.prog 138 #[.pointer (some a)] u w fun e u' w' => u' = u ∧ (e = .returned (.tuple #[]) ∧ w' = w.setCell a (.int .i32 0)) := by
  have hd := race_disable
  have he := race_enable
  have hr := race_release
  have hadd := run_call_add (P := Tryz.prog) Tryz.func175 (by kernel_rfl) (by kernel_rfl) (by kernel_rfl) .i32 (by kernel_rfl) (y := -1) (s := 0) hc hz (by simp [go_sem]; rfl)
  have hcv := run_convert_to_unsafe (P := Tryz.prog) (src := 216) (dst := 220) Tryz.underlying216 Tryz.underlying220 (by kernel_rfl) hc
  go_enter_d Tryz.func138, Tryz.ntmps138
  go_wp2
  go_end0
  go_wp2
  try go_end0
  try exact ⟨rfl, rfl⟩

set_option maxRecDepth 100000 in
set_option maxHeartbeats 1600000 in
/-- The lock is taken, nobody holding it. -/
theorem lock_free (a : Addr) (w : World) (hc : w.cell? a = some (.int .i32 0)) (hz : w.frozen? a = false) :
    Calls Tryz.prog 137 #[.pointer (some a)] w fun e w' => e = .returned (.tuple #[]) ∧ w' = w.setCell a (.int .i32 1) := by
  have hd := race_disable
  have he := race_enable
  have ha := race_acquire
  have hcas := run_call_cas_hit (P := Tryz.prog) Tryz.func170 (by kernel_rfl) (by kernel_rfl) (by kernel_rfl) .i32 (by kernel_rfl) (y := 1) hc hz
  have hc' : (w.setCell a (.int .i32 1)).cell? a = some (.int .i32 1) := World.cell?_setCell_same w a _ hc
  have hcv := run_convert_to_unsafe (P := Tryz.prog) (src := 216) (dst := 220) Tryz.underlying216 Tryz.underlying220 (by kernel_rfl) hc'
  go_enter Tryz.func137, Tryz.ntmps137
  go_wp2
  first | go_end0 | (simp only [Exit.inBlock, Exit.then]; refine bodyPost_ret (results_none rfl _ _ _) rfl ?_) | refine bodyPost_ret (results_none rfl _ _ _) rfl ?_
  go_wp2
  try go_end0
  try exact ⟨rfl, rfl⟩
end Go.Proofs.YtlgdmbdhffdenaaGreatDoor

/- strings.(*Replacer).build at the six strings: the walk. -/
namespace Go.Proofs.YtlgdmbdhffdenaaGreatDoor
set_option linter.unusedVariables false
set_option linter.unusedSimpArgs false
open Go.RowKit

/-- The slices of the replacer's rows. -/
def rw2 (p : Nat × Nat) : Value := .slice (some ⟨p.1, 0, none⟩) 2 p.2
/-- The table behind k rounds. -/
def tabK (k r1 r2 r3 d1 d2 d3 : Nat) : Nat → Value :=
  match k with
  | 0 => fun _ => nilS
  | 1 => fun j => if j = 10 then rw2 (r3, d3) else nilS
  | 2 => fun j => if j = 92 then rw2 (r2, d2) else if j = 10 then rw2 (r3, d3) else nilS
  | _ => fun j => if j = 34 then rw2 (r1, d1) else if j = 92 then rw2 (r2, d2) else if j = 10 then rw2 (r3, d3) else nilS
def strK : Nat → List Value
  | 0 => []
  | 1 => [.string ⟨#[10]⟩]
  | 2 => [.string ⟨#[10]⟩, .string ⟨#[92]⟩]
  | _ => [.string ⟨#[10]⟩, .string ⟨#[92]⟩, .string ⟨#[34]⟩]
def rowK (k r1 r2 r3 : Nat) : List (Nat × List UInt8) :=
  match k with
  | 0 => []
  | 1 => [(r3, esc1 10)]
  | 2 => [(r2, esc1 92), (r3, esc1 10)]
  | _ => [(r1, esc1 34), (r2, esc1 92), (r3, esc1 10)]
def capK (k d1 d2 d3 : Nat) : Prop :=
  match k with
  | 0 => True
  | 1 => 2 ≤ d3 ∧ d3 ≤ 9223372036854775807
  | 2 => (2 ≤ d2 ∧ d2 ≤ 9223372036854775807) ∧ 2 ≤ d3 ∧ d3 ≤ 9223372036854775807
  | _ => (2 ≤ d1 ∧ d1 ≤ 9223372036854775807) ∧ (2 ≤ d2 ∧ d2 ≤ 9223372036854775807) ∧ 2 ≤ d3 ∧ d3 ≤ 9223372036854775807
def lkv : Nat → Int | 0 => 4 | 1 => 2 | 2 => 0 | _ => -2

set_option pp.deepTerms true in
set_option maxHeartbeats 4000000 in
set_option maxRecDepth 100000 in
theorem build_any (r o oc : Nat) (w : World) (hr : w.cell? ⟨r, 4, none⟩ = some (.slice (some ⟨o, 0, none⟩) 6 oc)) (hoc : 6 ≤ oc) (hob : oc ≤ 9223372036854775807)
    (h0 : w.cell? ⟨o, 0, none⟩ = some (.string ⟨#[34]⟩)) (h1 : w.cell? ⟨o, 1, none⟩ = some (.string ⟨#[92, 34]⟩)) (h2 : w.cell? ⟨o, 2, none⟩ = some (.string ⟨#[92]⟩)) (h3 : w.cell? ⟨o, 3, none⟩ = some (.string ⟨#[92, 92]⟩)) (h4 : w.cell? ⟨o, 4, none⟩ = some (.string ⟨#[10]⟩)) (h5 : w.cell? ⟨o, 5, none⟩ = some (.string ⟨#[92, 110]⟩)) :
    Calls Tryz.prog 119 #[.pointer (some ⟨r, 0, none⟩)] w fun e w' => ∃ g r1 r2 r3 d1 d2 d3 o' oc', e = .returned (.iface 180 (.pointer (some ⟨g, 0, none⟩))) ∧ Below w.heap.size w w' ∧ BS w' w'.heap.size g r1 r2 r3 d1 d2 d3 o' oc' := by
  have hnil : ∀ W : World, (binOp .eql 22 (.slice none 0 0) (.slice none 0 0)).run Tryz.prog W = .ok (.bool true) W := fun _ => rfl
  have b10 : ((⟨#[10]⟩ : ByteArray)[0]'(by decide)).toNat = 10 := rfl
  have b92 : ((⟨#[92]⟩ : ByteArray)[0]'(by decide)).toNat = 92 := rfl
  have b34 : ((⟨#[34]⟩ : ByteArray)[0]'(by decide)).toNat = 34 := rfl
  have hr' : w.cell? ⟨r, 0 + 4, none⟩ = some (.slice (some ⟨o, 0, none⟩) 6 oc) := hr
  go_enter Tryz.func119, Tryz.ntmps119
  go_wp2_with (fail)
  go_loopw [4, 5] (fun s4 s5 wr => Hid (w = wr) ∧ ((s5 = .int .i64 0 ∧ s4 = .bool true) ∨ (s5 = .int .i64 2 ∧ s4 = .bool false) ∨ (s5 = .int .i64 4 ∧ s4 = .bool false) ∨ (s5 = .int .i64 6 ∧ s4 = .bool false))) (fun _ s5 _ => 6 - (intOf s5).toNat)
  case atStart => exact ⟨rfl, .inl ⟨rfl, rfl⟩⟩
  case round =>
    obtain ⟨hw, hc⟩ := hrel
    have hw' := hw.out
    subst hw'
    clear hw
    rcases hc with ⟨rfl, rfl⟩ | ⟨rfl, rfl⟩ | ⟨rfl, rfl⟩ | ⟨rfl, rfl⟩
    · go_wp2
      go_roundw
      case rel => exact ⟨by first | exact rfl | exact trivial, .inr (.inl ⟨rfl, rfl⟩)⟩
      case measure => simp [intOf]
    · go_wp2
      go_roundw
      case rel => exact ⟨by first | exact rfl | exact trivial, .inr (.inr (.inl ⟨rfl, rfl⟩))⟩
      case measure => simp [intOf]
    · go_wp2
      go_roundw
      case rel => exact ⟨by first | exact rfl | exact trivial, .inr (.inr (.inr ⟨rfl, rfl⟩))⟩
      case measure => simp [intOf]
    · obtain ⟨ie, hi1, hi2, hi3, hi4⟩ := info_parts (P := Tryz.prog) (e := 9) (z := .string ⟨#[]⟩) (size := 1) (bytes := 16) (by kernel_rfl)
      have Hhi := Lib.hid (And.intro hi1 (And.intro hi2 (And.intro hi3 hi4)))
      clear hi1 hi2 hi3 hi4
      have hz : Tryz.zeroCells179 = bsc (fun _ => nilS) nilS := by kernel_rfl
      have Hz := Lib.hid hz
      clear hz
      go_wp2_with (first
        | (at_make; go_must (refine wpList_make_own _ rfl _ _ 117 rfl w.heap.size 9 ie (.string ⟨#[]⟩) 1 Tryz.underlying117 Hhi.out.1 Hhi.out.2.1 Hhi.out.2.2.1 _ _ _ 3 rfl rfl rfl (by rw [Hhi.out.2.2.2]; omega) (by unfold maxLen; omega) (Nat.le_refl _) ?_; intro w1 hown1 hg1))
        | (refine wpList_store_row rfl 179 (.tmp 11) (.tmp 95) rfl w1.heap.size rfl (bsc (fun _ => nilS) (.slice (some ⟨w.heap.size, 0, none⟩) 0 3)) Tryz.zeroCells179 (by show Value.agg _ = Value.agg _; rw [Hz.out, bsc_set_last]) 179 (Blk.new _ _ _) (by rw [Hz.out]; simp [bsc_size]) (by rw [bsc_size]; exact info_bsr) (bsc_one _ _ (fun _ => rfl) rfl) ?_))
      have hs0 : Hid (BSt w ((w1.alloc (.cells Tryz.zeroCells179 179)).setRow w1.heap.size (bsc (fun _ => nilS) (.slice (some ⟨w.heap.size, 0, none⟩) 0 3))) w1.heap.size (fun _ => nilS) (.slice (some ⟨w.heap.size, 0, none⟩) 0 3) (some ⟨w.heap.size, 0, none⟩) 0 3 [] []) := by
        have hb1 : Below w.heap.size w w1 := (Below.refl _ w).grown hg1 (Nat.le_refl _) (fun k hk => by cases hk)
        have hb2 : Below w1.heap.size w1 ((w1.alloc (.cells Tryz.zeroCells179 179)).setRow w1.heap.size (bsc (fun _ => nilS) (.slice (some ⟨w.heap.size, 0, none⟩) 0 3))) := Below.setRow ((Below.refl _ w1).alloc (Nat.le_refl _) _) (Nat.le_refl _) _
        exact ⟨(Blk.new _ _ _).setRow _, own_below_all hown1 hb2, (fun p hp => by cases hp), hb1.trans (hb2.mono hb1.size), hb1.size⟩
      generalize (w1.alloc (.cells Tryz.zeroCells179 179)).setRow w1.heap.size (bsc (fun _ => nilS) (.slice (some ⟨w.heap.size, 0, none⟩) 0 3)) = W at hs0 ⊢
      generalize hG : w1.heap.size = g at hs0 ⊢
      clear hG hown1 hg1 Hz Hhi
      go_loopw [12, 13, 14] (fun s12 s13 s14 wr => ∃ (k : Nat) (A : Option Addr) (c : Nat) (r1 r2 r3 d1 d2 d3 : Nat), k ≤ 3 ∧ s12 = .int .i64 (lkv k) ∧
          Hid (BSt w wr g (tabK k r1 r2 r3 d1 d2 d3) (.slice A k c) A k c (strK k) (rowK k r1 r2 r3)) ∧ Hid (k ≤ c ∧ c ≤ 9223372036854775807) ∧ Hid (capK k d1 d2 d3)) (fun s12 _ _ _ => (intOf s12 + 2).toNat)
      case atStart => exact ⟨0, some ⟨w.heap.size, 0, none⟩, 3, 0, 0, 0, 0, 0, 0, by omega, rfl, hs0.out, ⟨by omega, by omega⟩, trivial⟩
      case round =>
        obtain ⟨k, A, c, r1, r2, r3, d1, d2, d3, hk, rfl, hs, hcc, hcap⟩ := hrel
        obtain rfl | rfl | rfl | rfl : k = 0 ∨ k = 1 ∨ k = 2 ∨ k = 3 := by omega
        · have hs' := hs.out
          have x1 : wr.cell? ⟨g, 10, none⟩ = some (.slice none 0 0) := hs'.tab 10 (by omega)
          have x2 : wr.cell? ⟨g, 256, none⟩ = some (.slice A 0 c) := hs'.last
          have kc : ∀ W : World, (convert 22 9 (.slice (some ⟨W.heap.size, 0, none⟩) 1 1)).run Tryz.prog (W.alloc (.cells #[.int .u8 10] 5)) = .ok (.string ⟨#[10]⟩) (W.alloc (.cells #[.int .u8 10] 5)) := fun W => (rd_new W [10] 5 (0, 0) 1 rfl (by omega)).conv (l := [10]) Tryz.underlying22 Tryz.underlying5 Tryz.underlying9 1
          have z0 : wr.cell? ⟨o, 4, none⟩ = some (.string ⟨#[10]⟩) := (hs'.bel.cell (World.block_lt_of_cell? w _ h4)).trans h4
          have z1 : wr.cell? ⟨o, 5, none⟩ = some (.string (bs [92, 110])) := (hs'.bel.cell (World.block_lt_of_cell? w _ h5)).trans h5
          clear hs'
          rw [show lkv 0 = 4 from rfl]
          go_wp2_with (first
            | (at_builtin; go_must (refine wpList_push elemStr rfl (.tmp 119) (.tmp 123) rfl w.heap.size A 0 c (strK 0) rfl (hs.out.below (by go_grown; try exact Below.refl _ _)).own (wr.heap.size + 1) rfl [.string ⟨#[10]⟩] rfl (new_cells' (wr.alloc (.cells #[.int .u8 10] 5)) [.string ⟨#[10]⟩] 9 (by simp)) (by intro u hu; simp at hu; subst hu; first | done | rfl) (by omega) (by omega) (Nat.le_trans hs.out.bel.size (by simp; try omega)) ?_; intro A5 c5 w5 hown5 hbl5 hg5; have hs5 := Lib.hid ((hs.out.below (by go_grown; try exact Below.refl _ _)).push hg5 hown5); have y1 : w5.cell? ⟨g, 256, none⟩ = some (.slice A 0 c) := hs5.out.last; have y2 := hs5.out.free 256; have hs6 := Lib.hid (hs5.out.set256 (.slice A5 1 c5)); have hsz5 : (w5.setCell ⟨g, 256, none⟩ (.slice A5 1 c5)).heap.size = w5.heap.size := (by simp [World.setCell]); clear hown5 hbl5 hg5 kc))
            | (refine wpList_bytes rfl 9 22 5 (.tmp 127) rfl Tryz.underlying9 Tryz.underlying22 Tryz.underlying5 [92, 110] rfl (by unfold maxLen; simp) ?_; rw [hsz5]; intro c6 w6 hrow6 hc6 hc6' hb6; have hs7 := Lib.hid ((hs6.out.below (by rw [hsz5]; exact hb6)).row hrow6); have y3 : w6.cell? ⟨g, 10, none⟩ = some (.slice none 0 0) := hs7.out.tab 10 (by omega); have y4 := hs7.out.free 10; have hs8 := Lib.hid (hs7.out.setTab 10 (by omega) (.slice (some ⟨w5.heap.size, 0, none⟩) 2 c6)); have Hc6 := Lib.hid (And.intro hc6 hc6'); clear hrow6 hb6 hc6 hc6'))
          go_roundw
          case rel => exact ⟨1, A5, c5, 0, 0, w5.heap.size, 0, 0, c6, by omega, rfl, hs8.out, ⟨(own_rd hs8.out.own).cap, (own_rd hs8.out.own).big⟩, Hc6.out⟩
          case measure => simp [intOf, lkv]
        · have hs' := hs.out
          have x1 : wr.cell? ⟨g, 92, none⟩ = some (.slice none 0 0) := hs'.tab 92 (by omega)
          have x2 : wr.cell? ⟨g, 256, none⟩ = some (.slice A 1 c) := hs'.last
          have kc : ∀ W : World, (convert 22 9 (.slice (some ⟨W.heap.size, 0, none⟩) 1 1)).run Tryz.prog (W.alloc (.cells #[.int .u8 92] 5)) = .ok (.string ⟨#[92]⟩) (W.alloc (.cells #[.int .u8 92] 5)) := fun W => (rd_new W [92] 5 (0, 0) 1 rfl (by omega)).conv (l := [92]) Tryz.underlying22 Tryz.underlying5 Tryz.underlying9 1
          have z0 : wr.cell? ⟨o, 2, none⟩ = some (.string ⟨#[92]⟩) := (hs'.bel.cell (World.block_lt_of_cell? w _ h2)).trans h2
          have z1 : wr.cell? ⟨o, 3, none⟩ = some (.string (bs [92, 92])) := (hs'.bel.cell (World.block_lt_of_cell? w _ h3)).trans h3
          clear hs'
          rw [show lkv 1 = 2 from rfl]
          go_wp2_with (first
            | (at_builtin; go_must (refine wpList_push elemStr rfl (.tmp 119) (.tmp 123) rfl w.heap.size A 1 c (strK 1) rfl (hs.out.below (by go_grown; try exact Below.refl _ _)).own (wr.heap.size + 1) rfl [.string ⟨#[92]⟩] rfl (new_cells' (wr.alloc (.cells #[.int .u8 92] 5)) [.string ⟨#[92]⟩] 9 (by simp)) (by intro u hu; simp at hu; subst hu; first | done | rfl) (by omega) (by omega) (Nat.le_trans hs.out.bel.size (by simp; try omega)) ?_; intro A5 c5 w5 hown5 hbl5 hg5; have hs5 := Lib.hid ((hs.out.below (by go_grown; try exact Below.refl _ _)).push hg5 hown5); have y1 : w5.cell? ⟨g, 256, none⟩ = some (.slice A 1 c) := hs5.out.last; have y2 := hs5.out.free 256; have hs6 := Lib.hid (hs5.out.set256 (.slice A5 2 c5)); have hsz5 : (w5.setCell ⟨g, 256, none⟩ (.slice A5 2 c5)).heap.size = w5.heap.size := (by simp [World.setCell]); clear hown5 hbl5 hg5 kc))
            | (refine wpList_bytes rfl 9 22 5 (.tmp 127) rfl Tryz.underlying9 Tryz.underlying22 Tryz.underlying5 [92, 92] rfl (by unfold maxLen; simp) ?_; rw [hsz5]; intro c6 w6 hrow6 hc6 hc6' hb6; have hs7 := Lib.hid ((hs6.out.below (by rw [hsz5]; exact hb6)).row hrow6); have y3 : w6.cell? ⟨g, 92, none⟩ = some (.slice none 0 0) := hs7.out.tab 92 (by omega); have y4 := hs7.out.free 92; have hs8 := Lib.hid (hs7.out.setTab 92 (by omega) (.slice (some ⟨w5.heap.size, 0, none⟩) 2 c6)); have Hc6 := Lib.hid (And.intro hc6 hc6'); clear hrow6 hb6 hc6 hc6'))
          go_roundw
          case rel => exact ⟨2, A5, c5, 0, w5.heap.size, r3, 0, c6, d3, by omega, rfl, hs8.out, ⟨(own_rd hs8.out.own).cap, (own_rd hs8.out.own).big⟩, ⟨Hc6.out, hcap.out⟩⟩
          case measure => simp [intOf, lkv]
        · have hs' := hs.out
          have x1 : wr.cell? ⟨g, 34, none⟩ = some (.slice none 0 0) := hs'.tab 34 (by omega)
          have x2 : wr.cell? ⟨g, 256, none⟩ = some (.slice A 2 c) := hs'.last
          have kc : ∀ W : World, (convert 22 9 (.slice (some ⟨W.heap.size, 0, none⟩) 1 1)).run Tryz.prog (W.alloc (.cells #[.int .u8 34] 5)) = .ok (.string ⟨#[34]⟩) (W.alloc (.cells #[.int .u8 34] 5)) := fun W => (rd_new W [34] 5 (0, 0) 1 rfl (by omega)).conv (l := [34]) Tryz.underlying22 Tryz.underlying5 Tryz.underlying9 1
          have z0 : wr.cell? ⟨o, 0, none⟩ = some (.string ⟨#[34]⟩) := (hs'.bel.cell (World.block_lt_of_cell? w _ h0)).trans h0
          have z1 : wr.cell? ⟨o, 1, none⟩ = some (.string (bs [92, 34])) := (hs'.bel.cell (World.block_lt_of_cell? w _ h1)).trans h1
          clear hs'
          rw [show lkv 2 = 0 from rfl]
          go_wp2_with (first
            | (at_builtin; go_must (refine wpList_push elemStr rfl (.tmp 119) (.tmp 123) rfl w.heap.size A 2 c (strK 2) rfl (hs.out.below (by go_grown; try exact Below.refl _ _)).own (wr.heap.size + 1) rfl [.string ⟨#[34]⟩] rfl (new_cells' (wr.alloc (.cells #[.int .u8 34] 5)) [.string ⟨#[34]⟩] 9 (by simp)) (by intro u hu; simp at hu; subst hu; first | done | rfl) (by omega) (by omega) (Nat.le_trans hs.out.bel.size (by simp; try omega)) ?_; intro A5 c5 w5 hown5 hbl5 hg5; have hs5 := Lib.hid ((hs.out.below (by go_grown; try exact Below.refl _ _)).push hg5 hown5); have y1 : w5.cell? ⟨g, 256, none⟩ = some (.slice A 2 c) := hs5.out.last; have y2 := hs5.out.free 256; have hs6 := Lib.hid (hs5.out.set256 (.slice A5 3 c5)); have hsz5 : (w5.setCell ⟨g, 256, none⟩ (.slice A5 3 c5)).heap.size = w5.heap.size := (by simp [World.setCell]); clear hown5 hbl5 hg5 kc))
            | (refine wpList_bytes rfl 9 22 5 (.tmp 127) rfl Tryz.underlying9 Tryz.underlying22 Tryz.underlying5 [92, 34] rfl (by unfold maxLen; simp) ?_; rw [hsz5]; intro c6 w6 hrow6 hc6 hc6' hb6; have hs7 := Lib.hid ((hs6.out.below (by rw [hsz5]; exact hb6)).row hrow6); have y3 : w6.cell? ⟨g, 34, none⟩ = some (.slice none 0 0) := hs7.out.tab 34 (by omega); have y4 := hs7.out.free 34; have hs8 := Lib.hid (hs7.out.setTab 34 (by omega) (.slice (some ⟨w5.heap.size, 0, none⟩) 2 c6)); have Hc6 := Lib.hid (And.intro hc6 hc6'); clear hrow6 hb6 hc6 hc6'))
          go_roundw
          case rel => exact ⟨3, A5, c5, w5.heap.size, r2, r3, c6, d2, d3, by omega, rfl, hs8.out, ⟨(own_rd hs8.out.own).cap, (own_rd hs8.out.own).big⟩, ⟨Hc6.out, hcap.out⟩⟩
          case measure => simp [intOf, lkv]
        · rw [show lkv 3 = -2 from rfl]
          go_wp2
          go_ret
          have hsE := hs.out
          have hE1 := hsE.rows (r1, esc1 34) (by simp [rowK])
          have hE2 := hsE.rows (r2, esc1 92) (by simp [rowK])
          have hE3 := hsE.rows (r3, esc1 10) (by simp [rowK])
          obtain ⟨hd1, hd2, hd3⟩ := hcap.out
          have hown := hsE.own
          obtain ⟨b, rfl⟩ : ∃ b, A = some ⟨b, 0, none⟩ := by
            rcases hown.2 with ⟨e1, e2⟩ | ⟨g', cap, cur, e1, _⟩
            · cases e2
            · injection e1 with e1 _ _
              exact ⟨g', e1⟩
          have hrd := own_rd hown
          obtain ⟨b', off, e, hb, hc⟩ := hrd.cells (by omega)
          obtain ⟨eb, eo⟩ : b = b' ∧ 0 = off := by simpa using e
          subst eb eo
          refine ⟨g, r1, r2, r3, d1, d2, d3, b, c, rfl, hsE.bel, hsE.blk.lt, hb, fun i hi => hsE.tab i hi, hsE.last, fun k hk => ?_, ?_, ?_, ?_, hrd.cap, hrd.big⟩
          · have := hc k (.string ⟨#[chq k]⟩) (by
              obtain rfl | rfl | rfl : k = 0 ∨ k = 1 ∨ k = 2 := by omega
              all_goals rfl)
            rwa [Nat.zero_add] at this
          · have := hE1.rd (c := d1) hd1.1 hd1.2
            exact this
          · have := hE2.rd (c := d2) hd2.1 hd2.2
            exact this
          · have := hE3.rd (c := d3) hd3.1 hd3.2
            exact this
end Go.Proofs.YtlgdmbdhffdenaaGreatDoor

/- strings.NewReplacer and (*Replacer).Replace at the six strings: what is written between quotes. -/
namespace Go.Proofs.YtlgdmbdhffdenaaGreatDoor
set_option linter.unusedVariables false
set_option linter.unusedSimpArgs false
open Go.RowKit

/-- The cells of a Replacer: sync.Once (done, the lock's two words), the algorithm, the strings. -/
def rpc (d s : Int) (rv on : Value) : Array Value := #[.int .u32 d, .int .i32 s, .int .u32 0, rv, on]
/-- The six strings. -/
structure Six (w : World) (o oc : Nat) : Prop where
  c6 : 6 ≤ oc
  cb : oc ≤ 9223372036854775807
  h0 : w.cell? ⟨o, 0, none⟩ = some (.string ⟨#[34]⟩)
  h1 : w.cell? ⟨o, 1, none⟩ = some (.string ⟨#[92, 34]⟩)
  h2 : w.cell? ⟨o, 2, none⟩ = some (.string ⟨#[92]⟩)
  h3 : w.cell? ⟨o, 3, none⟩ = some (.string ⟨#[92, 92]⟩)
  h4 : w.cell? ⟨o, 4, none⟩ = some (.string ⟨#[10]⟩)
  h5 : w.cell? ⟨o, 5, none⟩ = some (.string ⟨#[92, 110]⟩)
theorem Six.keep {w w' : World} {o oc : Nat} (h : Six w o oc) (he : w'.heap[o]? = w.heap[o]?) : Six w' o oc := by
  have hk : ∀ i, w'.cell? ⟨o, i, none⟩ = w.cell? ⟨o, i, none⟩ := fun i => World.cell?_of_block he
  exact ⟨h.c6, h.cb, (hk 0).trans h.h0, (hk 1).trans h.h1, (hk 2).trans h.h2, (hk 3).trans h.h3, (hk 4).trans h.h4, (hk 5).trans h.h5⟩
theorem Six.lt {w : World} {o oc : Nat} (h : Six w o oc) : o < w.heap.size := World.block_lt_of_cell? w _ h.h0
theorem Six.ne {w : World} {o oc g : Nat} {d s : Int} {rv on : Value} (h : Six w o oc) (hb : Blk w g 132 (rpc d s rv on)) : o ≠ g := by
  rintro rfl
  have := h.h0
  rw [hb.cell] at this
  simp [rpc] at this
/-- What build has left. -/
def Built (w0 w' : World) (rv : Value) : Prop := ∃ g r1 r2 r3 d1 d2 d3 o' oc', rv = .iface 180 (.pointer (some ⟨g, 0, none⟩)) ∧ BS w' w'.heap.size g r1 r2 r3 d1 d2 d3 o' oc' ∧ w0.heap.size ≤ g

set_option maxHeartbeats 1600000 in
set_option maxRecDepth 100000 in
theorem buildOnce_any (r o oc : Nat) (w : World) (hb : Blk w r 132 (rpc 0 1 .nilIface (.slice (some ⟨o, 0, none⟩) 6 oc))) (h : Six w o oc) :
    Calls Tryz.prog 89 #[.pointer (some ⟨r, 0, none⟩)] w fun e w' => e = .returned (.tuple #[]) ∧ ∃ w1 rv, Below w.heap.size w w1 ∧ (∃ g r1 r2 r3 d1 d2 d3 o' oc', rv = .iface 180 (.pointer (some ⟨g, 0, none⟩)) ∧ BS w1 w1.heap.size g r1 r2 r3 d1 d2 d3 o' oc') ∧ w' = (w1.setCell ⟨r, 3, none⟩ rv).setCell ⟨r, 4, none⟩ (.slice none 0 0) := by
  have c4 : w.cell? ⟨r, 4, none⟩ = some (.slice (some ⟨o, 0, none⟩) 6 oc) := hb.cell 4
  have hlt := hb.lt
  go_enter Tryz.func89, Tryz.ntmps89
  go_wp2_with (fail)
  refine (build_any r o oc w c4 h.c6 h.cb h.h0 h.h1 h.h2 h.h3 h.h4 h.h5).mono ?_
  rintro e w1 ⟨g, r1, r2, r3, d1, d2, d3, o', oc', rfl, hbl, hBS⟩
  have hb1 := hb.below hbl hb.lt
  have y3 : w1.cell? ⟨r, 3, none⟩ = some .nilIface := hb1.cell 3
  have y4 : w1.cell? ⟨r, 4, none⟩ = some (.slice (some ⟨o, 0, none⟩) 6 oc) := hb1.cell 4
  have f3 := hb1.frozen 3
  have f4 := hb1.frozen 4
  have Hbl := Lib.hid hbl
  have HBS := Lib.hid hBS
  clear hbl hBS hb hb1 h
  go_wp2
  go_end0
  exact ⟨rfl, w1, _, Hbl.out, ⟨g, r1, r2, r3, d1, d2, d3, o', oc', rfl, HBS.out⟩, rfl⟩

theorem ne_of_cell {w : World} {x r : Nat} {d : Int} {u : Value} (hr : w.cell? ⟨r, 0, none⟩ = some (.int .u32 d)) (hx : w.cell? ⟨x, 0, none⟩ = some u) (hne : u ≠ .int .u32 d) : x ≠ r := by
  rintro rfl
  rw [hx] at hr
  exact hne (Option.some.inj hr)
theorem rd_far {w : World} {B x d : Nat} {c0 c1 : UInt8} {p : Addr} {v : Value} (h : Rd w B 1 (some ⟨x, 0, none⟩) 2 d ([c0, c1].map vb)) (hx : x ≠ p.block) : Rd (w.setCell p v) B 1 (some ⟨x, 0, none⟩) 2 d ([c0, c1].map vb) := by
  refine ⟨h.len, h.cap, h.big, fun h0 => ?_⟩
  obtain ⟨b, off, e, hb, hc⟩ := h.cells h0
  obtain ⟨eb, eo⟩ : x = b ∧ 0 = off := by simpa using e
  subst eb eo
  exact ⟨x, 0, rfl, hb, fun j u hj => (World.cell?_setCell_other w p ⟨x, 0 + j, none⟩ v (fun e => hx (by rw [e]))).trans (hc j u hj)⟩
theorem rd_head {w : World} {B x d : Nat} {c0 c1 : UInt8} (h : Rd w B 1 (some ⟨x, 0, none⟩) 2 d ([c0, c1].map vb)) : w.cell? ⟨x, 0, none⟩ = some (vb c0) := by
  obtain ⟨b, off, e, hb, hc⟩ := h.cells (by omega)
  obtain ⟨eb, eo⟩ : x = b ∧ 0 = off := by simpa using e
  subst eb eo
  exact hc 0 _ rfl
theorem BS.far {w : World} {B g r1 r2 r3 d1 d2 d3 o oc : Nat} (h : BS w B g r1 r2 r3 d1 d2 d3 o oc) {p : Addr} {d : Int} (hr : w.cell? ⟨p.block, 0, none⟩ = some (.int .u32 d)) (v : Value) : BS (w.setCell p v) B g r1 r2 r3 d1 d2 d3 o oc := by
  have hg : g ≠ p.block := ne_of_cell hr (h.tab 0 (by omega)) (by simp [rv])
  have ho : o ≠ p.block := ne_of_cell hr (h.str 0 (by omega)) (by simp)
  have q1 : r1 ≠ p.block := ne_of_cell hr (rd_head (c0 := 92) (c1 := 34) h.q1) (by simp [vb])
  have q2 : r2 ≠ p.block := ne_of_cell hr (rd_head (c0 := 92) (c1 := 92) h.q2) (by simp [vb])
  have q3 : r3 ≠ p.block := ne_of_cell hr (rd_head (c0 := 92) (c1 := 110) h.q3) (by simp [vb])
  exact ⟨h.lt, h.lo, fun i hi => (World.cell?_setCell_other w p ⟨g, i, none⟩ v (fun e => hg (by rw [e]))).trans (h.tab i hi), (World.cell?_setCell_other w p ⟨g, 256, none⟩ v (fun e => hg (by rw [e]))).trans h.strs,
    fun k hk => (World.cell?_setCell_other w p ⟨o, k, none⟩ v (fun e => ho (by rw [e]))).trans (h.str k hk), rd_far (c0 := 92) (c1 := 34) h.q1 q1, rd_far (c0 := 92) (c1 := 92) h.q2 q2, rd_far (c0 := 92) (c1 := 110) h.q3 q3, h.oc3, h.ocb⟩

/-- Behind Do: the replacer is done, its tables stand. -/
def DoneAt (w w' : World) (r : Nat) : Prop := Only (· = r) w w' ∧ ∃ g r1 r2 r3 d1 d2 d3 o' oc', Blk w' r 132 (rpc 1 0 (.iface 180 (.pointer (some ⟨g, 0, none⟩))) (.slice none 0 0)) ∧ BS w' w'.heap.size g r1 r2 r3 d1 d2 d3 o' oc'

set_option maxRecDepth 100000 in
set_option maxHeartbeats 1600000 in
theorem slow_any (r o oc : Nat) (w : World) (hb : Blk w r 132 (rpc 0 0 .nilIface (.slice (some ⟨o, 0, none⟩) 6 oc))) (h : Six w o oc) :
    Calls Tryz.prog 118 #[.pointer (some ⟨r, 0, none⟩), .func (.func 89) #[.pointer (some ⟨r, 0, none⟩)] #[]] w fun e w' => e = .returned (.tuple #[]) ∧ DoneAt w w' r := by
  have hbl0 := hb.set 1 (.int .i32 1)
  have h1' : (rpc 0 0 .nilIface (.slice (some ⟨o, 0, none⟩) 6 oc)).setIfInBounds 1 (.int .i32 1) = rpc 0 1 .nilIface (.slice (some ⟨o, 0, none⟩) 6 oc) := rfl
  rw [h1'] at hbl0
  have hsix := h.keep (w' := w.setCell ⟨r, 1, none⟩ (.int .i32 1)) (Below.heap_setCell _ _ _ _ (h.ne hb))
  have hc1 : w.cell? ⟨r, 1, none⟩ = some (.int .i32 0) := hb.cell 1
  have hc1' : w.cell? ⟨r, 0 + 1, none⟩ = some (.int .i32 0) := hb.cell 1
  have f1 := hb.frozen 1
  have hl := run_call_load (P := Tryz.prog) Tryz.func136 (by kernel_rfl) (by kernel_rfl) (by kernel_rfl) .u32 (by kernel_rfl) (w := w.setCell ⟨r, 1, none⟩ (.int .i32 1)) (a := ⟨r, 0, none⟩) (x := 0) (hbl0.cell 0)
  have hnot : ∀ (x : Bool) (w : World), (Op.unary .not (.bool x)).run Tryz.prog w = .ok (.bool (!x)) w := fun _ _ => rfl
  have Hb := Lib.hid hb
  have Hbl0 := Lib.hid hbl0
  have Hsix := Lib.hid hsix
  clear hb hbl0 hsix h h1'
  go_enter_defers Tryz.func118, Tryz.ntmps118
  go_wp2_with (go_at_call 137; refine (lock_free ⟨r, 1, none⟩ _ (by go_simp) (by go_simp)).mono ?_; rintro e w' ⟨rfl, rfl⟩)
  go_wp2_with (first | (go_at_call 117; go_in) | (go_at_call 89; refine (buildOnce_any r o oc _ Hbl0.out Hsix.out).mono ?_; rintro e w2 ⟨rfl, w1, rv, hbl', hBS', rfl⟩; have hbl := Lib.hid hbl'; have hBS := Lib.hid hBS'; clear hbl' hBS'))
  simp only [bodyPostD]
  have b1 := Hbl0.out.below hbl.out Hbl0.out.lt
  have b2 := b1.set 3 rv
  have b3 := b2.set 4 (.slice none 0 0)
  have e2 : (rpc 0 1 .nilIface (.slice (some ⟨o, 0, none⟩) 6 oc)).setIfInBounds 3 rv = rpc 0 1 rv (.slice (some ⟨o, 0, none⟩) 6 oc) := rfl
  have e3 : (rpc 0 1 rv (.slice (some ⟨o, 0, none⟩) 6 oc)).setIfInBounds 4 (.slice none 0 0) = rpc 0 1 rv (.slice none 0 0) := rfl
  rw [e2] at b2
  rw [e2, e3] at b3
  have hO1 : Only (· = r) w ((w1.setCell ⟨r, 3, none⟩ rv).setCell ⟨r, 4, none⟩ (.slice none 0 0)) := ((Only.set (S := (· = r)) w (p := ⟨r, 1, none⟩) rfl _).trans (Only.of_below hbl.out)).trans ((Only.set (S := (· = r)) w1 (p := ⟨r, 3, none⟩) rfl _).trans (Only.set (S := (· = r)) _ (p := ⟨r, 4, none⟩) rfl _))
  obtain ⟨g, r1, r2, r3, d1, d2, d3, o', oc', rfl, hBS0⟩ := hBS.out
  have s1 := hBS0.far (p := ⟨r, 3, none⟩) (d := 0) (b1.cell 0) (.iface 180 (.pointer (some ⟨g, 0, none⟩)))
  have s2 := s1.far (p := ⟨r, 4, none⟩) (d := 0) (b2.cell 0) (.slice none 0 0)
  have hsz : w1.heap.size ≤ ((w1.setCell ⟨r, 3, none⟩ (.iface 180 (.pointer (some ⟨g, 0, none⟩)))).setCell ⟨r, 4, none⟩ (.slice none 0 0)).heap.size := by simp [World.setCell]
  have s3 := s2.more hsz
  generalize (w1.setCell ⟨r, 3, none⟩ (.iface 180 (.pointer (some ⟨g, 0, none⟩)))).setCell ⟨r, 4, none⟩ (.slice none 0 0) = W at *
  have c0 : W.cell? ⟨r, 0, none⟩ = some (.int .u32 0) := b3.cell 0
  have bd : Blk W.drew r 132 (rpc 0 1 (.iface 180 (.pointer (some ⟨g, 0, none⟩))) (.slice none 0 0)) := b3
  have b4 := bd.set 0 (.int .u32 1)
  have sd : BS W.drew W.heap.size g r1 r2 r3 d1 d2 d3 o' oc' := s3.below ⟨rfl, rfl, rfl, Nat.le_refl _, fun _ _ => rfl⟩
  have s4 := sd.far (p := ⟨r, 0, none⟩) (d := 0) (bd.cell 0) (.int .u32 1)
  have e4 : (rpc 0 1 (.iface 180 (.pointer (some ⟨g, 0, none⟩))) (.slice none 0 0)).setIfInBounds 0 (.int .u32 1) = rpc 1 1 (.iface 180 (.pointer (some ⟨g, 0, none⟩))) (.slice none 0 0) := rfl
  rw [e4] at b4
  have b5 := b4.set 1 (.int .i32 0)
  have s5 := s4.far (p := ⟨r, 1, none⟩) (d := 1) (b4.cell 0) (.int .i32 0)
  have e5 : (rpc 1 1 (.iface 180 (.pointer (some ⟨g, 0, none⟩))) (.slice none 0 0)).setIfInBounds 1 (.int .i32 0) = rpc 1 0 (.iface 180 (.pointer (some ⟨g, 0, none⟩))) (.slice none 0 0) := rfl
  rw [e5] at b5
  have hO2 : Only (· = r) w ((W.drew.setCell ⟨r, 0, none⟩ (.int .u32 1)).setCell ⟨r, 1, none⟩ (.int .i32 0)) := hO1.trans ((show Only (· = r) W W.drew from ⟨rfl, rfl, rfl, Nat.le_refl _, fun _ _ _ => rfl⟩).trans ((Only.set (S := (· = r)) W.drew (p := ⟨r, 0, none⟩) rfl _).trans (Only.set (S := (· = r)) _ (p := ⟨r, 1, none⟩) rfl _)))
  have hfin : DoneAt w ((W.drew.setCell ⟨r, 0, none⟩ (.int .u32 1)).setCell ⟨r, 1, none⟩ (.int .i32 0)) r := ⟨hO2, g, r1, r2, r3, d1, d2, d3, o', oc', b5, s5.more (by simp [World.setCell])⟩
  refine leaves_cons (f := 139) (args := #[.pointer (some ⟨r, 0, none⟩), .bool true]) (by simp) (by simp [go_sem]) ?_
  refine (store_deferred ⟨r, 0, none⟩ (.int .u32 0) .returning _ c0 (b3.frozen 0)).mono ?_
  rintro e u' w'' ⟨rfl, rfl, rfl⟩
  refine leaves_cons (f := 138) (args := #[.pointer (some ⟨r, 1, none⟩)]) (by simp [settle]) (by simp [go_sem]) ?_
  refine (unlock_deferred ⟨r, 1, none⟩ _ _ (b4.cell 1) (b4.frozen 1)).mono ?_
  rintro e u' w'' ⟨rfl, rfl, rfl⟩
  simp [Leaves, settle, results, Tryz.results118]
  exact hfin

set_option maxRecDepth 100000 in
set_option maxHeartbeats 1600000 in
theorem do_any (r o oc : Nat) (w : World) (hb : Blk w r 132 (rpc 0 0 .nilIface (.slice (some ⟨o, 0, none⟩) 6 oc))) (h : Six w o oc) :
    Calls Tryz.prog 88 #[.pointer (some ⟨r, 0, none⟩), .func (.func 89) #[.pointer (some ⟨r, 0, none⟩)] #[]] w fun e w' => e = .returned (.tuple #[]) ∧ DoneAt w w' r := by
  have hl := run_call_load (P := Tryz.prog) Tryz.func136 (by kernel_rfl) (by kernel_rfl) (by kernel_rfl) .u32 (by kernel_rfl) (w := w) (a := ⟨r, 0, none⟩) (x := 0) (hb.cell 0)
  have hnot : ∀ (x : Bool) (w : World), (Op.unary .not (.bool x)).run Tryz.prog w = .ok (.bool (!x)) w := fun _ _ => rfl
  have Hb := Lib.hid hb
  have H := Lib.hid h
  clear hb h
  go_enter Tryz.func88, Tryz.ntmps88
  go_wp2_with (first | (go_at_call 118; refine (slow_any r o oc _ Hb.out H.out).mono ?_; rintro e w' ⟨rfl, hd⟩; have Hd := Lib.hid hd; clear hd) | (go_at_call 117; go_in))
  go_end0
  exact ⟨rfl, Hd.out⟩

set_option pp.deepTerms true in
set_option maxRecDepth 100000 in
set_option maxHeartbeats 1600000 in
theorem replace_any (l : List UInt8) (r o oc : Nat) (w : World) (hb : Blk w r 132 (rpc 0 0 .nilIface (.slice (some ⟨o, 0, none⟩) 6 oc))) (h : Six w o oc) (hl : l.length ≤ 1000000) :
    Calls Tryz.prog 53 #[.pointer (some ⟨r, 0, none⟩), .string (bs l)] w fun e w' => e = .returned (.string (bs (escape l))) ∧ Only (· = r) w w' := by
  have hmf : ∀ (fn : Fn) (first cap : Array Value) (w : World), (Instr.makeFunc fn first cap).run Tryz.prog w = .ok (.func fn first cap) w := fun _ _ _ _ => rfl
  have hlt := hb.lt
  have c0 : w.cell? ⟨r, 0, none⟩ = some (.int .u32 0) := hb.cell 0
  have Hb := Lib.hid hb
  have H := Lib.hid h
  clear hb h
  go_enter Tryz.func53, Tryz.ntmps53
  go_wp2_with (fail)
  refine (do_any r o oc _ Hb.out H.out).mono ?_
  rintro e w1 ⟨rfl, hO', g, r1, r2, r3, d1, d2, d3, o', oc', hb1, hBS'⟩
  have y3 : w1.cell? ⟨r, 3, none⟩ = some (.iface 180 (.pointer (some ⟨g, 0, none⟩))) := hb1.cell 3
  have hO := Lib.hid hO'
  have hBS := Lib.hid hBS'
  clear hO' hBS' hb1
  go_wp2_with (fail)
  refine (bsr_any l w1.heap.size g r1 r2 r3 d1 d2 d3 o' oc' w1 hBS.out (Nat.le_refl _) hl).mono ?_
  rintro e w2 ⟨rfl, hb2'⟩
  have hb2 := Lib.hid hb2'
  clear hb2'
  go_wp2
  go_ret
  exact ⟨rfl, hO.out.trans (Only.of_below hb2.out)⟩

def sixL : List Value := [.string ⟨#[34]⟩, .string ⟨#[92, 34]⟩, .string ⟨#[92]⟩, .string ⟨#[92, 92]⟩, .string ⟨#[10]⟩, .string ⟨#[92, 110]⟩]
theorem six_rd {w : World} {o oc : Nat} (h : Six w o oc) : Rd w w.heap.size 1 (some ⟨o, 0, none⟩) 6 oc sixL := by
  refine ⟨rfl, h.c6, h.cb, fun _ => ⟨o, 0, rfl, h.lt, fun j u hj => ?_⟩⟩
  rw [Nat.zero_add]
  have hjl : j < 6 := by
    rcases Nat.lt_or_ge j 6 with h1 | h1
    · exact h1
    · rw [List.getElem?_eq_none (by simpa [sixL] using h1)] at hj; cases hj
  obtain rfl | rfl | rfl | rfl | rfl | rfl : j = 0 ∨ j = 1 ∨ j = 2 ∨ j = 3 ∨ j = 4 ∨ j = 5 := by omega
  · obtain rfl := Option.some.inj hj; exact h.h0
  · obtain rfl := Option.some.inj hj; exact h.h1
  · obtain rfl := Option.some.inj hj; exact h.h2
  · obtain rfl := Option.some.inj hj; exact h.h3
  · obtain rfl := Option.some.inj hj; exact h.h4
  · obtain rfl := Option.some.inj hj; exact h.h5
theorem six_own {w : World} {B c : Nat} {A : Option Addr} (h : w.ownsRow B 9 1 (.slice A 6 c) 6 sixL) : ∃ o, A = some ⟨o, 0, none⟩ ∧ Six w o c := by
  obtain ⟨o, rfl⟩ : ∃ b, A = some ⟨b, 0, none⟩ := by
    rcases h.2 with ⟨e1, e2⟩ | ⟨g', cap, cur, e1, _⟩
    · cases e2
    · injection e1 with e1 _ _
      exact ⟨g', e1⟩
  have hrd := own_rd h
  obtain ⟨b', off, e, hb, hc⟩ := hrd.cells (by omega)
  obtain ⟨eb, eo⟩ : o = b' ∧ 0 = off := by simpa using e
  subst eb eo
  exact ⟨o, rfl, hrd.cap, hrd.big, hc 0 _ rfl, hc 1 _ rfl, hc 2 _ rfl, hc 3 _ rfl, hc 4 _ rfl, hc 5 _ rfl⟩

set_option maxRecDepth 100000 in
set_option maxHeartbeats 1600000 in
theorem newReplacer_any (h0 : Nat) (w : World) (h : Six w h0 6) :
    Calls Tryz.prog 52 #[.slice (some ⟨h0, 0, none⟩) 6 6] w fun e w' => ∃ r o oc, e = .returned (.pointer (some ⟨r, 0, none⟩)) ∧ Below w.heap.size w w' ∧ w.heap.size ≤ r ∧ Blk w' r 132 (rpc 0 0 .nilIface (.slice (some ⟨o, 0, none⟩) 6 oc)) ∧ Six w' o oc := by
  have H := Lib.hid h
  clear h
  go_enter Tryz.func52, Tryz.ntmps52
  go_wp2_with (first | (at_builtin; go_must (refine wpList_app elemStr rfl (.const (.slice none 0 0)) (.tmp 8) rfl w.heap.size none 0 0 [] rfl (World.ownsRow_nil _ _ _ _) w.heap.size _ _ _ rfl sixL (six_rd H.out) (by intro u hu; simp [sixL] at hu; rcases hu with rfl | rfl | rfl | rfl | rfl | rfl <;> rfl) (by omega) (by omega) (Nat.le_refl _) ?_; intro A1 c1 w1 hown1 hbl1 hg1; have Hown := Lib.hid hown1; have Hbl := Lib.hid hbl1; clear hown1 hbl1 hg1)) | fail)
  try go_wp2
  go_ret
  obtain ⟨o, rfl, hS⟩ := six_own Hown.out
  refine ⟨_, o, c1, rfl, Hbl.out.alloc Hbl.out.size _, Hbl.out.size, Blk.new _ _ _, hS.keep (Below.heap_alloc w1 _ o hS.lt)⟩
end Go.Proofs.YtlgdmbdhffdenaaGreatDoor
