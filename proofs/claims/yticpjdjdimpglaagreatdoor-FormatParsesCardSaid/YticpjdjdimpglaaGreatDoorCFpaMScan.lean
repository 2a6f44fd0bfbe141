/- The scanner: class, run, take by their contracts. -/
import Derived.Test.YticpjdjdimpglaaGreatDoorProg
import Derived.Test.YticpjdjdimpglaaGreatDoorCFpaMJoinPlain
import Derived.Deep.QuietTactic
import Derived.BigQuiet
import Derived.RegionTactic
import Derived.ChangeAlike
namespace Go.Proofs.YticpjdjdimpglaaGreatDoor
set_option linter.unusedVariables false
set_option linter.unusedSimpArgs false
open Go.RowKit
/-- The table of classes. -/
def clsList : List Value := (List.range 256).map fun x => .int .u8 (cls x : Int)
def scnCells (A : Option Addr) (n c : Nat) (a : Nat) : Array Value := (.slice A n c :: .int .i64 (a : Int) :: clsList).toArray
/-- Block g is a scanner over the bytes l, at offset a. -/
structure Scn (w : World) (g : Nat) (A : Option Addr) (n c : Nat) (l : List UInt8) (a : Nat) : Prop where
  blk : Blk w g 205 (scnCells A n c a)
  rd : Rd w g 1 A n c (l.map vb)
theorem clsList_get (x : Nat) (h : x < 256) : clsList[x]? = some (.int .u8 (cls x : Int)) := by simp [clsList, h]
section
variable {w w' : World} {g n c a : Nat} {A : Option Addr} {l : List UInt8}
theorem Scn.src (h : Scn w g A n c l a) : w.cell? ⟨g, 0, none⟩ = some (.slice A n c) := by rw [h.blk.cell]; simp [scnCells]
theorem Scn.pos (h : Scn w g A n c l a) : w.cell? ⟨g, 1, none⟩ = some (.int .i64 (a : Int)) := by rw [h.blk.cell]; simp [scnCells]
theorem Scn.cl (h : Scn w g A n c l a) {x : Nat} (hx : x < 256) : w.cell? ⟨g, 2 + x, none⟩ = some (.int .u8 (cls x : Int)) := by
  rw [h.blk.cell]
  unfold scnCells
  rw [show 2 + x = x + 1 + 1 from by omega]
  simpa using clsList_get x hx
theorem Scn.free (h : Scn w g A n c l a) (i : Nat) : w.frozen? ⟨g, i, none⟩ = false := h.blk.frozen i
theorem Scn.drewN (h : Scn w g A n c l a) (k : Nat) : Scn (w.drewN k) g A n c l a := ⟨h.blk, h.rd.drewN k⟩
theorem Scn.below {B : Nat} (h : Scn w g A n c l a) (hb : Below B w w') (hg : g < B) : Scn w' g A n c l a := ⟨h.blk.below hb hg, h.rd.below (hb.mono (by omega))⟩
theorem Scn.alloc (h : Scn w g A n c l a) (o : Obj) : Scn (w.alloc o) g A n c l a := ⟨h.blk.alloc o, h.rd.alloc (Nat.le_of_lt h.blk.lt) o⟩
theorem Scn.blen (h : Scn w g A n c l a) : l.length = n := h.rd.blen
end
def clsAt (l : List UInt8) (i : Nat) : Nat := if i < l.length then cls (bt l i) else 0
theorem clsAt_in {l : List UInt8} {i : Nat} (h : i < l.length) : clsAt l i = cls (bt l i) := by simp [clsAt, h]
theorem clsAt_out {l : List UInt8} {i : Nat} (h : ¬ i < l.length) : clsAt l i = 0 := by simp [clsAt, h]
set_option maxHeartbeats 400000 in
set_option maxRecDepth 100000 in
theorem class_any (g : Nat) (A : Option Addr) (n c : Nat) (l : List UInt8) (a : Nat) (i : Int) (w : World) (h : Scn w g A n c l a) (hi : 0 ≤ i) (hm : i ≤ 9223372036854775807) :
    Calls Tryz.prog 167 #[.pointer (some ⟨g, 0, none⟩), .int .i64 i] w fun e w' => e = .returned (.int .u8 (clsAt l i.toNat)) ∧ ∃ m, w' = w.drewN m := by
  obtain ⟨k, rfl⟩ := Int.eq_ofNat_of_zero_le hi
  have hlen := h.blen
  have hcap := h.rd.cap
  have hbig := h.rd.big
  have hs := h.src
  by_cases hk : k < l.length
  · have H := Lib.hid (clsAt_in hk)
    obtain ⟨b, off, rfl, hb, hc⟩ := h.rd.byte (k := k) (by omega)
    have hx := h.cl (bt_lt l k)
    have hb0 : (0 : Int) ≤ (bt l k : Int) := by omega
    have hb1 : (bt l k : Int) < 256 := by have := bt_lt l k; omega
    subst hlen
    go_enter Tryz.func167, Tryz.ntmps167
    go_wp2
    go_quiet (fail)
    go_wp2
    go_ret
    exact ⟨ret_int (by rw [Int.toNat_natCast, H.out]), nq, rfl⟩
  · have H := Lib.hid (clsAt_out hk)
    subst hlen
    go_enter Tryz.func167, Tryz.ntmps167
    go_wp2
    go_ret
    exact ⟨ret_int (by rw [Int.toNat_natCast, H.out]; rfl), 0, rfl⟩
def Inner (l : List UInt8) (a k : Nat) : Prop := ∀ q, a ≤ q → q < k → isInner (bt l q) = true
theorem Inner.nil (l : List UInt8) (a : Nat) : Inner l a a := fun q h1 h2 => absurd h1 (by omega)
theorem Inner.snoc {l : List UInt8} {a k : Nat} (h : Inner l a k) (hk : isInner (bt l k) = true) : Inner l a (k + 1) := fun q h1 h2 => by
  rcases Nat.lt_or_ge q k with h3 | h3
  · exact h q h1 h3
  · rw [show q = k from by omega]; exact hk
set_option maxHeartbeats 1000000 in
set_option maxRecDepth 100000 in
theorem run_any (g : Nat) (A : Option Addr) (n c : Nat) (l : List UInt8) (a : Nat) (i : Int) (w : World) (h : Scn w g A n c l a) (hi : 0 ≤ i) (hm : i ≤ n) :
    Calls Tryz.prog 202 #[.pointer (some ⟨g, 0, none⟩), .int .i64 i] w fun e w' => e = .returned (.int .i64 (i + runLen (l.drop i.toNat))) ∧ ∃ m, w' = w.drewN m := by
  obtain ⟨i0, rfl⟩ := Int.eq_ofNat_of_zero_le hi
  have hlen := h.blen
  have hcap := h.rd.cap
  have hbig := h.rd.big
  have hs := h.src
  subst hlen
  go_enter Tryz.func202, Tryz.ntmps202
  go_wp2
  go_loopw [1] (fun i wr => ∃ k m : Nat, wr = w.drewN m ∧ i = .int .i64 k ∧ i0 ≤ k ∧ k ≤ l.length ∧ Hid (Inner l i0 k)) (fun i _ => l.length - (intOf i).toNat)
  case atStart => exact ⟨i0, 0, rfl, rfl, Nat.le_refl _, by omega, Inner.nil l i0⟩
  case round =>
    obtain ⟨k, m, rfl, rfl, hk1, hk2, Hk⟩ := hrel
    by_cases hlt : k < l.length
    · obtain ⟨b, off, rfl, hb, hc⟩ := h.rd.byte (k := k) hlt
      have hcl := clsAt_in hlt
      have hlt5 := cls_lt (bt l k)
      by_cases hin : isInner (bt l k) = true
      · have Hin := Lib.hid (Hk.out.snoc hin)
        have hor := inner_iff.1 hin
        clear hin
        have hor' : clsAt l k = 2 ∨ clsAt l k = 3 ∨ (((clsAt l k : Int) == 2) = false ∧ ((clsAt l k : Int) == 3) = false ∧ ((bt l k : Int) == 95) = true) := by
          rw [hcl]
          by_cases q2 : cls (bt l k) = 2
          · exact .inl q2
          · by_cases q3 : cls (bt l k) = 3
            · exact .inr (.inl q3)
            · exact .inr (.inr ⟨nb (by omega), nb (by omega), yb (by omega)⟩)
        clear hcl hor hlt5
        rcases hor' with e | e | ⟨e1, e2, e3⟩
        all_goals
          go_wp2_with (go_at_call 167; refine (class_any g _ _ _ l a _ _ (h.drewN _) (by omega) (by omega)).mono ?_; rintro e w' ⟨rfl, nq, rfl⟩)
          go_roundw
          case rel => exact ⟨k + 1, _, rfl, by go_num, by omega, by omega, Hin.out⟩
          case measure => simp [intOf]; omega
      · have hno : isInner (bt l k) = false := by simpa using hin
        obtain ⟨q2, q3, q95⟩ := inner_not.1 hno
        have e1 : ((clsAt l k : Int) == 2) = false := nb (by rw [hcl]; omega)
        have e2 : ((clsAt l k : Int) == 3) = false := nb (by rw [hcl]; omega)
        have e3 : ((bt l k : Int) == 95) = false := nb (by omega)
        have Hr := Lib.hid (runLen_to l i0 k hk1 hk2 Hk.out (.inr hno))
        clear hin hno q2 q3 q95 hcl hlt5
        go_wp2_with (go_at_call 167; refine (class_any g _ _ _ l a _ _ (h.drewN _) (by omega) (by omega)).mono ?_; rintro e w' ⟨rfl, nq, rfl⟩)
        go_ret
        exact ⟨ret_int (by rw [Int.toNat_natCast, Hr.out]; omega), _, rfl⟩
    · have Hr := Lib.hid (runLen_to l i0 k hk1 hk2 Hk.out (.inl (by omega)))
      go_wp2
      go_ret
      exact ⟨ret_int (by rw [Int.toNat_natCast, Hr.out]; omega), _, rfl⟩
set_option maxHeartbeats 1000000 in
set_option maxRecDepth 100000 in
theorem take_any (g : Nat) (A : Option Addr) (n c : Nat) (l : List UInt8) (a : Nat) (kind to : Int) (w : World) (h : Scn w g A n c l a) (h1 : (a : Int) < to) (h2 : to ≤ n) :
    Calls Tryz.prog 203 #[.pointer (some ⟨g, 0, none⟩), .int .i64 kind, .int .i64 to] w fun e w' => e = .returned (.agg #[.int .i64 kind, .string (bs ((l.drop a).take (to.toNat - a))), .int .i64 a]) ∧ Below w.heap.size w w' := by
  obtain ⟨t0, rfl⟩ := Int.eq_ofNat_of_zero_le (show 0 ≤ to by omega)
  have hlen := h.blen
  have hcap := h.rd.cap
  have hbig := h.rd.big
  have hs := h.src
  have hp := h.pos
  obtain ⟨b, off, rfl, hb, hc0⟩ := h.rd.cells (by omega)
  have hcv := (((h.rd.alloc (Nat.le_of_lt h.blk.lt) (.cells #[.int .i64 0, .string ⟨#[]⟩, .int .i64 0] 171)).drew).sub (lo := a) (hi := t0) (by omega) (by omega)).conv (P := Tryz.prog) Tryz.underlying35 Tryz.underlying5 Tryz.underlying9 (c - a)
  have hne : ¬ c = a := by omega
  have hg : g < w.heap.size := h.blk.lt
  clear hc0
  subst hlen
  go_enter Tryz.func203, Tryz.ntmps203
  go_wp2
  go_region
  go_wp2
  refine bodyPost_ret (v := .agg #[.int .i64 kind, .string (bs ((l.drop a).take (t0 - a))), .int .i64 a]) (by simp [results, Tryz.results203, go_sem]) rfl ⟨by rw [Int.toNat_natCast], ?_⟩
  go_grown
end Go.Proofs.YticpjdjdimpglaaGreatDoor
