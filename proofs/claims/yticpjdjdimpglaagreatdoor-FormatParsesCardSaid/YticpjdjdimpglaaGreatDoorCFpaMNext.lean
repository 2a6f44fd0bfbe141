/- lexis.quoted and the reference's Quoted by their contracts. -/
import Derived.Test.YticpjdjdimpglaaGreatDoorCFpaShelf
import Derived.Test.YticpjdjdimpglaaGreatDoorCFpaMJoinPlain
import Derived.Test.YticpjdjdimpglaaGreatDoorCFpaMCmp2
import Derived.Test.YticpjdjdimpglaaGreatDoorCFpaMScan
import Derived.Test.YticpjdjdimpglaaGreatDoorCFpaMKeyword
import Derived.Deep.RegionHeld3
import Derived.Deep.RegionWith
import Derived.StillTailTactics
namespace Go.Proofs.YticpjdjdimpglaaGreatDoor
set_option linter.unusedVariables false
set_option linter.unusedSimpArgs false
open Go.RowKit
theorem elemByte : Elem Tryz.prog 35 5 1 1 := Elem.mk' Tryz.underlying35 (z := .int .u8 0) (by kernel_rfl) rfl (by omega)
theorem qscan_cons (c : UInt8) (r : List UInt8) : qscan (c :: r) =
    if c.toNat = 34 then some ([], 1)
    else if c.toNat < 32 ∨ 126 < c.toNat then none
    else if c.toNat ≠ 92 then (qscan r).map fun x => (c :: x.1, x.2 + 1)
    else match r with
      | [] => none
      | d :: r' =>
        if d.toNat = 34 ∨ d.toNat = 92 then (qscan r').map fun x => (d :: x.1, x.2 + 2)
        else if d.toNat = 110 then (qscan r').map fun x => (10 :: x.1, x.2 + 2)
        else none := by
  rw [qscan.eq_def]
  rfl
section
variable {l : List UInt8} {k : Nat}
theorem qs_out (h : l.length ≤ k) : qscan (l.drop k) = none := by rw [drop_all l k h]; simp [qscan]
theorem qs_end (h : k < l.length) (hc : bt l k = 34) : qscan (l.drop k) = some ([], 1) := by
  obtain ⟨c, h1, h2⟩ := drop_cons l k h
  rw [h2, qscan_cons, h1, if_pos hc]
theorem qs_bad (h : k < l.length) (hc : bt l k < 32 ∨ 126 < bt l k) : qscan (l.drop k) = none := by
  obtain ⟨c, h1, h2⟩ := drop_cons l k h
  rw [h2, qscan_cons, h1, if_neg (by omega), if_pos hc]
theorem qs_plain (h : k < l.length) (hc : 32 ≤ bt l k ∧ bt l k ≤ 126 ∧ ¬ bt l k = 34 ∧ ¬ bt l k = 92) : qscan (l.drop k) = (qscan (l.drop (k + 1))).map fun x => (UInt8.ofNat (bt l k) :: x.1, x.2 + 1) := by
  obtain ⟨c, h1, h2⟩ := drop_cons l k h
  rw [h2, qscan_cons, h1, if_neg (by omega), if_neg (by omega), if_pos (by omega), ← h1]
  simp
theorem qs_esc_out (h : k < l.length) (hc : bt l k = 92) (h1 : l.length ≤ k + 1) : qscan (l.drop k) = none := by
  obtain ⟨c, h2, h3⟩ := drop_cons l k h
  rw [h3, qscan_cons, h2, if_neg (by omega), if_neg (by omega), if_neg (by omega), drop_all l (k + 1) h1]
theorem qs_esc (h : k + 1 < l.length) (hc : bt l k = 92) (hd : bt l (k + 1) = 34 ∨ bt l (k + 1) = 92) : qscan (l.drop k) = (qscan (l.drop (k + 2))).map fun x => (UInt8.ofNat (bt l (k + 1)) :: x.1, x.2 + 2) := by
  obtain ⟨c, h2, h3⟩ := drop_cons l k (by omega)
  obtain ⟨d, h4, h5⟩ := drop_cons l (k + 1) h
  rw [h3, qscan_cons, h2, if_neg (by omega), if_neg (by omega), if_neg (by omega), h5]
  simp only [h4, if_pos hd]
  rw [← h4]
  simp
theorem qs_esc_n (h : k + 1 < l.length) (hc : bt l k = 92) (hd : bt l (k + 1) = 110) : qscan (l.drop k) = (qscan (l.drop (k + 2))).map fun x => (10 :: x.1, x.2 + 2) := by
  obtain ⟨c, h2, h3⟩ := drop_cons l k (by omega)
  obtain ⟨d, h4, h5⟩ := drop_cons l (k + 1) h
  rw [h3, qscan_cons, h2, if_neg (by omega), if_neg (by omega), if_neg (by omega), h5]
  simp only [h4]
  rw [if_neg (by omega), if_pos hd]
theorem qs_esc_no (h : k + 1 < l.length) (hc : bt l k = 92) (hd : ¬ (bt l (k + 1) = 34 ∨ bt l (k + 1) = 92)) (hn : ¬ bt l (k + 1) = 110) : qscan (l.drop k) = none := by
  obtain ⟨c, h2, h3⟩ := drop_cons l k (by omega)
  obtain ⟨d, h4, h5⟩ := drop_cons l (k + 1) h
  rw [h3, qscan_cons, h2, if_neg (by omega), if_neg (by omega), if_neg (by omega), h5]
  simp only [h4]
  rw [if_neg hd, if_neg hn]
end
/-- With xs gathered up to place k the answer is that of the rest. -/
def QInv (l : List UInt8) (k : Nat) (xs : List UInt8) : Prop := qscan (l.drop 1) = (qscan (l.drop k)).map fun x => (xs ++ x.1, x.2 + (k - 1))
theorem QInv.start (l : List UInt8) : QInv l 1 [] := by
  unfold QInv
  cases qscan (l.drop 1) <;> simp
theorem QInv.step {l : List UInt8} {k : Nat} {xs : List UInt8} (h : QInv l k xs) (hk : 1 ≤ k) (c : UInt8) (d : Nat) (hd : 1 ≤ d) (hs : qscan (l.drop k) = (qscan (l.drop (k + d))).map fun x => (c :: x.1, x.2 + d)) : QInv l (k + d) (xs ++ [c]) := by
  unfold QInv at h ⊢
  rw [h, hs]
  cases qscan (l.drop (k + d)) with
  | none => rfl
  | some x => simp; omega
/-- What quoted returns. -/
def qout : Option (List UInt8 × Nat) → List UInt8 × Nat
  | some x => (x.1, x.2 + 1)
  | none => ([], 0)
theorem QInv.none {l : List UInt8} {k : Nat} {xs : List UInt8} (h : QInv l k xs) (hs : qscan (l.drop k) = Option.none) : qout (qscan (l.drop 1)) = ([], 0) := by
  unfold QInv at h
  rw [h, hs]
  rfl
theorem QInv.found {l : List UInt8} {k : Nat} {xs : List UInt8} (h : QInv l k xs) (hk : 1 ≤ k) (hs : qscan (l.drop k) = some ([], 1)) : qout (qscan (l.drop 1)) = (xs, k + 1) := by
  unfold QInv at h
  rw [h, hs]
  simp [qout]
  omega
theorem own_snoc {w : World} {B : Nat} {e : TypeId} {A : Option Addr} {c : Nat} {xs : List UInt8} (x : UInt8) (v : Int) (hv : v = (x.toNat : Int)) (h : w.ownsRow B e 1 (.slice A (xs.length + 1) c) (xs.length + 1) (xs.map vb ++ [.int .u8 v])) :
    Hid (w.ownsRow B e 1 (.slice A (xs ++ [x]).length c) (xs ++ [x]).length ((xs ++ [x]).map vb)) := by
  have e1 : (xs ++ [x]).length = xs.length + 1 := by simp
  have e2 : (xs ++ [x]).map vb = xs.map vb ++ [.int .u8 v] := by simp [vb, hv]
  rw [e1, e2]
  exact h
theorem slice_eq {A : Option Addr} {n m c : Nat} (h : n = m) : Value.slice A n c = .slice A m c := by rw [h]
theorem bt_of (l : List UInt8) (k : Nat) : ((bt l k : Nat) : Int) = ((UInt8.ofNat (bt l k)).toNat : Int) := by
  have := bt_lt l k
  simp
  omega
theorem esc_index : ∀ d : Nat, d < 256 → Lib.indexByte [34, 92, 110] (UInt8.ofNat d) = if d = 34 then 0 else if d = 92 then 1 else if d = 110 then 2 else -1 := by decide +kernel
theorem esc_any (d : Nat) (r : Int) (hd : d < 256) (hr : (if d = 34 then (0 : Int) else if d = 92 then 1 else if d = 110 then 2 else -1) = r) (w : World) :
    Calls Tryz.prog 230 #[.string ⟨#[34, 92, 110]⟩, .int .u8 (d : Int)] w fun e w' => e = .returned (.int .i64 r) ∧ w = w' :=
  (Tryz.strings_IndexByte ⟨#[34, 92, 110]⟩ (d : Int) w).mono fun e w' ⟨he, hw⟩ => ⟨by
    rw [he, ← hr, ← esc_index d hd]
    rfl, hw.symm⟩
def QRet (l : List UInt8) (w : World) (e : Ending) (w' : World) : Prop := e = .returned (.tuple #[.string (bs (qout (qscan (l.drop 1))).1), .int .i64 ((qout (qscan (l.drop 1))).2 : Int)]) ∧ Below w.heap.size w w'
theorem QRet.mk' {l : List UInt8} {w w' : World} {t : List UInt8} {m : Nat} (h : qout (qscan (l.drop 1)) = (t, m)) (hb : Below w.heap.size w w') : QRet l w (.returned (.tuple #[.string (bs t), .int .i64 (m : Int)])) w' := by
  unfold QRet
  rw [h]
  exact ⟨rfl, hb⟩
set_option maxHeartbeats 2000000 in
set_option maxRecDepth 100000 in
theorem quoted_any (A : Option Addr) (n c : Nat) (l : List UInt8) (w : World) (h : Rd w w.heap.size 1 A n c (l.map vb)) (h0 : 1 ≤ n) (hn : n ≤ 70000) :
    Calls Tryz.prog 205 #[.slice A n c] w (QRet l w) := by
  have hlen := h.blen
  have hcap := h.cap
  have hbig := h.big
  subst hlen
  go_enter Tryz.func205, Tryz.ntmps205
  go_wp2
  go_loopw [4, 5, 6, 7] (fun out i _ _ wr => ∃ (A' : Option Addr) (c' k : Nat) (xs : List UInt8), i = .int .i64 k ∧ 1 ≤ k ∧ k ≤ l.length ∧ out = .slice A' xs.length c' ∧ xs.length ≤ k ∧ Hid (wr.ownsRow w.heap.size 5 1 (.slice A' xs.length c') xs.length (xs.map vb)) ∧ Hid (QInv l k xs) ∧ Hid (Below w.heap.size w wr)) (fun _ i _ _ _ => l.length - (intOf i).toNat)
  case atStart => exact ⟨none, 0, 1, [], rfl, Nat.le_refl _, h0, rfl, by simp, World.ownsRow_nil _ _ _ _, QInv.start l, Below.refl _ _⟩
  case round =>
    obtain ⟨A', c', k, xs, rfl, hk1, hk2, rfl, hxk, Hown, HQ, HB⟩ := hrel
    have hr := h.below HB.out
    by_cases hlt : k < l.length
    · obtain ⟨b, off, rfl, hb, hc⟩ := hr.byte (k := k) hlt
      by_cases h34 : bt l k = 34
      · have HR := Lib.hid (HQ.out.found hk1 (qs_end hlt h34))
        have e1 := yb (a := bt l k) (m := 34) (by omega)
        have hcv := (own_rd Hown.out).conv (P := Tryz.prog) Tryz.underlying35 Tryz.underlying5 Tryz.underlying9 c'
        clear hr h34
        go_wp2
        go_ret2
        exact QRet.mk' HR.out HB.out
      · have e1 := nb (a := bt l k) (m := 34) (by omega)
        by_cases hbad : bt l k < 32 ∨ 126 < bt l k
        · have HR := Lib.hid (HQ.out.none (qs_bad hlt hbad))
          have hbad' : (bt l k : Int) < 32 ∨ (¬ (bt l k : Int) < 32 ∧ 126 < (bt l k : Int)) := by omega
          clear hr h34 hbad
          rcases hbad' with hx | ⟨hx, hy⟩
          all_goals
            go_wp2
            go_ret2
            exact QRet.mk' HR.out HB.out
        · have g1 : ¬ (bt l k : Int) < 32 := by omega
          have g2 : ¬ 126 < (bt l k : Int) := by omega
          have hbe := Lib.hid HB.out.size
          by_cases h92 : bt l k = 92
          · have e2 := ynb (a := bt l k) (m := 92) (by omega)
            by_cases hk1' : k + 1 < l.length
            · obtain ⟨b', off', he, hb', hc'⟩ := hr.byte (k := k + 1) hk1'
              injection he with he
              injection he with he1 he2
              subst he1 he2
              have hlt2 := bt_lt l (k + 1)
              by_cases hd : bt l (k + 1) = 34 ∨ bt l (k + 1) = 92 ∨ bt l (k + 1) = 110
              · rcases hd with hd | hd | hd
                · have HQs : qscan (l.drop k) = (qscan (l.drop (k + 2))).map fun x => (34 :: x.1, x.2 + 2) := by
                    have := qs_esc hk1' h92 (.inl hd); rw [hd] at this; exact this
                  have HQn := Lib.hid (HQ.out.step hk1 34 2 (by omega) HQs)
                  have Hr1 := Lib.hid (show (if bt l (k + 1) = 34 then (0 : Int) else if bt l (k + 1) = 92 then 1 else if bt l (k + 1) = 110 then 2 else -1) = 0 by rw [if_pos hd])
                  clear hr h34 hbad h92 hd HQs
                  go_wp2_with (first
                    | (go_at_call 230; refine (esc_any _ _ hlt2 Hr1.out _).mono ?_; rintro e w' ⟨rfl, rfl⟩)
                    | (at_builtin; refine wpList_push elemByte rfl (.tmp 31) (.tmp 34) rfl w.heap.size A' xs.length c' (xs.map vb) rfl (Hown.out.alloc _) _ rfl [.int .u8 34] rfl (new_cells _ _ _) (by intro u hu; simp at hu; subst hu; rfl) (by omega) (by omega) (by have := hbe.out; simp; omega) ?_; intro A1 c1 w1 hown1 hb1 hg1))
                  go_roundw
                  case rel => exact ⟨A1, c1, k + 2, xs ++ [34], by go_num, by omega, by omega, slice_eq (by simp), by simp; omega, own_snoc _ _ rfl hown1, HQn.out, (HB.out.alloc HB.out.size _).trans hb1⟩
                  case measure => simp [intOf]; omega
                · have HQs : qscan (l.drop k) = (qscan (l.drop (k + 2))).map fun x => (92 :: x.1, x.2 + 2) := by
                    have := qs_esc hk1' h92 (.inr hd); rw [hd] at this; exact this
                  have HQn := Lib.hid (HQ.out.step hk1 92 2 (by omega) HQs)
                  have Hr1 := Lib.hid (show (if bt l (k + 1) = 34 then (0 : Int) else if bt l (k + 1) = 92 then 1 else if bt l (k + 1) = 110 then 2 else -1) = 1 by rw [if_neg (by omega), if_pos hd])
                  clear hr h34 hbad h92 hd HQs
                  go_wp2_with (first
                    | (go_at_call 230; refine (esc_any _ _ hlt2 Hr1.out _).mono ?_; rintro e w' ⟨rfl, rfl⟩)
                    | (at_builtin; refine wpList_push elemByte rfl (.tmp 31) (.tmp 34) rfl w.heap.size A' xs.length c' (xs.map vb) rfl (Hown.out.alloc _) _ rfl [.int .u8 92] rfl (new_cells _ _ _) (by intro u hu; simp at hu; subst hu; rfl) (by omega) (by omega) (by have := hbe.out; simp; omega) ?_; intro A1 c1 w1 hown1 hb1 hg1))
                  go_roundw
                  case rel => exact ⟨A1, c1, k + 2, xs ++ [92], by go_num, by omega, by omega, slice_eq (by simp), by simp; omega, own_snoc _ _ rfl hown1, HQn.out, (HB.out.alloc HB.out.size _).trans hb1⟩
                  case measure => simp [intOf]; omega
                · have HQs : qscan (l.drop k) = (qscan (l.drop (k + 2))).map fun x => (10 :: x.1, x.2 + 2) := by
                    exact qs_esc_n hk1' h92 hd
                  have HQn := Lib.hid (HQ.out.step hk1 10 2 (by omega) HQs)
                  have Hr1 := Lib.hid (show (if bt l (k + 1) = 34 then (0 : Int) else if bt l (k + 1) = 92 then 1 else if bt l (k + 1) = 110 then 2 else -1) = 2 by rw [if_neg (by omega), if_neg (by omega), if_pos hd])
                  clear hr h34 hbad h92 hd HQs
                  go_wp2_with (first
                    | (go_at_call 230; refine (esc_any _ _ hlt2 Hr1.out _).mono ?_; rintro e w' ⟨rfl, rfl⟩)
                    | (at_builtin; refine wpList_push elemByte rfl (.tmp 31) (.tmp 34) rfl w.heap.size A' xs.length c' (xs.map vb) rfl (Hown.out.alloc _) _ rfl [.int .u8 10] rfl (new_cells _ _ _) (by intro u hu; simp at hu; subst hu; rfl) (by omega) (by omega) (by have := hbe.out; simp; omega) ?_; intro A1 c1 w1 hown1 hb1 hg1))
                  go_roundw
                  case rel => exact ⟨A1, c1, k + 2, xs ++ [10], by go_num, by omega, by omega, slice_eq (by simp), by simp; omega, own_snoc _ _ rfl hown1, HQn.out, (HB.out.alloc HB.out.size _).trans hb1⟩
                  case measure => simp [intOf]; omega
              · have HR := Lib.hid (HQ.out.none (qs_esc_no hk1' h92 (by omega) (by omega)))
                have Hr1 := Lib.hid (show (if bt l (k + 1) = 34 then (0 : Int) else if bt l (k + 1) = 92 then 1 else if bt l (k + 1) = 110 then 2 else -1) = -1 by rw [if_neg (by omega), if_neg (by omega), if_neg (by omega)])
                clear hr h34 hbad h92 hd
                go_wp2_with (go_at_call 230; refine (esc_any _ _ hlt2 Hr1.out _).mono ?_; rintro e w' ⟨rfl, rfl⟩)
                go_ret2
                exact QRet.mk' HR.out HB.out
            · have HR := Lib.hid (HQ.out.none (qs_esc_out hlt h92 (by omega)))
              clear hr h34 hbad h92
              go_wp2
              go_ret2
              exact QRet.mk' HR.out HB.out
          · have e2 := nnb (a := bt l k) (m := 92) (by omega)
            have HQn := Lib.hid (HQ.out.step hk1 (UInt8.ofNat (bt l k)) 1 (Nat.le_refl _) (qs_plain hlt ⟨by omega, by omega, h34, h92⟩))
            clear hr h34 hbad h92
            go_wp2_with (at_builtin; refine wpList_push elemByte rfl (.tmp 53) (.tmp 55) rfl w.heap.size A' xs.length c' (xs.map vb) rfl (Hown.out.alloc _) _ rfl [.int .u8 (bt l k : Int)] rfl (new_cells wr _ _) (by intro u hu; simp at hu; subst hu; rfl) (by omega) (by omega) (by have := hbe.out; simp; omega) ?_; intro A1 c1 w1 hown1 hb1 hg1)
            go_roundw
            case rel => exact ⟨A1, c1, k + 1, xs ++ [UInt8.ofNat (bt l k)], by go_num, by omega, by omega, slice_eq (by simp), by simp; omega, own_snoc _ _ (bt_of l k) hown1, HQn.out, (HB.out.alloc HB.out.size _).trans hb1⟩
            case measure => simp [intOf]; omega
    · have HR := Lib.hid (HQ.out.none (qs_out (by omega)))
      clear hr
      go_wp2
      go_ret2
      exact QRet.mk' HR.out HB.out
end Go.Proofs.YticpjdjdimpglaaGreatDoor
/- The scanner's next by its contract. -/
namespace Go.Proofs.YticpjdjdimpglaaGreatDoor
set_option linter.unusedVariables false
set_option linter.unusedSimpArgs false
open Go.RowKit
/-- The token that an item gives at offset a; the zero token for invalid bytes. -/
def tokOf (i : Item) (a : Nat) : Tok := if i.kind = 0 then ⟨0, [], 0⟩ else ⟨i.kind, i.text, a⟩
def tokVal (t : Tok) : Value := .agg #[.int .i64 t.kind, .string (bs t.text), .int .i64 t.at_]
section
variable {l : List UInt8} {a : Nat}
theorem nx_letter (h : a < l.length) (hc : isLetter (bt l a) = true) : nextItem (l.drop a) = ⟨1, (l.drop a).take (runLen (l.drop a)), runLen (l.drop a)⟩ := by
  obtain ⟨c, h1, h2⟩ := drop_cons l a h
  rw [h2, nextItem, h1, if_pos hc]
theorem run_first (h : a < l.length) (hc : isInner (bt l a) = true) : runLen (l.drop a) = runLen (l.drop (a + 1)) + 1 := by
  obtain ⟨c, h1, h2⟩ := drop_cons l a h
  rw [h2, runLen, h1, if_pos hc]
/-- A digit, or a minus ahead of one. -/
def NumAt (l : List UInt8) (a : Nat) : Prop := isDigit (bt l a) = true ∨ (bt l a = 45 ∧ isDigit (bt l (a + 1)) = true)
theorem nx_num (h : a < l.length) (hc : NumAt l a) : nextItem (l.drop a) =
    if intB ((l.drop a).take (runLen (l.drop (a + 1)) + 1)) then ⟨2, (l.drop a).take (runLen (l.drop (a + 1)) + 1), runLen (l.drop (a + 1)) + 1⟩ else ⟨0, [], runLen (l.drop (a + 1)) + 1⟩ := by
  obtain ⟨c, h1, h2⟩ := drop_cons l a h
  have hl : isLetter (bt l a) = false := by
    rcases hc with hc | ⟨hc, _⟩
    · exact isDigit_not_letter hc
    · rw [hc]; rfl
  have hx : (isDigit (bt l a) || (bt l a == 45 && isDigit (bt (l.drop (a + 1)) 0))) = true := by
    rw [bt_drop, Nat.add_zero]
    rcases hc with hc | ⟨hc, hd⟩
    · rw [hc]; rfl
    · rw [hc, hd]; rfl
  rw [h2, nextItem, h1, hl, if_neg (by simp), if_pos hx]
theorem num_not (hc : ¬ NumAt l a) : (isDigit (bt l a) || (bt l a == 45 && isDigit (bt (l.drop (a + 1)) 0))) = false := by
  rw [bt_drop, Nat.add_zero]
  unfold NumAt at hc
  rw [not_or] at hc
  obtain ⟨h1, h2⟩ := hc
  rw [show isDigit (bt l a) = false from by simpa using h1, Bool.false_or]
  by_cases h3 : bt l a = 45
  · rw [h3]
    cases hd : isDigit (bt l (a + 1))
    · rfl
    · exact absurd ⟨h3, hd⟩ h2
  · simp [h3]
theorem nx_sign2 (h : a + 1 < l.length) (hs : bt l a = 60 ∨ bt l a = 62) (he : bt l (a + 1) = 61) : nextItem (l.drop a) = ⟨4, (l.drop a).take 2, 2⟩ := by
  obtain ⟨c, h1, h2⟩ := drop_cons l a (by omega)
  have hn : ¬ NumAt l a := by
    rintro (hd | ⟨hd, _⟩)
    · simp [isDigit] at hd; omega
    · omega
  have hl : isLetter (bt l a) = false := by rcases hs with hs | hs <;> rw [hs] <;> rfl
  have hsg : isSignC (bt l a) = true := by rcases hs with hs | hs <;> rw [hs] <;> rfl
  have hb : ((bt l a == 60 || bt l a == 62) && bt (l.drop (a + 1)) 0 == 61) = true := by
    rw [bt_drop, Nat.add_zero, he]
    rcases hs with hs | hs <;> rw [hs] <;> rfl
  rw [h2, nextItem, h1, hl, num_not hn, if_neg (by simp), if_neg (by simp), if_pos hsg, if_pos hb]
theorem nx_sign1 (h : a < l.length) (hsg : isSignC (bt l a) = true) (hn2 : ¬ ((bt l a = 60 ∨ bt l a = 62) ∧ bt l (a + 1) = 61)) : nextItem (l.drop a) = ⟨4, (l.drop a).take 1, 1⟩ := by
  obtain ⟨c, h1, h2⟩ := drop_cons l a h
  obtain ⟨hl, hd⟩ := sign_other hsg
  have hn : ¬ NumAt l a := by
    rintro (hd' | ⟨hd', _⟩)
    · rw [hd] at hd'; cases hd'
    · rw [hd'] at hsg; cases hsg
  have hb : ((bt l a == 60 || bt l a == 62) && bt (l.drop (a + 1)) 0 == 61) = false := by
    rw [bt_drop, Nat.add_zero]
    by_cases h3 : bt l a = 60 ∨ bt l a = 62
    · have : ¬ bt l (a + 1) = 61 := fun e => hn2 ⟨h3, e⟩
      simp [this]
    · rw [not_or] at h3
      simp [h3.1, h3.2]
  rw [h2, nextItem, h1, hl, num_not hn, if_neg (by simp), if_neg (by simp), if_pos hsg, hb, if_neg (by simp)]
  rfl
theorem nx_quote (h : a < l.length) (hc : bt l a = 34) : nextItem (l.drop a) = match qscan (l.drop (a + 1)) with | some x => ⟨3, x.1, x.2 + 1⟩ | none => ⟨0, [], 1⟩ := by
  obtain ⟨c, h1, h2⟩ := drop_cons l a h
  have hn : ¬ NumAt l a := by
    rintro (hd | ⟨hd, _⟩)
    · rw [hc] at hd; cases hd
    · omega
  rw [h2, nextItem, h1, num_not hn, hc]
  rfl
theorem nx_other (h : a < l.length) (hl : isLetter (bt l a) = false) (hn : ¬ NumAt l a) (hs : isSignC (bt l a) = false) (hq : ¬ bt l a = 34) : nextItem (l.drop a) = ⟨0, [], 1⟩ := by
  obtain ⟨c, h1, h2⟩ := drop_cons l a h
  rw [h2, nextItem, h1, hl, num_not hn, hs, if_neg (by simp), if_neg (by simp), if_neg (by simp), if_neg hq]
end
theorem infoTok : (Tryz.prog.info? 171).map (·.size) = some 3 := by kernel_rfl
def tokZero : Array Value := #[.int .i64 0, .string ⟨#[]⟩, .int .i64 0]
theorem tok_one (k : Int) (t : List UInt8) (x : Int) : ∀ v ∈ (#[.int .i64 k, .string (bs t), .int .i64 x] : Array Value).toList, v.oneCell' = true := by
  intro v hv
  simp at hv
  rcases hv with rfl | rfl | rfl <;> rfl
/-- What next returns at offset a, for the item i. -/
def NRet (i : Item) (a : Nat) (w : World) (e : Ending) (w' : World) : Prop := e = .returned (.tuple #[tokVal (tokOf i a), .int .i64 ((a + i.len : Nat) : Int)]) ∧ Below w.heap.size w w'
/-- The end of next: the result lies in a block of its own. -/
theorem next_end {fn : Func} {i : Item} {a : Nat} {w w' : World} {ac : Act} {g : Nat} {cs : Array Value} {p u : Tmp} (hf : fn.results = #[.cell p 171, .tmp u]) (hd : ac.defers = []) (hp : ac.tmps.getD p undef = .pointer (some ⟨g, 0, none⟩))
    (hu : ac.tmps.getD u undef = .int .i64 ((a + i.len : Nat) : Int)) (hb : Blk w' g 171 cs) (hcs : Value.agg cs = tokVal (tokOf i a)) (hsz : cs.size = 3) (hbl : Below w.heap.size w w') :
    bodyPost Tryz.prog fn (NRet i a w) .ret ac w' := by
  refine bodyPost_ret (v := .tuple #[tokVal (tokOf i a), .int .i64 ((a + i.len : Nat) : Int)]) ?_ hd ⟨rfl, hbl⟩
  rw [results_cell_tmp hf, hp, hu]
  have hl := run_loadVar_row (P := Tryz.prog) w' g 171 171 cs (0, 0) _ hb Tryz.underlying171 rfl (by rw [hsz]; exact infoTok)
  simp [asAddr, hl, hcs, Result.andThen]
/-- The zero token's block behind draws and a call. -/
theorem tokBlk {w w1 : World} {q : Nat} {cs : Array Value} (hb : Below ((w.alloc (.cells cs 171)).drewN q).heap.size ((w.alloc (.cells cs 171)).drewN q) w1) : Blk w1 w.heap.size 171 cs ∧ Below w.heap.size w w1 := by
  refine ⟨(Blk.drewN (Blk.new w 171 cs) q).below hb (by simp), ?_⟩
  have h1 : Below w.heap.size w ((w.alloc (.cells cs 171)).drewN q) := by
    have h2 := (Below.refl w.heap.size w).alloc (Nat.le_refl _) (.cells cs 171)
    exact h2.trans ((below_drewNg _ q).mono (by simp))
  exact h1.trans (hb.mono (by simp))
set_option maxHeartbeats 2000000 in
set_option maxRecDepth 100000 in
theorem next_letter (g : Nat) (A : Option Addr) (n c : Nat) (l : List UInt8) (a : Nat) (w : World) (h : Scn w g A n c l a) (ha : a < n) (hn : n ≤ 70000) (hlet : isLetter (bt l a) = true) :
    Calls Tryz.prog 168 #[.pointer (some ⟨g, 0, none⟩)] w (NRet (nextItem (l.drop a)) a w) := by
  have hlen := h.blen
  have hcap := h.rd.cap
  have hbig := h.rd.big
  have hg : g < w.heap.size := h.blk.lt
  have hs := h.src
  have hp := h.pos
  obtain ⟨b, off, rfl, hb, hc⟩ := h.rd.byte (k := a) ha
  have hbw : b < w.heap.size := by omega
  subst hlen
  have HI := Lib.hid (nx_letter ha hlet)
  have hr := run_first ha (inner_iff.2 (.inl (cls_letter.2 hlet)))
  have hrl := runLen_le (l.drop (a + 1))
  rw [List.length_drop] at hrl
  have e2 : clsAt l a = 2 := (clsAt_in ha).trans (cls_letter.2 hlet)
  clear hlet
  generalize hrr : runLen (l.drop a) = r at *
  have Hrr := Lib.hid hrr
  have hr1 : 1 ≤ r := by omega
  have hr2 : r ≤ l.length - a := by omega
  clear hrr hr hrl
  go_enter Tryz.func168, Tryz.ntmps168
  go_wp2
  go_quiet (fail)
  go_wp2_with (first
    | (go_at_call 167; refine (class_any g _ _ _ l a _ _ ((h.alloc _).drewN _) (by omega) (by omega)).mono ?_; rintro e w' ⟨rfl, nq1, rfl⟩)
    | (go_at_call 202; refine (run_any g _ _ _ l a _ _ ((h.alloc _).drewN _) (by omega) (by omega)).mono ?_; rw [Int.toNat_natCast, Hrr.out]; rintro e w' ⟨rfl, nq2, rfl⟩)
    | (go_at_call 203; refine (take_any g _ _ _ l a _ _ _ ((h.alloc _).drewN _) (by omega) (by omega)).mono ?_; rintro e w1 ⟨rfl, hb1⟩)
    | refine wpList_store_row rfl 171 (.tmp 2) (.tmp 35) rfl _ rfl #[.int .i64 1, .string (bs ((l.drop a).take (((a : Int) + (r : Int)).toNat - a))), .int .i64 a] tokZero rfl 171 (tokBlk hb1).1 rfl infoTok (tok_one _ _ _) ?_)
  rw [HI.out]
  refine next_end rfl rfl rfl rfl (Blk.setRow (tokBlk hb1).1 _) ?_ rfl (Below.setRow (tokBlk hb1).2 (Nat.le_refl _) _)
  simp [tokVal, tokOf]
end Go.Proofs.YticpjdjdimpglaaGreatDoor
