/- The reference's count and Few by their contracts. -/
import Derived.Test.YticpjdjdimpglaaGreatDoorCCpaMTRow
import Derived.Test.YticpjdjdimpglaaGreatDoorCCpaMWText3
namespace Go.Proofs.YticpjdjdimpglaaGreatDoor
set_option linter.unusedVariables false
set_option linter.unusedSimpArgs false
open Go.RowKit
def sumC (l : List CT) : Nat := (l.map fun x => x.ps.cnt + 1).sum
theorem sumC_toL : ∀ F : CF, sumC F.toL = F.cnt
  | .nil => rfl
  | .cons k v n ps r => by
    have := sumC_toL r
    unfold sumC at this ⊢
    rw [CF.toL, List.map_cons, List.sum_cons, this, CF.cnt]
theorem sumC_app (l m : List CT) : sumC (l ++ m) = sumC l + sumC m := by simp [sumC]
theorem sumC_take {l : List CT} {i : Nat} {x : CT} (h : l[i]? = some x) : sumC (l.take (i + 1)) = sumC (l.take i) + (x.ps.cnt + 1) := by
  rw [List.take_add_one, h, sumC_app]
  rfl
theorem dep_all : ∀ (F : CF) (k : Nat), (∀ x ∈ F.toL, x.ps.dep + 1 ≤ k) → F.dep ≤ k
  | .nil, _, _ => Nat.zero_le _
  | .cons k v n ps r, j, h => by
    have h1 := h ⟨k, v, n, ps⟩ (by simp [CF.toL])
    have h2 := dep_all r j fun x hx => h x (by rw [CF.toL]; exact List.mem_cons_of_mem _ hx)
    rw [CF.dep]
    simp only at h1
    omega
/-- The contract of count for conditions of a size. -/
def CNT (N : Nat) : Prop := ∀ (S : Nat → Prop) (c : CT) (A : Option Addr) (m d : Nat) (dp most : Int) (w : World), c.ps.cnt < N → 0 ≤ most → most ≤ 1000000 → -10 ≤ dp → dp ≤ 1000 → RepH S w c.ps A m d →
  Calls Tryz.prog 40 #[cV c A m d, .int .i64 dp, .int .i64 most] w fun e w' => Below w.heap.size w w' ∧ ∃ r : Int, e = .returned (.int .i64 r) ∧ 1 ≤ r ∧ r ≤ most + 1 ∧ (r ≤ most → r = c.ps.cnt + 1 ∧ (c.ps.dep : Int) + 1 ≤ dp)
set_option maxHeartbeats 8000000 in
set_option maxRecDepth 100000 in
theorem cnt_of (N : Nat) (ih : CNT N) : CNT (N + 1) := by
  intro S c A m d dp most w hN hm0 hm1 hd0 hd1 h
  have HI := Lib.hid ih
  have HR := Lib.hid h
  have HN := Lib.hid hN
  have HL := Lib.hid (h.len.trans (toL_len c.ps).symm)
  have hcap := h.choose_spec.1.cap
  have hbig := h.choose_spec.1.big
  clear ih h hN
  obtain ⟨k, v, n, ps⟩ := c
  unfold cV
  dsimp only [vi]
  dsimp only at HR HN HL ⊢
  go_enter Tryz.func40, Tryz.ntmps40
  by_cases hd : dp ≤ 0
  · go_wp2_with (fail)
    first | (refine calls_named ?_; intro W hW) | (refine body_named ?_; intro W hW) | (refine wpList_named ?_; intro W hW) | (refine wp_named ?_; intro W hW)
    have hb : Below w.heap.size w W := by rw [← hW]; exact (Below.refl _ _).alloc (Nat.le_refl _) _
    clear hW
    go_ret
    exact ⟨hb, most + 1, rfl, by omega, by omega, fun h => by omega⟩
  · have HD := Lib.hid hd
    go_wp2_with (fail)
    have hx0 : Blk (w.alloc (.cells #[.int .i64 k, .int .i64 v, .int .i64 n, .slice A m d] 24)) w.heap.size 24 #[.int .i64 k, .int .i64 v, .int .i64 n, .slice A m d] := Blk.new _ _ _
    have hb0 : Below w.heap.size w (w.alloc (.cells #[.int .i64 k, .int .i64 v, .int .i64 n, .slice A m d] 24)) := (Below.refl _ _).alloc (Nat.le_refl _) _
    generalize w.alloc (.cells #[.int .i64 k, .int .i64 v, .int .i64 n, .slice A m d] 24) = w0 at hx0 hb0 ⊢
    have HX := Lib.hid hx0
    have HB0 := Lib.hid hb0
    clear hx0 hb0
    go_loopw [7, 8] (fun s q wr => ∃ (i : Nat) (nn : Int), i ≤ m ∧ q = .int .i64 i ∧ s = .int .i64 nn ∧ 1 ≤ nn ∧ nn ≤ most + 1 ∧ Hid (nn ≤ most → nn = 1 + sumC (ps.toL.take i) ∧ ∀ x ∈ ps.toL.take i, (x.ps.dep : Int) + 1 ≤ dp - 1) ∧ Hid (Below w0.heap.size w0 wr)) (fun _ q _ => m - (intOf q).toNat)
    case atStart => exact ⟨0, 1, Nat.zero_le _, rfl, rfl, by omega, by omega, fun _ => ⟨rfl, fun x hx => by cases hx⟩, Below.refl _ _⟩
    case round =>
      obtain ⟨i, nn, him, rfl, rfl, hn1, hn2, HC, HB⟩ := hrel
      have hx := HX.out.below HB.out HX.out.lt
      have x3 := hx.cell 3
      have xl := hx.lt
      have HBw := Lib.hid (HB0.out.trans (HB.out.mono HB0.out.size))
      clear hx
      by_cases hlt : i < m
      · obtain ⟨b, off, x, B, n1, e1, rfl, hb, hSb, hx, g0, g1, g2, g3, hr⟩ := HR.out.elem hlt
        rw [← HBw.out.cell (p := ⟨b, _, none⟩) hb] at g0 g1 g2 g3
        have hbl : b < wr.heap.size := Nat.lt_of_lt_of_le hb HBw.out.size
        have HTK := Lib.hid (sumC_take hx)
        have HTE := Lib.hid (show ps.toL.take (i + 1) = ps.toL.take i ++ [x] by rw [List.take_add_one, hx]; rfl)
        have HXC := Lib.hid (show x.ps.cnt < N by
          obtain ⟨a1, a2⟩ := List.getElem?_eq_some_iff.1 hx
          have h1 : sumC (ps.toL.take (i + 1)) ≤ ps.cnt := by
            rw [← sumC_toL ps]
            conv => rhs; rw [← List.take_append_drop (i + 1) ps.toL, sumC_app]
            exact Nat.le_add_right _ _
          rw [sumC_take hx] at h1
          have := HN.out
          omega)
        have HRx := Lib.hid hr
        clear hx hr hSb
        have hi2 : (i : Int) < (m : Int) := by omega
        by_cases hmn : nn ≤ most
        · go_wp2_with (fail)
          refine (HI.out S x B n1 e1 (dp - 1) (most - nn) wr HXC.out (by omega) (by omega) (by omega) (by omega) (HRx.out.below HBw.out)).mono ?_
          rintro e w2 ⟨hb2, r, rfl, hr1, hr2, hr3⟩
          have HC2 := Lib.hid (show nn + r ≤ most → nn + r = 1 + sumC (ps.toL.take (i + 1)) ∧ ∀ x ∈ ps.toL.take (i + 1), (x.ps.dep : Int) + 1 ≤ dp - 1 from fun hle => by
            obtain ⟨h1, h2⟩ := hr3 (by omega)
            obtain ⟨h3, h4⟩ := HC.out hmn
            refine ⟨by rw [HTK.out]; omega, fun y hy => ?_⟩
            rw [HTE.out] at hy
            rcases List.mem_append.1 hy with hy | hy
            · exact h4 y hy
            · rw [List.mem_singleton.1 hy]; exact h2)
          have HB2 := Lib.hid (HB.out.trans (hb2.mono HB.out.size))
          clear hb2 g0 g1 g2 g3 x3 xl hr3
          go_wp2_with (fail)
          go_roundw
          case rel => exact ⟨i + 1, nn + r, hlt, by go_num, rfl, by omega, by omega, HC2.out, HB2.out⟩
          case measure => simp [intOf]; omega
        · go_wp2_with (fail)
          go_ret
          exact ⟨HBw.out, nn, rfl, hn1, hn2, fun h => by omega⟩
      · obtain rfl : i = m := by omega
        have hjj : ¬ (i : Int) < (i : Int) := by omega
        have HC2 := Lib.hid (show nn ≤ most → nn = ps.cnt + 1 ∧ (ps.dep : Int) + 1 ≤ dp from fun hle => by
          obtain ⟨h1, h2⟩ := HC.out hle
          rw [List.take_of_length_le (by rw [← HL.out]; exact Nat.le_refl _)] at h1 h2
          rw [sumC_toL] at h1
          have h3 := dep_all ps (dp - 1).toNat fun x hx => by have := h2 x hx; omega
          have := HD.out
          omega)
        go_wp2_with (fail)
        go_ret
        exact ⟨HBw.out, nn, rfl, hn1, hn2, HC2.out⟩
theorem cnt_all : ∀ N, CNT N
  | 0 => fun _ _ _ _ _ _ _ _ h => absurd h (by omega)
  | N + 1 => cnt_of N (cnt_all N)
/-- Few enough for the statements. -/
def Few60 (c : CT) : Prop := c.ps.cnt + 1 ≤ 60 ∧ c.ps.dep + 1 ≤ 40
set_option maxHeartbeats 4000000 in
set_option maxRecDepth 100000 in
theorem few_any (S : Nat → Prop) (c : CT) (A : Option Addr) (m d : Nat) (w : World) (h : RepH S w c.ps A m d) : Calls Tryz.prog 11 #[cV c A m d] w fun e w' => Below w.heap.size w w' ∧ ∃ b : Bool, e = .returned (.bool b) ∧ (b = true → Few60 c) := by
  have HI := Lib.hid (fun W (hW : Below w.heap.size w W) => cnt_all (c.ps.cnt + 1) S c A m d 40 60 W (Nat.lt_succ_self _) (by omega) (by omega) (by omega) (by omega) (h.below hW))
  clear h
  unfold cV at HI ⊢
  dsimp only [vi] at HI ⊢
  go_enter Tryz.func11, Tryz.ntmps11
  go_wp2_with (fail)
  first | (refine calls_named ?_; intro W hW) | (refine body_named ?_; intro W hW) | (refine wpList_named ?_; intro W hW) | (refine wp_named ?_; intro W hW)
  have hb : Below w.heap.size w W := by rw [← hW]; exact (Below.refl _ _).alloc (Nat.le_refl _) _
  clear hW
  refine (HI.out W hb).mono ?_
  rintro e w2 ⟨hb2, r, rfl, -, -, hr⟩
  have HB2 := Lib.hid (hb.trans (hb2.mono hb.size))
  clear hb hb2
  go_wp2_with (fail)
  go_ret
  exact ⟨HB2.out, decide (r ≤ 60), rfl, fun hd => by
    have h1 := of_decide_eq_true hd
    obtain ⟨h2, h3⟩ := hr h1
    exact ⟨by omega, by omega⟩⟩
end Go.Proofs.YticpjdjdimpglaaGreatDoor
/- The reference's countSteps and FewSteps by their contracts. -/
namespace Go.Proofs.YticpjdjdimpglaaGreatDoor
set_option linter.unusedVariables false
set_option linter.unusedSimpArgs false
open Go.RowKit
end Go.Proofs.YticpjdjdimpglaaGreatDoor
