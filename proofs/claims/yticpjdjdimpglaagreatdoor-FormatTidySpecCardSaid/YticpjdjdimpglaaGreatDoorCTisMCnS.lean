/- The reference's count and Few by their contracts. -/
import Derived.Test.YticpjdjdimpglaaGreatDoorCTisMTRow
import Derived.Test.YticpjdjdimpglaaGreatDoorCTisMWText3
namespace Go.Proofs.YticpjdjdimpglaaGreatDoor
set_option linter.unusedVariables false
set_option linter.unusedSimpArgs false
open Go.RowKit
def sumC (l : List CT) : Nat := (l.map fun x => x.ps.cnt + 1).sum
theorem sumC_toL : ∀ F : CF, sumC F.toL = F.cnt
  | .nil => rfl
  | .cons k v n ps r => by
    have := sumC_toL r
    unfold sumC at this ⊢
    rw [CF.toL, List.map_cons, List.sum_cons, this, CF.cnt]
theorem sumC_app (l m : List CT) : sumC (l ++ m) = sumC l + sumC m := by simp [sumC]
theorem sumC_take {l : List CT} {i : Nat} {x : CT} (h : l[i]? = some x) : sumC (l.take (i + 1)) = sumC (l.take i) + (x.ps.cnt + 1) := by
  rw [List.take_add_one, h, sumC_app]
  rfl
theorem dep_all : ∀ (F : CF) (k : Nat), (∀ x ∈ F.toL, x.ps.dep + 1 ≤ k) → F.dep ≤ k
  | .nil, _, _ => Nat.zero_le _
  | .cons k v n ps r, j, h => by
    have h1 := h ⟨k, v, n, ps⟩ (by simp [CF.toL])
    have h2 := dep_all r j fun x hx => h x (by rw [CF.toL]; exact List.mem_cons_of_mem _ hx)
    rw [CF.dep]
    simp only at h1
    omega
/-- The contract of count for conditions of a size. -/
def CNT (N : Nat) : Prop := ∀ (S : Nat → Prop) (c : CT) (A : Option Addr) (m d : Nat) (dp most : Int) (w : World), c.ps.cnt < N → 0 ≤ most → most ≤ 1000000 → -10 ≤ dp → dp ≤ 1000 → RepH S w c.ps A m d →
  Calls Tryz.prog 40 #[cV c A m d, .int .i64 dp, .int .i64 most] w fun e w' => Below w.heap.size w w' ∧ ∃ r : Int, e = .returned (.int .i64 r) ∧ 1 ≤ r ∧ r ≤ most + 1 ∧ (r ≤ most → r = c.ps.cnt + 1 ∧ (c.ps.dep : Int) + 1 ≤ dp)
set_option maxHeartbeats 8000000 in
set_option maxRecDepth 100000 in
theorem cnt_of (N : Nat) (ih : CNT N) : CNT (N + 1) := by
  intro S c A m d dp most w hN hm0 hm1 hd0 hd1 h
  have HI := Lib.hid ih
  have HR := Lib.hid h
  have HN := Lib.hid hN
  have HL := Lib.hid (h.len.trans (toL_len c.ps).symm)
  have hcap := h.choose_spec.1.cap
  have hbig := h.choose_spec.1.big
  clear ih h hN
  obtain ⟨k, v, n, ps⟩ := c
  unfold cV
  dsimp only [vi]
  dsimp only at HR HN HL ⊢
  go_enter Tryz.func40, Tryz.ntmps40
  by_cases hd : dp ≤ 0
  · go_wp2_with (fail)
    first | (refine calls_named ?_; intro W hW) | (refine body_named ?_; intro W hW) | (refine wpList_named ?_; intro W hW) | (refine wp_named ?_; intro W hW)
    have hb : Below w.heap.size w W := by rw [← hW]; exact (Below.refl _ _).alloc (Nat.le_refl _) _
    clear hW
    go_ret
    exact ⟨hb, most + 1, rfl, by omega, by omega, fun h => by omega⟩
  · have HD := Lib.hid hd
    go_wp2_with (fail)
    have hx0 : Blk (w.alloc (.cells #[.int .i64 k, .int .i64 v, .int .i64 n, .slice A m d] 24)) w.heap.size 24 #[.int .i64 k, .int .i64 v, .int .i64 n, .slice A m d] := Blk.new _ _ _
    have hb0 : Below w.heap.size w (w.alloc (.cells #[.int .i64 k, .int .i64 v, .int .i64 n, .slice A m d] 24)) := (Below.refl _ _).alloc (Nat.le_refl _) _
    generalize w.alloc (.cells #[.int .i64 k, .int .i64 v, .int .i64 n, .slice A m d] 24) = w0 at hx0 hb0 ⊢
    have HX := Lib.hid hx0
    have HB0 := Lib.hid hb0
    clear hx0 hb0
    go_loopw [7, 8] (fun s q wr => ∃ (i : Nat) (nn : Int), i ≤ m ∧ q = .int .i64 i ∧ s = .int .i64 nn ∧ 1 ≤ nn ∧ nn ≤ most + 1 ∧ Hid (nn ≤ most → nn = 1 + sumC (ps.toL.take i) ∧ ∀ x ∈ ps.toL.take i, (x.ps.dep : Int) + 1 ≤ dp - 1) ∧ Hid (Below w0.heap.size w0 wr)) (fun _ q _ => m - (intOf q).toNat)
    case atStart => exact ⟨0, 1, Nat.zero_le _, rfl, rfl, by omega, by omega, fun _ => ⟨rfl, fun x hx => by cases hx⟩, Below.refl _ _⟩
    case round =>
      obtain ⟨i, nn, him, rfl, rfl, hn1, hn2, HC, HB⟩ := hrel
      have hx := HX.out.below HB.out HX.out.lt
      have x3 := hx.cell 3
      have xl := hx.lt
      have HBw := Lib.hid (HB0.out.trans (HB.out.mono HB0.out.size))
      clear hx
      by_cases hlt : i < m
      · obtain ⟨b, off, x, B, n1, e1, rfl, hb, hSb, hx, g0, g1, g2, g3, hr⟩ := HR.out.elem hlt
        rw [← HBw.out.cell (p := ⟨b, _, none⟩) hb] at g0 g1 g2 g3
        have hbl : b < wr.heap.size := Nat.lt_of_lt_of_le hb HBw.out.size
        have HTK := Lib.hid (sumC_take hx)
        have HTE := Lib.hid (show ps.toL.take (i + 1) = ps.toL.take i ++ [x] by rw [List.take_add_one, hx]; rfl)
        have HXC := Lib.hid (show x.ps.cnt < N by
          obtain ⟨a1, a2⟩ := List.getElem?_eq_some_iff.1 hx
          have h1 : sumC (ps.toL.take (i + 1)) ≤ ps.cnt := by
            rw [← sumC_toL ps]
            conv => rhs; rw [← List.take_append_drop (i + 1) ps.toL, sumC_app]
            exact Nat.le_add_right _ _
          rw [sumC_take hx] at h1
          have := HN.out
          omega)
        have HRx := Lib.hid hr
        clear hx hr hSb
        have hi2 : (i : Int) < (m : Int) := by omega
        by_cases hmn : nn ≤ most
        · go_wp2_with (fail)
          refine (HI.out S x B n1 e1 (dp - 1) (most - nn) wr HXC.out (by omega) (by omega) (by omega) (by omega) (HRx.out.below HBw.out)).mono ?_
          rintro e w2 ⟨hb2, r, rfl, hr1, hr2, hr3⟩
          have HC2 := Lib.hid (show nn + r ≤ most → nn + r = 1 + sumC (ps.toL.take (i + 1)) ∧ ∀ x ∈ ps.toL.take (i + 1), (x.ps.dep : Int) + 1 ≤ dp - 1 from fun hle => by
            obtain ⟨h1, h2⟩ := hr3 (by omega)
            obtain ⟨h3, h4⟩ := HC.out hmn
            refine ⟨by rw [HTK.out]; omega, fun y hy => ?_⟩
            rw [HTE.out] at hy
            rcases List.mem_append.1 hy with hy | hy
            · exact h4 y hy
            · rw [List.mem_singleton.1 hy]; exact h2)
          have HB2 := Lib.hid (HB.out.trans (hb2.mono HB.out.size))
          clear hb2 g0 g1 g2 g3 x3 xl hr3
          go_wp2_with (fail)
          go_roundw
          case rel => exact ⟨i + 1, nn + r, hlt, by go_num, rfl, by omega, by omega, HC2.out, HB2.out⟩
          case measure => simp [intOf]; omega
        · go_wp2_with (fail)
          go_ret
          exact ⟨HBw.out, nn, rfl, hn1, hn2, fun h => by omega⟩
      · obtain rfl : i = m := by omega
        have hjj : ¬ (i : Int) < (i : Int) := by omega
        have HC2 := Lib.hid (show nn ≤ most → nn = ps.cnt + 1 ∧ (ps.dep : Int) + 1 ≤ dp from fun hle => by
          obtain ⟨h1, h2⟩ := HC.out hle
          rw [List.take_of_length_le (by rw [← HL.out]; exact Nat.le_refl _)] at h1 h2
          rw [sumC_toL] at h1
          have h3 := dep_all ps (dp - 1).toNat fun x hx => by have := h2 x hx; omega
          have := HD.out
          omega)
        go_wp2_with (fail)
        go_ret
        exact ⟨HBw.out, nn, rfl, hn1, hn2, HC2.out⟩
theorem cnt_all : ∀ N, CNT N
  | 0 => fun _ _ _ _ _ _ _ _ h => absurd h (by omega)
  | N + 1 => cnt_of N (cnt_all N)
/-- Few enough for the statements. -/
def Few60 (c : CT) : Prop := c.ps.cnt + 1 ≤ 60 ∧ c.ps.dep + 1 ≤ 40
set_option maxHeartbeats 4000000 in
set_option maxRecDepth 100000 in
theorem few_any (S : Nat → Prop) (c : CT) (A : Option Addr) (m d : Nat) (w : World) (h : RepH S w c.ps A m d) : Calls Tryz.prog 11 #[cV c A m d] w fun e w' => Below w.heap.size w w' ∧ ∃ b : Bool, e = .returned (.bool b) ∧ (b = true → Few60 c) := by
  have HI := Lib.hid (fun W (hW : Below w.heap.size w W) => cnt_all (c.ps.cnt + 1) S c A m d 40 60 W (Nat.lt_succ_self _) (by omega) (by omega) (by omega) (by omega) (h.below hW))
  clear h
  unfold cV at HI ⊢
  dsimp only [vi] at HI ⊢
  go_enter Tryz.func11, Tryz.ntmps11
  go_wp2_with (fail)
  first | (refine calls_named ?_; intro W hW) | (refine body_named ?_; intro W hW) | (refine wpList_named ?_; intro W hW) | (refine wp_named ?_; intro W hW)
  have hb : Below w.heap.size w W := by rw [← hW]; exact (Below.refl _ _).alloc (Nat.le_refl _) _
  clear hW
  refine (HI.out W hb).mono ?_
  rintro e w2 ⟨hb2, r, rfl, -, -, hr⟩
  have HB2 := Lib.hid (hb.trans (hb2.mono hb.size))
  clear hb hb2
  go_wp2_with (fail)
  go_ret
  exact ⟨HB2.out, decide (r ≤ 60), rfl, fun hd => by
    have h1 := of_decide_eq_true hd
    obtain ⟨h2, h3⟩ := hr h1
    exact ⟨by omega, by omega⟩⟩
end Go.Proofs.YticpjdjdimpglaaGreatDoor
/- The reference's countSteps and FewSteps by their contracts. -/
namespace Go.Proofs.YticpjdjdimpglaaGreatDoor
set_option linter.unusedVariables false
set_option linter.unusedSimpArgs false
open Go.RowKit
def sumS (l : List ST) : Nat := (l.map fun x => x.c.ps.cnt + 2 + x.th.sz + x.el.sz).sum
theorem sumS_toL : ∀ F : SF, sumS F.toL = F.sz
  | .nil => rfl
  | .cons k b ck cv cn cps th el r => by
    have := sumS_toL r
    unfold sumS at this ⊢
    rw [SF.toL, List.map_cons, List.sum_cons, this, SF.sz]
theorem sumS_app (l m : List ST) : sumS (l ++ m) = sumS l + sumS m := by simp [sumS]
theorem sumS_take {l : List ST} {i : Nat} {x : ST} (h : l[i]? = some x) : sumS (l.take (i + 1)) = sumS (l.take i) + (x.c.ps.cnt + 2 + x.th.sz + x.el.sz) := by
  rw [List.take_add_one, h, sumS_app]
  rfl
/-- Within the depths. -/
def DOk (dp : Int) (x : ST) : Prop := (x.c.ps.dep : Int) + 1 ≤ 40 ∧ (x.th.dep : Int) + 1 ≤ dp - 1 ∧ x.th.cdep ≤ 40 ∧ (x.el.dep : Int) + 1 ≤ dp - 1 ∧ x.el.cdep ≤ 40
theorem dok_all : ∀ (F : SF) (dp : Int), 1 ≤ dp → (∀ x ∈ F.toL, DOk dp x) → (F.dep : Int) + 1 ≤ dp ∧ F.cdep ≤ 40
  | .nil, dp, h0, _ => by simp only [SF.dep, SF.cdep]; omega
  | .cons k b ck cv cn cps th el r, dp, h0, h => by
    obtain ⟨h1, h2, h3, h4, h5⟩ := h ⟨k, b, ⟨ck, cv, cn, cps⟩, th, el⟩ (by simp [SF.toL])
    obtain ⟨h6, h7⟩ := dok_all r dp h0 fun x hx => h x (by rw [SF.toL]; exact List.mem_cons_of_mem _ hx)
    simp only at h1 h2 h3 h4 h5
    rw [SF.dep, SF.cdep]
    omega
/-- The contract of countSteps for steps of a size. -/
def CNS (N : Nat) : Prop := ∀ (S : Nat → Prop) (F : SF) (A : Option Addr) (m d : Nat) (dp most : Int) (w : World), F.sz < N → 0 ≤ most → most ≤ 1000000 → -10 ≤ dp → dp ≤ 1000 → RepT S w F A m d →
  Calls Tryz.prog 62 #[.slice A m d, .int .i64 dp, .int .i64 most] w fun e w' => Below w.heap.size w w' ∧ ∃ r : Int, e = .returned (.int .i64 r) ∧ 0 ≤ r ∧ r ≤ 2 * most + 2 ∧ (r ≤ most → r = F.sz ∧ (F.dep : Int) + 1 ≤ dp ∧ F.cdep ≤ 40)
set_option maxHeartbeats 8000000 in
set_option maxRecDepth 100000 in
theorem cns_of (N : Nat) (ih : CNS N) : CNS (N + 1) := by
  intro S F A m d dp most w hN hm0 hm1 hd0 hd1 h
  have HI := Lib.hid ih
  have HR := Lib.hid h
  have HN := Lib.hid hN
  have HL := Lib.hid (h.len.trans (stoL_len F).symm)
  have hcap := h.choose_spec.1.cap
  have hbig := h.choose_spec.1.big
  clear ih h hN
  go_enter Tryz.func62, Tryz.ntmps62
  by_cases hd : dp ≤ 0
  · go_wp2_with (fail)
    go_ret
    exact ⟨Below.refl _ _, most + 1, rfl, by omega, by omega, fun h => by omega⟩
  · have HD := Lib.hid hd
    go_wp2_with (fail)
    go_loopw [7, 8] (fun s q wr => ∃ (i : Nat) (nn : Int), i ≤ m ∧ q = .int .i64 i ∧ s = .int .i64 nn ∧ 0 ≤ nn ∧ nn ≤ 2 * most + 2 ∧ Hid (nn ≤ most → nn = sumS (F.toL.take i) ∧ ∀ x ∈ F.toL.take i, DOk dp x) ∧ Hid (Below w.heap.size w wr)) (fun _ q _ => m - (intOf q).toNat)
    case atStart => exact ⟨0, 0, Nat.zero_le _, rfl, rfl, by omega, by omega, fun _ => ⟨rfl, fun x hx => by cases hx⟩, Below.refl _ _⟩
    case round =>
      obtain ⟨i, nn, him, rfl, rfl, hn1, hn2, HC, HB⟩ := hrel
      by_cases hlt : i < m
      · obtain ⟨b, off, x, Bc, nc, ec, B1, n1, e1, B2, n2, e2, rfl, hb, hSb, hx, ⟨g0, g1, g2, g3, g4, g5, g6, g7⟩, k1, k2, k3⟩ := HR.out.elem hlt
        rw [← HB.out.cell (p := ⟨b, _, none⟩) hb] at g0 g1 g2 g3 g4 g5 g6 g7
        have hbl : b < wr.heap.size := Nat.lt_of_lt_of_le hb HB.out.size
        have HTK := Lib.hid (sumS_take hx)
        have HTE := Lib.hid (show F.toL.take (i + 1) = F.toL.take i ++ [x] by rw [List.take_add_one, hx]; rfl)
        have HXC := Lib.hid (show x.th.sz < N ∧ x.el.sz < N by
          obtain ⟨a1, a2⟩ := List.getElem?_eq_some_iff.1 hx
          have h1 : sumS (F.toL.take (i + 1)) ≤ F.sz := by
            rw [← sumS_toL F]
            conv => rhs; rw [← List.take_append_drop (i + 1) F.toL, sumS_app]
            exact Nat.le_add_right _ _
          rw [sumS_take hx] at h1
          have := HN.out
          omega)
        have HC1 := Lib.hid k1
        have HC2 := Lib.hid k2
        have HC3 := Lib.hid k3
        clear hx k1 k2 k3 hSb
        have hi2 : (i : Int) < (m : Int) := by omega
        by_cases hmn : nn ≤ most
        · go_wp2_with (fail)
          refine (cnt_all (x.c.ps.cnt + 1) S x.c Bc nc ec 40 most wr (Nat.lt_succ_self _) (by omega) (by omega) (by omega) (by omega) (HC1.out.below HB.out)).mono ?_
          rintro e w2 ⟨hb2, r1, rfl, hr1, hr2, hr3⟩
          have HB2 := Lib.hid (HB.out.trans (hb2.mono HB.out.size))
          rw [← hb2.cell (p := ⟨b, _, none⟩) hbl] at g6 g7
          have hbl2 : b < w2.heap.size := Nat.lt_of_lt_of_le hbl hb2.size
          have HR1 := Lib.hid hr3
          clear hb2 g0 g1 g2 g3 g4 g5 hr3 hbl
          obtain ⟨n1', hn1'⟩ : ∃ q : Int, q = nn + 1 + r1 := ⟨_, rfl⟩
          have hw1 : IntKind.i64.wrap (nn + 1) = nn + 1 := wrapI (by omega)
          by_cases hm1' : nn + 1 + r1 ≤ most
          · go_wp2_with (fail)
            refine (HI.out S x.th B1 n1 e1 (dp - 1) (most - (nn + 1 + r1)) w2 HXC.out.1 (by omega) (by omega) (by omega) (by omega) (HC2.out.below HB2.out)).mono ?_
            rintro e w3 ⟨hb3, r2, rfl, hs1, hs2, hs3⟩
            have HB3 := Lib.hid (HB2.out.trans (hb3.mono HB2.out.size))
            rw [← hb3.cell (p := ⟨b, _, none⟩) hbl2] at g7
            have hbl3 : b < w3.heap.size := Nat.lt_of_lt_of_le hbl2 hb3.size
            have HR2 := Lib.hid hs3
            clear hb3 g6 hs3 hbl2
            by_cases hm2' : nn + 1 + r1 + r2 ≤ most
            · go_wp2_with (fail)
              refine (HI.out S x.el B2 n2 e2 (dp - 1) (most - (nn + 1 + r1 + r2)) w3 HXC.out.2 (by omega) (by omega) (by omega) (by omega) (HC3.out.below HB3.out)).mono ?_
              rintro e w4 ⟨hb4, r3, rfl, ht1, ht2, ht3⟩
              have HB4 := Lib.hid (HB3.out.trans (hb4.mono HB3.out.size))
              have HX := Lib.hid (show nn + 1 + r1 + r2 + r3 ≤ most → nn + 1 + r1 + r2 + r3 = sumS (F.toL.take (i + 1)) ∧ ∀ y ∈ F.toL.take (i + 1), DOk dp y from fun hle => by
                obtain ⟨a1, a2⟩ := HR1.out (by omega)
                obtain ⟨a3, a4, a5⟩ := HR2.out (by omega)
                obtain ⟨a6, a7, a8⟩ := ht3 (by omega)
                obtain ⟨a9, a10⟩ := HC.out hmn
                refine ⟨by rw [HTK.out]; omega, fun y hy => ?_⟩
                rw [HTE.out] at hy
                rcases List.mem_append.1 hy with hy | hy
                · exact a10 y hy
                · rw [List.mem_singleton.1 hy]; exact ⟨a2, a4, a5, a7, a8⟩)
              clear hb4 g7 hbl3 ht3
              go_wp2_with (fail)
              go_roundw
              case rel => exact ⟨i + 1, nn + 1 + r1 + r2 + r3, hlt, by go_num, rfl, by omega, by omega, HX.out, HB4.out⟩
              case measure => simp [intOf]; omega
            · clear g7 hbl3
              go_wp2_with (fail)
              go_roundw
              case rel => exact ⟨i + 1, nn + 1 + r1 + r2, hlt, by go_num, rfl, by omega, by omega, fun h => absurd h (by omega), HB3.out⟩
              case measure => simp [intOf]; omega
          · clear g6 g7 hbl2
            go_wp2_with (fail)
            go_roundw
            case rel => exact ⟨i + 1, nn + 1 + r1, hlt, by go_num, rfl, by omega, by omega, fun h => absurd h (by omega), HB2.out⟩
            case measure => simp [intOf]; omega
        · go_wp2_with (fail)
          go_ret
          exact ⟨HB.out, nn, rfl, hn1, hn2, fun h => by omega⟩
      · obtain rfl : i = m := by omega
        have hjj : ¬ (i : Int) < (i : Int) := by omega
        have HC2 := Lib.hid (show nn ≤ most → nn = F.sz ∧ (F.dep : Int) + 1 ≤ dp ∧ F.cdep ≤ 40 from fun hle => by
          obtain ⟨h1, h2⟩ := HC.out hle
          rw [List.take_of_length_le (by rw [← HL.out]; exact Nat.le_refl _)] at h1 h2
          rw [sumS_toL] at h1
          have h3 := dok_all F dp (by have := HD.out; omega) h2
          exact ⟨h1, h3.1, h3.2⟩)
        go_wp2_with (fail)
        go_ret
        exact ⟨HB.out, nn, rfl, hn1, hn2, HC2.out⟩
theorem cns_all : ∀ N, CNS N
  | 0 => fun _ _ _ _ _ _ _ _ h => absurd h (by omega)
  | N + 1 => cns_of N (cns_all N)
/-- Few enough for the statements. -/
def Few120 (F : SF) : Prop := F.sz ≤ 120 ∧ F.dep ≤ 39 ∧ F.cdep ≤ 40
set_option maxHeartbeats 4000000 in
set_option maxRecDepth 100000 in
theorem fewsteps_any (S : Nat → Prop) (F : SF) (A : Option Addr) (m d : Nat) (w : World) (h : RepT S w F A m d) : Calls Tryz.prog 19 #[.slice A m d] w fun e w' => Below w.heap.size w w' ∧ ∃ b : Bool, e = .returned (.bool b) ∧ (b = true → Few120 F) := by
  have HI := Lib.hid (cns_all (F.sz + 1) S F A m d 40 120 w (Nat.lt_succ_self _) (by omega) (by omega) (by omega) (by omega) h)
  clear h
  go_enter Tryz.func19, Tryz.ntmps19
  go_wp2_with (fail)
  refine HI.out.mono ?_
  rintro e w2 ⟨hb2, r, rfl, -, -, hr⟩
  have HB2 := Lib.hid hb2
  clear hb2
  go_wp2_with (fail)
  go_ret
  exact ⟨HB2.out, decide (r ≤ 120), rfl, fun hd => by
    have h1 := of_decide_eq_true hd
    obtain ⟨h2, h3, h4⟩ := hr h1
    exact ⟨by omega, by omega, h4⟩⟩
end Go.Proofs.YticpjdjdimpglaaGreatDoor
