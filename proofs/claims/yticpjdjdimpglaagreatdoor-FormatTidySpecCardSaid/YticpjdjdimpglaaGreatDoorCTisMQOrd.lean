/- The reference's typing of orders: zero, size, steps, Order by their contracts. -/
import Derived.Test.YticpjdjdimpglaaGreatDoorCTisMQCnd
import Derived.Test.YticpjdjdimpglaaGreatDoorCTisMCnS
namespace Go.Proofs.YticpjdjdimpglaaGreatDoor
set_option linter.unusedVariables false
set_option linter.unusedSimpArgs false
open Go.RowKit
set_option maxHeartbeats 4000000 in
set_option maxRecDepth 100000 in
theorem qzero_any (c : CT) (A : Option Addr) (m d : Nat) (w : World) (hm : c.ps.num = m) :
    Calls Tryz.prog 161 #[cV c A m d] w fun e w' => Below w.heap.size w w' ∧ e = .returned (.bool c.isZ) := by
  have HZ := Lib.hid (show c.isZ = (decide (c.k = 0 ∧ c.v = 0 ∧ c.n = 0) && m == 0) by unfold CT.isZ; rw [hm])
  clear hm
  generalize c.isZ = r at HZ ⊢
  obtain ⟨k, v, n, ps⟩ := c
  unfold cV
  dsimp only [vi] at HZ ⊢
  go_enter Tryz.func161, Tryz.ntmps161
  by_cases h1 : k = 0
  case neg =>
    have HR := Lib.hid (show r = false by rw [HZ.out, decide_eq_false (fun h => h1 h.1)]; rfl)
    have e1 : (k == 0) = false := by simpa using h1
    clear h1
    go_wp2_with (fail)
    first | (refine calls_named ?_; intro W hW) | (refine body_named ?_; intro W hW) | (refine wpList_named ?_; intro W hW) | (refine wp_named ?_; intro W hW)
    have hb : Below w.heap.size w W := by rw [← hW]; exact (Below.refl _ _).alloc (Nat.le_refl _) _
    clear hW
    go_ret
    exact ⟨hb, ret_boolQ HR.out.symm⟩
  by_cases h2 : v = 0
  case neg =>
    have HR := Lib.hid (show r = false by rw [HZ.out, decide_eq_false (fun h => h2 h.2.1)]; rfl)
    have e1 : (v == 0) = false := by simpa using h2
    clear h2
    subst h1
    go_wp2_with (fail)
    first | (refine calls_named ?_; intro W hW) | (refine body_named ?_; intro W hW) | (refine wpList_named ?_; intro W hW) | (refine wp_named ?_; intro W hW)
    have hb : Below w.heap.size w W := by rw [← hW]; exact (Below.refl _ _).alloc (Nat.le_refl _) _
    clear hW
    go_ret
    exact ⟨hb, ret_boolQ HR.out.symm⟩
  by_cases h3 : n = 0
  case neg =>
    have HR := Lib.hid (show r = false by rw [HZ.out, decide_eq_false (fun h => h3 h.2.2)]; rfl)
    have e1 : (n == 0) = false := by simpa using h3
    clear h3
    subst h1 h2
    go_wp2_with (fail)
    first | (refine calls_named ?_; intro W hW) | (refine body_named ?_; intro W hW) | (refine wpList_named ?_; intro W hW) | (refine wp_named ?_; intro W hW)
    have hb : Below w.heap.size w W := by rw [← hW]; exact (Below.refl _ _).alloc (Nat.le_refl _) _
    clear hW
    go_ret
    exact ⟨hb, ret_boolQ HR.out.symm⟩
  have HR := Lib.hid (show r = decide ((m : Int) = 0) by rw [HZ.out, decide_eq_true ⟨h1, h2, h3⟩, Bool.true_and]; by_cases hm : m = 0 <;> simp [hm])
  subst h1 h2 h3
  go_wp2_with (fail)
  first | (refine calls_named ?_; intro W hW) | (refine body_named ?_; intro W hW) | (refine wpList_named ?_; intro W hW) | (refine wp_named ?_; intro W hW)
  have hb : Below w.heap.size w W := by rw [← hW]; exact (Below.refl _ _).alloc (Nat.le_refl _) _
  clear hW
  go_ret
  exact ⟨hb, ret_boolQ (by rw [HR.out]; rfl)⟩
def zC (x : ST) : Nat := if x.c.isZ then 0 else x.c.ps.cnt + 1
def cSL (l : List ST) : Nat := (l.map fun x => x.th.cntS + x.el.cntS + 1).sum
def cCL (l : List ST) : Nat := (l.map fun x => zC x + x.th.cntC + x.el.cntC).sum
theorem cSL_toL : ∀ F : SF, cSL F.toL = F.cntS
  | .nil => rfl
  | .cons k b ck cv cn cps th el r => by
    have := cSL_toL r
    unfold cSL at this ⊢
    rw [SF.toL, List.map_cons, List.sum_cons, this, SF.cntS]
theorem cCL_toL : ∀ F : SF, cCL F.toL = F.cntC
  | .nil => rfl
  | .cons k b ck cv cn cps th el r => by
    have := cCL_toL r
    unfold cCL at this ⊢
    rw [SF.toL, List.map_cons, List.sum_cons, this, SF.cntC]
    rfl
theorem cSL_app (l m : List ST) : cSL (l ++ m) = cSL l + cSL m := by simp [cSL]
theorem cCL_app (l m : List ST) : cCL (l ++ m) = cCL l + cCL m := by simp [cCL]
theorem cSL_take {l : List ST} {i : Nat} {x : ST} (h : l[i]? = some x) : cSL (l.take (i + 1)) = cSL (l.take i) + (x.th.cntS + x.el.cntS + 1) := by
  rw [List.take_add_one, h, cSL_app]
  rfl
theorem cCL_take {l : List ST} {i : Nat} {x : ST} (h : l[i]? = some x) : cCL (l.take (i + 1)) = cCL (l.take i) + (zC x + x.th.cntC + x.el.cntC) := by
  rw [List.take_add_one, h, cCL_app]
  rfl
theorem cSL_le (l : List ST) (i : Nat) : cSL (l.take i) ≤ cSL l := by
  conv => rhs; rw [← List.take_append_drop i l, cSL_app]
  exact Nat.le_add_right _ _
theorem cCL_le (l : List ST) (i : Nat) : cCL (l.take i) ≤ cCL l := by
  conv => rhs; rw [← List.take_append_drop i l, cCL_app]
  exact Nat.le_add_right _ _
theorem sumS_le (l : List ST) (i : Nat) : sumS (l.take i) ≤ sumS l := by
  conv => rhs; rw [← List.take_append_drop i l, sumS_app]
  exact Nat.le_add_right _ _
/-- Within the depths. -/
def DQ (dp : Int) (x : ST) : Prop := dp + 1 + x.th.dep ≤ 17 ∧ dp + 1 + x.el.dep ≤ 17 ∧ x.c.ps.dep ≤ 16 ∧ x.th.cdep ≤ 17 ∧ x.el.cdep ≤ 17
theorem dq_all : ∀ (F : SF) (dp : Int), dp ≤ 17 → (∀ x ∈ F.toL, DQ dp x) → dp + F.dep ≤ 17 ∧ F.cdep ≤ 17
  | .nil, dp, h0, _ => by simp only [SF.dep, SF.cdep]; omega
  | .cons k b ck cv cn cps th el r, dp, h0, h => by
    obtain ⟨h1, h2, h3, h4, h5⟩ := h ⟨k, b, ⟨ck, cv, cn, cps⟩, th, el⟩ (by simp [SF.toL])
    obtain ⟨h6, h7⟩ := dq_all r dp h0 fun x hx => h x (by rw [SF.toL]; exact List.mem_cons_of_mem _ hx)
    simp only at h1 h2 h3 h4 h5
    rw [SF.dep, SF.cdep]
    omega
theorem dq_mem : ∀ {F : SF} {dp : Int}, dp + F.dep ≤ 17 → F.cdep ≤ 17 → ∀ x ∈ F.toL, DQ dp x
  | .cons k b ck cv cn cps th el r, dp, h1, h2, x, h => by
    rw [SF.dep] at h1
    rw [SF.cdep] at h2
    rw [SF.toL] at h
    rcases List.mem_cons.1 h with rfl | h
    · unfold DQ
      dsimp only
      omega
    · exact dq_mem (F := r) (by omega) (by omega) x h
theorem dep_pos {F : SF} (h : F.len ≠ 0) : 1 ≤ F.dep := by
  cases F with
  | nil => exact absurd rfl h
  | cons k b ck cv cn cps th el r => rw [SF.dep]; omega
theorem sz_pos {F : SF} (h : F.len ≠ 0) : 2 ≤ F.sz := by
  cases F with
  | nil => exact absurd rfl h
  | cons k b ck cv cn cps th el r => rw [SF.sz]; omega
theorem isZ_dep {c : CT} (h : c.isZ = true) : c.ps.dep = 0 := by
  unfold CT.isZ at h
  rw [Bool.and_eq_true] at h
  have h2 := h.2
  cases hp : c.ps with
  | nil => rfl
  | cons k v n ps r => rw [hp] at h2; simp [CF.num] at h2
/-- The contract of size for steps of a size. -/
def QSZ (N : Nat) : Prop := ∀ (S : Nat → Prop) (F : SF) (A : Option Addr) (m d : Nat) (dp : Int) (w : World), F.sz < N → F.sz ≤ 1000000 → 0 ≤ dp → dp ≤ 17 → RepT S w F A m d →
  Calls Tryz.prog 115 #[.slice A m d, .int .i64 dp] w fun e w' => Below w.heap.size w w' ∧ ∃ a b : Int, e = .returned (.tuple #[.int .i64 a, .int .i64 b]) ∧ 0 ≤ a ∧ a ≤ 1000 * F.sz ∧ 0 ≤ b ∧ b ≤ 1000 * F.sz ∧
    (a ≤ 64 ∧ b ≤ 256 → a = F.cntS ∧ b = F.cntC ∧ dp + F.dep ≤ 17 ∧ F.cdep ≤ 17) ∧ (F.cntS ≤ 64 → F.cntC ≤ 256 → dp + F.dep ≤ 17 → F.cdep ≤ 17 → a ≤ 64 ∧ b ≤ 256)
set_option maxHeartbeats 8000000 in
set_option maxRecDepth 100000 in
theorem qsz_of (N : Nat) (ih : QSZ N) : QSZ (N + 1) := by
  intro S F A m d dp w hN hz hd0 hd1 h
  have HI := Lib.hid ih
  have HR := Lib.hid h
  have HN := Lib.hid hN
  have HZ := Lib.hid hz
  have HM := Lib.hid h.len
  have HL := Lib.hid (h.len.trans (stoL_len F).symm)
  have hcap := h.choose_spec.1.cap
  have hbig := h.choose_spec.1.big
  clear ih h hN hz
  go_enter Tryz.func115, Tryz.ntmps115
  by_cases hmd : 0 < m ∧ 16 < dp
  · have hm0 : (0 : Int) < (m : Int) := by omega
    have hd2 := hmd.2
    have HMD := Lib.hid (show F.len ≠ 0 by have := HM.out; omega)
    clear hmd
    go_wp2_with (fail)
    go_ret2
    exact ⟨Below.refl _ _, 1000, 1000, rfl, by omega, by have := sz_pos HMD.out; omega, by omega, by have := sz_pos HMD.out; omega, fun h => by omega, fun _ _ h => by have := dep_pos HMD.out; omega⟩
  · have HMD := Lib.hid hmd
    have hdd : ¬ (0 : Int) < (m : Int) ∨ (0 : Int) < (m : Int) ∧ ¬ 16 < dp := by omega
    clear hmd
    rcases hdd with hm0 | ⟨hm0, hd2⟩
    · have hm1 : m = 0 := by omega
      subst hm1
      have HF0 := Lib.hid (show F = .nil by
        cases F with
        | nil => rfl
        | cons k b ck cv cn cps th el r => have h := HM.out; rw [SF.len] at h; omega)
      go_wp2_with (fail)
      go_loopw [6, 7, 8] (fun s t q wr => s = .int .i64 0 ∧ t = .int .i64 0 ∧ q = .int .i64 0 ∧ Hid (Below w.heap.size w wr)) (fun _ _ _ _ => 0)
      case atStart => exact ⟨rfl, rfl, rfl, Below.refl _ _⟩
      case round =>
        obtain ⟨rfl, rfl, rfl, HB⟩ := hrel
        go_wp2_with (fail)
        go_ret2
        refine ⟨HB.out, 0, 0, rfl, by omega, by omega, by omega, by omega, ?_, fun _ _ _ _ => ⟨by omega, by omega⟩⟩
        rw [HF0.out]
        intros
        refine ⟨rfl, rfl, ?_, ?_⟩
        · show dp + ((0 : Nat) : Int) ≤ 17; omega
        · show 0 ≤ 17; omega
    · go_wp2_with (fail)
      go_loopw [6, 7, 8] (fun s t q wr => ∃ (i : Nat) (st cd : Int), i ≤ m ∧ q = .int .i64 i ∧ s = .int .i64 st ∧ t = .int .i64 cd ∧ 0 ≤ st ∧ st ≤ 1000 * sumS (F.toL.take i) ∧ 0 ≤ cd ∧ cd ≤ 1000 * sumS (F.toL.take i) ∧
        Hid (st ≤ 64 ∧ cd ≤ 256 → st = cSL (F.toL.take i) ∧ cd = cCL (F.toL.take i) ∧ ∀ x ∈ F.toL.take i, DQ dp x) ∧ Hid (cSL (F.toL.take i) ≤ 64 → cCL (F.toL.take i) ≤ 256 → (∀ x ∈ F.toL.take i, DQ dp x) → st ≤ 64 ∧ cd ≤ 256) ∧ Hid (Below w.heap.size w wr)) (fun _ _ q _ => m - (intOf q).toNat)
      case atStart => exact ⟨0, 0, 0, Nat.zero_le _, rfl, rfl, rfl, by omega, by omega, by omega, by omega, fun _ => ⟨rfl, rfl, fun x hx => by cases hx⟩, fun _ _ _ => by omega, Below.refl _ _⟩
      case round =>
        obtain ⟨i, st, cd, him, rfl, rfl, rfl, hs1, hs2, hc1, hc2, HC, HE, HB⟩ := hrel
        have HSP := Lib.hid (show sumS (F.toL.take i) ≤ F.sz by rw [← sumS_toL F]; exact sumS_le _ _)
        by_cases hlt : i < m
        · obtain ⟨b, off, x, Bc, nc, ec, B1, n1, e1, B2, n2, e2, rfl, hb, hSb, hx, ⟨g0, g1, g2, g3, g4, g5, g6, g7⟩, k1, k2, k3⟩ := HR.out.elem hlt
          rw [← HB.out.cell (p := ⟨b, _, none⟩) hb] at g0 g1 g2 g3 g4 g5 g6 g7
          have hbl : b < wr.heap.size := Nat.lt_of_lt_of_le hb HB.out.size
          have HTK := Lib.hid (sumS_take hx)
          have HTS := Lib.hid (cSL_take hx)
          have HTC := Lib.hid (cCL_take hx)
          have HTE := Lib.hid (show F.toL.take (i + 1) = F.toL.take i ++ [x] by rw [List.take_add_one, hx]; rfl)
          have HXC := Lib.hid (show sumS (F.toL.take (i + 1)) ≤ F.sz by rw [← sumS_toL F]; exact sumS_le _ _)
          have HC1 := Lib.hid k1
          have HC2 := Lib.hid k2
          have HC3 := Lib.hid k3
          have HCN := Lib.hid (show x.c.ps.num = nc by rw [num_lenQ, toL_len]; exact k1.len.symm)
          clear hx k1 k2 k3 hSb
          have hi2 : (i : Int) < (m : Int) := by omega
          have hdp : dp ≤ 16 := by omega
          by_cases hst : st ≤ 64
          case neg =>
            have HST := Lib.hid hst
            go_wp2_with (fail)
            go_ret2
            exact ⟨HB.out, st, cd, rfl, hs1, by have := HSP.out; omega, hc1, by have := HSP.out; omega, fun h _ => by have := HST.out; omega, fun h1 h2 h3 h4 => HE.out (Nat.le_trans (cSL_le _ _) (by rw [cSL_toL]; exact h1)) (Nat.le_trans (cCL_le _ _) (by rw [cCL_toL]; exact h2)) (fun y hy => dq_mem h3 h4 y (List.mem_of_mem_take hy))⟩
          by_cases hct : cd ≤ 256
          case neg =>
            have HST := Lib.hid hct
            go_wp2_with (fail)
            go_ret2
            exact ⟨HB.out, st, cd, rfl, hs1, by have := HSP.out; omega, hc1, by have := HSP.out; omega, fun _ h => by have := HST.out; omega, fun h1 h2 h3 h4 => HE.out (Nat.le_trans (cSL_le _ _) (by rw [cSL_toL]; exact h1)) (Nat.le_trans (cCL_le _ _) (by rw [cCL_toL]; exact h2)) (fun y hy => dq_mem h3 h4 y (List.mem_of_mem_take hy))⟩
          go_wp2_with (fail)
          refine (HI.out S x.th B1 n1 e1 (dp + 1) wr (by have := HXC.out; have := HTK.out; have := HN.out; omega) (by have := HXC.out; have := HTK.out; have := HZ.out; omega) (by omega) (by omega) (HC2.out.below HB.out)).mono ?_
          rintro e w2 ⟨hb2, a1, b1, rfl, p1, p2, p3, p4, p5, p6⟩
          have HB2 := Lib.hid (HB.out.trans (hb2.mono HB.out.size))
          rw [← hb2.cell (p := ⟨b, _, none⟩) hbl] at g2 g3 g4 g5 g7
          have hbl2 : b < w2.heap.size := Nat.lt_of_lt_of_le hbl hb2.size
          have HP1 := Lib.hid p5
          have HP2 := Lib.hid p6
          clear hb2 g0 g1 g6 p5 p6 hbl
          go_wp2_with (fail)
          refine (HI.out S x.el B2 n2 e2 (dp + 1) w2 (by have := HXC.out; have := HTK.out; have := HN.out; omega) (by have := HXC.out; have := HTK.out; have := HZ.out; omega) (by omega) (by omega) (HC3.out.below HB2.out)).mono ?_
          rintro e w3 ⟨hb3, a2, b2, rfl, q1, q2, q3, q4, q5, q6⟩
          have HB3 := Lib.hid (HB2.out.trans (hb3.mono HB2.out.size))
          rw [← hb3.cell (p := ⟨b, _, none⟩) hbl2] at g2 g3 g4 g5
          have hbl3 : b < w3.heap.size := Nat.lt_of_lt_of_le hbl2 hb3.size
          have HQ1 := Lib.hid q5
          have HQ2 := Lib.hid q6
          clear hb3 g7 q5 q6 hbl2
          have hbd : sumS (F.toL.take i) + (x.c.ps.cnt + 2 + x.th.sz + x.el.sz) ≤ 1000000 := by have := HXC.out; have := HTK.out; have := HZ.out; omega
          go_wp2_with (fail)
          refine (qzero_any x.c Bc nc ec w3 HCN.out).mono ?_
          rintro e w4 ⟨hb4, rfl⟩
          have HB4 := Lib.hid (HB3.out.trans (hb4.mono HB3.out.size))
          rw [← hb4.cell (p := ⟨b, _, none⟩) hbl3] at g2 g3 g4 g5
          have hbl4 : b < w4.heap.size := Nat.lt_of_lt_of_le hbl3 hb4.size
          clear hb4 hbl3
          cases hzc : x.c.isZ with
          | true =>
            have HZC := Lib.hid (show zC x = 0 ∧ x.c.ps.dep = 0 from ⟨by unfold zC; rw [if_pos hzc], isZ_dep hzc⟩)
            clear hzc g2 g3 g4 g5
            have HC4 := Lib.hid (show st + 1 + a1 + a2 ≤ 64 ∧ cd + b1 + b2 ≤ 256 → st + 1 + a1 + a2 = cSL (F.toL.take (i + 1)) ∧ cd + b1 + b2 = cCL (F.toL.take (i + 1)) ∧ ∀ y ∈ F.toL.take (i + 1), DQ dp y from fun hle => by
              obtain ⟨u1, u2, u3⟩ := HC.out (by omega)
              obtain ⟨v1, v2, v3, v4⟩ := HP1.out (by omega)
              obtain ⟨w1, w2, w3, w4⟩ := HQ1.out (by omega)
              have z := HZC.out
              refine ⟨by rw [HTS.out]; omega, by rw [HTC.out]; omega, fun y hy => ?_⟩
              rw [HTE.out] at hy
              rcases List.mem_append.1 hy with hy | hy
              · exact u3 y hy
              · rw [List.mem_singleton.1 hy]; exact ⟨v3, w3, by omega, v4, w4⟩)
            have HE4 := Lib.hid (show cSL (F.toL.take (i + 1)) ≤ 64 → cCL (F.toL.take (i + 1)) ≤ 256 → (∀ y ∈ F.toL.take (i + 1), DQ dp y) → st + 1 + a1 + a2 ≤ 64 ∧ cd + b1 + b2 ≤ 256 from fun h1 h2 h3 => by
              have h4 := HTS.out
              have h5 := HTC.out
              obtain ⟨d1, d2, d3, d4, d5⟩ := h3 x (by rw [HTE.out]; simp)
              have p := HP1.out (HP2.out (by omega) (by omega) d1 d4)
              have q := HQ1.out (HQ2.out (by omega) (by omega) d2 d5)
              have u := HC.out (by omega)
              omega)
            have hs3 : st + 1 + a1 + a2 ≤ 1000 * sumS (F.toL.take (i + 1)) := by have := HTK.out; omega
            have hc3 : cd + b1 + b2 ≤ 1000 * sumS (F.toL.take (i + 1)) := by have := HTK.out; omega
            go_wp2_with (fail)
            go_roundw
            case rel => exact ⟨i + 1, st + 1 + a1 + a2, cd + b1 + b2, hlt, by go_num, by go_num, by go_num, by omega, hs3, by omega, hc3, HC4.out, HE4.out, HB4.out⟩
            case measure => simp [intOf]; omega
          | false =>
            have HZC := Lib.hid (show zC x = x.c.ps.cnt + 1 by unfold zC; rw [if_neg (by rw [hzc]; decide)])
            clear hzc
            go_wp2_with (fail)
            refine (qcd_all (x.c.ps.cnt + 1) S x.c Bc nc ec 0 w4 (Nat.lt_succ_self _) (by omega) (by omega) (by omega) (HC1.out.below HB4.out)).mono ?_
            rintro e w5 ⟨hb5, r, rfl, r1, r2, r3, r4⟩
            have HB5 := Lib.hid (HB4.out.trans (hb5.mono HB4.out.size))
            have HR1 := Lib.hid r3
            have HR2 := Lib.hid r4
            clear hb5 r3 r4 g2 g3 g4 g5 hbl4
            have HC4 := Lib.hid (show st + 1 + a1 + a2 ≤ 64 ∧ cd + b1 + b2 + r ≤ 256 → st + 1 + a1 + a2 = cSL (F.toL.take (i + 1)) ∧ cd + b1 + b2 + r = cCL (F.toL.take (i + 1)) ∧ ∀ y ∈ F.toL.take (i + 1), DQ dp y from fun hle => by
              obtain ⟨u1, u2, u3⟩ := HC.out (by omega)
              obtain ⟨v1, v2, v3, v4⟩ := HP1.out (by omega)
              obtain ⟨w1, w2, w3, w4⟩ := HQ1.out (by omega)
              have z := HZC.out
              have y1 := HR1.out (by omega)
              refine ⟨by rw [HTS.out]; omega, by rw [HTC.out]; omega, fun y hy => ?_⟩
              rw [HTE.out] at hy
              rcases List.mem_append.1 hy with hy | hy
              · exact u3 y hy
              · rw [List.mem_singleton.1 hy]; exact ⟨v3, w3, by omega, v4, w4⟩)
            have HE4 := Lib.hid (show cSL (F.toL.take (i + 1)) ≤ 64 → cCL (F.toL.take (i + 1)) ≤ 256 → (∀ y ∈ F.toL.take (i + 1), DQ dp y) → st + 1 + a1 + a2 ≤ 64 ∧ cd + b1 + b2 + r ≤ 256 from fun h1 h2 h3 => by
              have h4 := HTS.out
              have h5 := HTC.out
              have z := HZC.out
              obtain ⟨d1, d2, d3, d4, d5⟩ := h3 x (by rw [HTE.out]; simp)
              have p := HP1.out (HP2.out (by omega) (by omega) d1 d4)
              have q := HQ1.out (HQ2.out (by omega) (by omega) d2 d5)
              have y1 := HR1.out (HR2.out (by omega) (by omega))
              have u := HC.out (by omega)
              omega)
            have hs3 : st + 1 + a1 + a2 ≤ 1000 * sumS (F.toL.take (i + 1)) := by have := HTK.out; omega
            have hc3 : cd + b1 + b2 + r ≤ 1000 * sumS (F.toL.take (i + 1)) := by have := HTK.out; omega
            go_wp2_with (fail)
            go_roundw
            case rel => exact ⟨i + 1, st + 1 + a1 + a2, cd + b1 + b2 + r, hlt, by go_num, by go_num, by go_num, by omega, hs3, by omega, hc3, HC4.out, HE4.out, HB5.out⟩
            case measure => simp [intOf]; omega
        · obtain rfl : i = m := by omega
          have hjj : ¬ (i : Int) < (i : Int) := by omega
          have HT := Lib.hid (show F.toL.take i = F.toL from List.take_of_length_le (by rw [← HL.out]; exact Nat.le_refl _))
          rw [HT.out] at hs2 hc2 HC HE
          rw [sumS_toL] at hs2 hc2
          rw [cSL_toL, cCL_toL] at HC HE
          have HC2 := Lib.hid (show st ≤ 64 ∧ cd ≤ 256 → st = F.cntS ∧ cd = F.cntC ∧ dp + F.dep ≤ 17 ∧ F.cdep ≤ 17 from fun hle => by
            obtain ⟨h1, h2, h3⟩ := HC.out hle
            exact ⟨h1, h2, dq_all F dp (by omega) h3⟩)
          have HE2 := Lib.hid (show F.cntS ≤ 64 → F.cntC ≤ 256 → dp + F.dep ≤ 17 → F.cdep ≤ 17 → st ≤ 64 ∧ cd ≤ 256 from fun h1 h2 h3 h4 => HE.out h1 h2 (dq_mem h3 h4))
          go_wp2_with (fail)
          go_ret2
          exact ⟨HB.out, st, cd, rfl, hs1, hs2, hc1, hc2, fun h1 h2 => HC2.out ⟨h1, h2⟩, HE2.out⟩
theorem qsz_all : ∀ N, QSZ N
  | 0 => fun _ _ _ _ _ _ _ h => absurd h (by omega)
  | N + 1 => qsz_of N (qsz_all N)
/-- One step as it should be. -/
def ST.okT (x : ST) : Bool := if x.k = 1 then decide (1 ≤ x.b ∧ x.b ≤ 12) && x.c.isZ && x.th.num == 0 && x.el.num == 0
      else if x.k = 2 then decide (x.b = 0) && x.c.okT && decide (0 < x.th.num) && x.th.okB && x.el.okB
      else false
theorem okBS_all : ∀ F : SF, F.okB = F.toL.all ST.okT
  | .nil => rfl
  | .cons k b ck cv cn cps th el r => by
    rw [SF.toL, List.all_cons, ← okBS_all r, SF.okB]
    rfl
theorem cntC_mem : ∀ {F : SF} {x : ST}, x ∈ F.toL → zC x + x.th.cntC + x.el.cntC ≤ F.cntC ∧ x.c.ps.dep + 1 ≤ F.cdep ∧ x.th.cdep ≤ F.cdep ∧ x.el.cdep ≤ F.cdep ∧ x.c.ps.cnt + 2 + x.th.sz + x.el.sz ≤ F.sz
  | .cons k b ck cv cn cps th el r, x, h => by
    rw [SF.toL] at h
    rw [SF.cntC, SF.cdep, SF.sz]
    rcases List.mem_cons.1 h with rfl | h
    · unfold zC
      dsimp only
      omega
    · have := cntC_mem (F := r) h
      omega
/-- The contract of steps for steps of a size. -/
def QST (N : Nat) : Prop := ∀ (S : Nat → Prop) (F : SF) (A : Option Addr) (m d : Nat) (w : World), F.sz < N → F.sz ≤ 1000000 → F.cntC ≤ 256 → F.cdep ≤ 17 → RepT S w F A m d →
  Calls Tryz.prog 116 #[.slice A m d] w fun e w' => Below w.heap.size w w' ∧ e = .returned (.bool F.okB)
set_option maxHeartbeats 8000000 in
set_option maxRecDepth 100000 in
theorem qst_of (N : Nat) (ih : QST N) : QST (N + 1) := by
  intro S F A m d w hN hz hcc hcd h
  have HI := Lib.hid ih
  have HR := Lib.hid h
  have HN := Lib.hid hN
  have HZ := Lib.hid hz
  have HL := Lib.hid (h.len.trans (stoL_len F).symm)
  have HQ := Lib.hid (okBS_all F)
  have HMC := Lib.hid (fun x (hx : x ∈ F.toL) => cntC_mem hx)
  have HCC := Lib.hid hcc
  have HCD := Lib.hid hcd
  have hcap := h.choose_spec.1.cap
  have hbig := h.choose_spec.1.big
  clear ih h hN hz hcc hcd
  generalize F.okB = r at HQ ⊢
  go_enter Tryz.func116, Tryz.ntmps116
  go_wp2_with (fail)
  go_loopw [3] (fun q wr => ∃ i : Nat, i ≤ m ∧ q = .int .i64 i ∧ Hid ((F.toL.take i).all ST.okT = true) ∧ Hid (Below w.heap.size w wr)) (fun q _ => m - (intOf q).toNat)
  case atStart => exact ⟨0, Nat.zero_le _, rfl, rfl, Below.refl _ _⟩
  case round =>
    obtain ⟨i, him, rfl, HC, HB⟩ := hrel
    by_cases hlt : i < m
    · obtain ⟨b, off, x, Bc, nc, ec, B1, n1, e1, B2, n2, e2, rfl, hb, hSb, hx, ⟨g0, g1, g2, g3, g4, g5, g6, g7⟩, k1, k2, k3⟩ := HR.out.elem hlt
      rw [← HB.out.cell (p := ⟨b, _, none⟩) hb] at g0 g1 g2 g3 g4 g5 g6 g7
      have hbl : b < wr.heap.size := Nat.lt_of_lt_of_le hb HB.out.size
      have hmem := List.mem_of_getElem? hx
      have HF := Lib.hid (show x.okT = false → r = false from fun h => by
        rw [HQ.out, ← Bool.not_eq_true, List.all_eq_true]
        intro h2
        rw [h2 x hmem] at h
        cases h)
      have HT := Lib.hid (show x.okT = true → (F.toL.take (i + 1)).all ST.okT = true from fun h => by
        rw [List.take_add_one, hx, List.all_append, HC.out]
        simp [h])
      have HM := Lib.hid (HMC.out x hmem)
      have HXO := Lib.hid (show x.okT = if x.k = 1 then decide (1 ≤ x.b ∧ x.b ≤ 12) && x.c.isZ && x.th.num == 0 && x.el.num == 0
        else if x.k = 2 then decide (x.b = 0) && x.c.okT && decide (0 < x.th.num) && x.th.okB && x.el.okB else false from rfl)
      have HC1 := Lib.hid k1
      have HC2 := Lib.hid k2
      have HC3 := Lib.hid k3
      have HCN := Lib.hid (show x.c.ps.num = nc by rw [num_lenQ, toL_len]; exact k1.len.symm)
      have HN1 := Lib.hid (show x.th.num = n1 by rw [snum_len]; exact k2.len.symm)
      have HN2 := Lib.hid (show x.el.num = n2 by rw [snum_len]; exact k3.len.symm)
      have hc1 := k1.choose_spec.1.cap
      have hb1 := k1.choose_spec.1.big
      have hc2 := k2.choose_spec.1.cap
      have hb2 := k2.choose_spec.1.big
      have hc3 := k3.choose_spec.1.cap
      have hb3 := k3.choose_spec.1.big
      clear hx k1 k2 k3 hSb hmem
      rw [HN1.out, HN2.out] at HXO
      generalize x.okT = xo at HF HT HXO
      have hi2 : (i : Int) < (m : Int) := by omega
      by_cases hk : x.k = 1
      · have hk1 : (x.k == 1) = true := by rw [hk]; rfl
        have HX1 := Lib.hid (HXO.out.trans (if_pos hk))
        clear hk HXO
        by_cases h1 : x.b < 1
        · have HRF := Lib.hid (HF.out (by rw [HX1.out, decide_eq_false (fun h => by omega)]; rfl))
          go_wp2_with (fail)
          first | (refine calls_named ?_; intro W hW) | (refine body_named ?_; intro W hW) | (refine wpList_named ?_; intro W hW) | (refine wp_named ?_; intro W hW)
          have hbb : Below wr.heap.size wr W := by rw [← hW]; exact (Below.refl _ _).alloc (Nat.le_refl _) _
          clear hW
          go_ret
          exact ⟨HB.out.trans (hbb.mono HB.out.size), ret_boolQ HRF.out.symm⟩
        by_cases h2 : 12 < x.b
        · have HRF := Lib.hid (HF.out (by rw [HX1.out, decide_eq_false (fun h => by omega)]; rfl))
          go_wp2_with (fail)
          first | (refine calls_named ?_; intro W hW) | (refine body_named ?_; intro W hW) | (refine wpList_named ?_; intro W hW) | (refine wp_named ?_; intro W hW)
          have hbb : Below wr.heap.size wr W := by rw [← hW]; exact (Below.refl _ _).alloc (Nat.le_refl _) _
          clear hW
          go_ret
          exact ⟨HB.out.trans (hbb.mono HB.out.size), ret_boolQ HRF.out.symm⟩
        have HX2 := Lib.hid (show xo = (x.c.isZ && n1 == 0 && n2 == 0) by rw [HX1.out, decide_eq_true ⟨by omega, by omega⟩, Bool.true_and])
        clear HX1
        go_wp2_with (fail)
        first | (refine calls_named ?_; intro W hW) | (refine body_named ?_; intro W hW) | (refine wpList_named ?_; intro W hW) | (refine wp_named ?_; intro W hW)
        have hbb : Below wr.heap.size wr W := by rw [← hW]; exact (Below.refl _ _).alloc (Nat.le_refl _) _
        have hxx : Blk W wr.heap.size 56 #[.int .i64 x.k, .int .i64 x.b, .int .i64 x.c.k, .int .i64 x.c.v, .int .i64 x.c.n, .slice Bc nc ec, .slice B1 n1 e1, .slice B2 n2 e2] := by rw [← hW]; exact Blk.new wr _ _
        clear hW g0 g1 g2 g3 g4 g5 g6 g7
        have HB1 := Lib.hid (HB.out.trans (hbb.mono HB.out.size))
        have HX3 := Lib.hid hxx
        clear hbb hxx
        refine (qzero_any x.c Bc nc ec W HCN.out).mono ?_
        rintro e w4 ⟨hb4, rfl⟩
        have HB4 := Lib.hid (HB1.out.trans (hb4.mono HB1.out.size))
        have HX4 := Lib.hid (HX3.out.below hb4 HX3.out.lt)
        clear hb4 HX3
        have x6 := HX4.out.cell 6
        have x7 := HX4.out.cell 7
        have xl := HX4.out.lt
        cases hzc : x.c.isZ with
        | false =>
          have HRF := Lib.hid (HF.out (by rw [HX2.out, hzc]; rfl))
          clear hzc
          go_wp2_with (fail)
          go_ret
          exact ⟨HB4.out, ret_boolQ HRF.out.symm⟩
        | true =>
          by_cases q1 : n1 = 0
          case neg =>
            have HRF := Lib.hid (HF.out (by rw [HX2.out]; simp [q1]))
            have q1' : ((n1 : Int) != 0) = true := by simp; omega
            clear hzc q1
            go_wp2_with (fail)
            go_ret
            exact ⟨HB4.out, ret_boolQ HRF.out.symm⟩
          by_cases q2 : n2 = 0
          case neg =>
            have HRF := Lib.hid (HF.out (by rw [HX2.out]; simp [q2]))
            have q1' : ((n1 : Int) != 0) = false := by simp; omega
            have q2' : ((n2 : Int) != 0) = true := by simp; omega
            clear hzc q1 q2
            go_wp2_with (fail)
            go_ret
            exact ⟨HB4.out, ret_boolQ HRF.out.symm⟩
          have HC2 := Lib.hid (HT.out (by rw [HX2.out, hzc, q1, q2]; rfl))
          have q1' : ((n1 : Int) != 0) = false := by simp; omega
          have q2' : ((n2 : Int) != 0) = false := by simp; omega
          clear hzc q1 q2
          go_wp2_with (fail)
          go_roundw
          case rel => exact ⟨i + 1, hlt, by go_num, HC2.out, HB4.out⟩
          case measure => simp [intOf]; omega
      have hk1 : (x.k == 1) = false := by simpa using hk
      by_cases hk2' : x.k = 2
      case neg =>
        have hk2 : (x.k == 2) = false := by simpa using hk2'
        have HRF := Lib.hid (HF.out (by rw [HXO.out, if_neg hk, if_neg hk2']))
        clear hk hk2' HXO
        go_wp2_with (fail)
        first | (refine calls_named ?_; intro W hW) | (refine body_named ?_; intro W hW) | (refine wpList_named ?_; intro W hW) | (refine wp_named ?_; intro W hW)
        have hbb : Below wr.heap.size wr W := by rw [← hW]; exact (Below.refl _ _).alloc (Nat.le_refl _) _
        clear hW
        go_ret
        exact ⟨HB.out.trans (hbb.mono HB.out.size), ret_boolQ HRF.out.symm⟩
      have hk2 : (x.k == 2) = true := by rw [hk2']; rfl
      have HX1 := Lib.hid (HXO.out.trans ((if_neg hk).trans (if_pos hk2')))
      clear hk hk2' HXO
      by_cases hb0 : x.b = 0
      case neg =>
        have HRF := Lib.hid (HF.out (by rw [HX1.out, decide_eq_false hb0]; rfl))
        have q1' : (x.b != 0) = true := bne_iff_ne.2 hb0
        clear hb0
        go_wp2_with (fail)
        first | (refine calls_named ?_; intro W hW) | (refine body_named ?_; intro W hW) | (refine wpList_named ?_; intro W hW) | (refine wp_named ?_; intro W hW)
        have hbb : Below wr.heap.size wr W := by rw [← hW]; exact (Below.refl _ _).alloc (Nat.le_refl _) _
        clear hW
        go_ret
        exact ⟨HB.out.trans (hbb.mono HB.out.size), ret_boolQ HRF.out.symm⟩
      have HX2 := Lib.hid (show xo = (x.c.okT && decide (0 < n1) && x.th.okB && x.el.okB) by rw [HX1.out, decide_eq_true hb0, Bool.true_and])
      have q0 : (x.b != 0) = false := by simpa using hb0
      clear hb0 HX1
      go_wp2_with (fail)
      first | (refine calls_named ?_; intro W hW) | (refine body_named ?_; intro W hW) | (refine wpList_named ?_; intro W hW) | (refine wp_named ?_; intro W hW)
      have hbb : Below wr.heap.size wr W := by rw [← hW]; exact (Below.refl _ _).alloc (Nat.le_refl _) _
      have hxx : Blk W wr.heap.size 56 #[.int .i64 x.k, .int .i64 x.b, .int .i64 x.c.k, .int .i64 x.c.v, .int .i64 x.c.n, .slice Bc nc ec, .slice B1 n1 e1, .slice B2 n2 e2] := by rw [← hW]; exact Blk.new wr _ _
      clear hW g0 g1 g2 g3 g4 g5 g6 g7
      have HB1 := Lib.hid (HB.out.trans (hbb.mono HB.out.size))
      have HX3 := Lib.hid hxx
      clear hbb hxx
      have HTC := Lib.hid (show tcond x.c = if x.c.okT then 0 else 140 by
        have h1 := HM.out
        have h2 := HCC.out
        have h3 := HCD.out
        have hzz : x.c.ps.cnt + 1 ≤ 256 := by
          unfold zC at h1
          by_cases hz : x.c.isZ = true
          · have h4 : x.c.ps = .nil := by
              unfold CT.isZ at hz
              rw [Bool.and_eq_true] at hz
              cases hp : x.c.ps with
              | nil => rfl
              | cons k v n ps r => rw [hp] at hz; simp [CF.num] at hz
            rw [h4]
            exact (by decide : CF.nil.cnt + 1 ≤ 256)
          · rw [if_neg hz] at h1
            omega
        rcases tcond_cases x.c with ⟨_, _, h⟩ | ⟨h, _⟩
        · exact h
        · exact absurd ⟨hzz, by omega⟩ h)
      refine (qcond_any S x.c Bc nc ec W (HC1.out.below HB1.out) (by have := HM.out; have := HZ.out; omega)).mono ?_
      rintro e w4 ⟨hb4, rfl⟩
      have HB4 := Lib.hid (HB1.out.trans (hb4.mono HB1.out.size))
      have HX4 := Lib.hid (HX3.out.below hb4 HX3.out.lt)
      clear hb4 HX3
      rw [HTC.out]
      have x6 := HX4.out.cell 6
      have x7 := HX4.out.cell 7
      have xl := HX4.out.lt
      cases ho : x.c.okT with
      | false =>
        have HRF := Lib.hid (HF.out (by rw [HX2.out, ho]; rfl))
        clear ho HTC
        go_wp2_with (fail)
        go_ret
        exact ⟨HB4.out, ret_boolQ HRF.out.symm⟩
      | true =>
        have HX5 := Lib.hid (show xo = (decide (0 < n1) && x.th.okB && x.el.okB) by rw [HX2.out, ho, Bool.true_and])
        clear ho HTC HX2
        by_cases q1 : n1 = 0
        · have HRF := Lib.hid (HF.out (by rw [HX5.out]; simp [q1]))
          have q1' : ((n1 : Int) == 0) = true := by simp; omega
          clear q1
          go_wp2_with (fail)
          go_ret
          exact ⟨HB4.out, ret_boolQ HRF.out.symm⟩
        have HX6 := Lib.hid (show xo = (x.th.okB && x.el.okB) by rw [HX5.out, decide_eq_true (by omega), Bool.true_and])
        have q1' : ((n1 : Int) == 0) = false := by simp; omega
        clear q1 HX5
        go_wp2_with (fail)
        refine (HI.out S x.th B1 n1 e1 w4 (by have := HM.out; have := HN.out; omega) (by have := HM.out; have := HZ.out; omega) (by have := HM.out; have := HCC.out; omega) (by have := HM.out; have := HCD.out; omega) (HC2.out.below HB4.out)).mono ?_
        rintro e w5 ⟨hb5, rfl⟩
        have HB5 := Lib.hid (HB4.out.trans (hb5.mono HB4.out.size))
        have HX5 := Lib.hid (HX4.out.below hb5 HX4.out.lt)
        clear hb5 HX4 x6 x7 xl
        have x7 := HX5.out.cell 7
        have xl := HX5.out.lt
        cases ht : x.th.okB with
        | false =>
          have HRF := Lib.hid (HF.out (by rw [HX6.out, ht]; rfl))
          clear ht
          go_wp2_with (fail)
          go_ret
          exact ⟨HB5.out, ret_boolQ HRF.out.symm⟩
        | true =>
          have HX7 := Lib.hid (show xo = x.el.okB by rw [HX6.out, ht, Bool.true_and])
          clear ht HX6
          go_wp2_with (fail)
          refine (HI.out S x.el B2 n2 e2 w5 (by have := HM.out; have := HN.out; omega) (by have := HM.out; have := HZ.out; omega) (by have := HM.out; have := HCC.out; omega) (by have := HM.out; have := HCD.out; omega) (HC3.out.below HB5.out)).mono ?_
          rintro e w6 ⟨hb6, rfl⟩
          have HB6 := Lib.hid (HB5.out.trans (hb6.mono HB5.out.size))
          clear hb6 HX5 x7 xl
          cases he : x.el.okB with
          | false =>
            have HRF := Lib.hid (HF.out (by rw [HX7.out, he]))
            clear he
            go_wp2_with (fail)
            go_ret
            exact ⟨HB6.out, ret_boolQ HRF.out.symm⟩
          | true =>
            have HCT := Lib.hid (HT.out (by rw [HX7.out, he]))
            clear he
            go_wp2_with (fail)
            go_roundw
            case rel => exact ⟨i + 1, hlt, by go_num, HCT.out, HB6.out⟩
            case measure => simp [intOf]; omega
    · have HC2 := Lib.hid (show r = true by
        have h := HC.out
        rw [List.take_of_length_le (by have := HL.out; omega)] at h
        rw [HQ.out, h])
      go_wp2_with (fail)
      go_ret
      exact ⟨HB.out, ret_boolQ HC2.out.symm⟩
theorem qst_all : ∀ N, QST N
  | 0 => fun _ _ _ _ _ _ h => absurd h (by omega)
  | N + 1 => qst_of N (qst_all N)
set_option maxHeartbeats 4000000 in
set_option maxRecDepth 100000 in
/-- The reference's Order. -/
theorem qorder_any (S : Nat → Prop) (F : SF) (A : Option Addr) (m d : Nat) (w : World) (h : RepT S w F A m d) (hz : F.sz ≤ 1000000) :
    Calls Tryz.prog 67 #[.slice A m d] w fun e w' => Below w.heap.size w w' ∧ e = .returned (.int .i64 (torder F)) := by
  have HR := Lib.hid h
  have HZ := Lib.hid hz
  have HT := Lib.hid (show torder F = if 64 < F.cntS ∨ 256 < F.cntC ∨ 17 < F.dep ∨ 17 < F.cdep then 2 else if F.num = 0 ∨ F.okB = false then 140 else 0 from rfl)
  have HM := Lib.hid (show F.num = m by rw [snum_len]; exact h.len.symm)
  have hc1 := h.choose_spec.1.cap
  have hb1 := h.choose_spec.1.big
  clear h hz
  generalize torder F = t at HT ⊢
  go_enter Tryz.func67, Tryz.ntmps67
  go_wp2_with (fail)
  refine (qsz_all (F.sz + 1) S F A m d 0 w (Nat.lt_succ_self _) HZ.out (by omega) (by omega) HR.out).mono ?_
  rintro e w2 ⟨hb2, a, b, rfl, r1, r2, r3, r4, r5, r6⟩
  have HB2 := Lib.hid hb2
  have HR5 := Lib.hid r5
  have HR6 := Lib.hid r6
  clear hb2 r5 r6
  by_cases ha : 64 < a
  · have HT2 := Lib.hid (show t = 2 by
      rw [HT.out, if_pos]
      have := HR6.out
      omega)
    go_wp2_with (fail)
    go_ret
    exact ⟨HB2.out, congrArg (fun n => Ending.returned (.int .i64 n)) HT2.out.symm⟩
  by_cases hb : 256 < b
  · have HT2 := Lib.hid (show t = 2 by
      rw [HT.out, if_pos]
      have := HR6.out
      omega)
    go_wp2_with (fail)
    go_ret
    exact ⟨HB2.out, congrArg (fun n => Ending.returned (.int .i64 n)) HT2.out.symm⟩
  have HCC := Lib.hid (HR5.out ⟨by omega, by omega⟩)
  have HT2 := Lib.hid (show t = if m = 0 ∨ F.okB = false then 140 else 0 by
    rw [HT.out, if_neg, HM.out]
    have := HCC.out
    omega)
  clear HT HR5 HR6
  by_cases hm : m = 0
  · have HT3 := Lib.hid (HT2.out.trans (if_pos (.inl hm)))
    have q1' : ((m : Int) == 0) = true := by simp; omega
    clear hm
    go_wp2_with (fail)
    go_ret
    exact ⟨HB2.out, congrArg (fun n => Ending.returned (.int .i64 n)) HT3.out.symm⟩
  have q1' : ((m : Int) == 0) = false := by simp; omega
  go_wp2_with (fail)
  refine (qst_all (F.sz + 1) S F A m d w2 (Nat.lt_succ_self _) HZ.out (by have := HCC.out; omega) (by have := HCC.out; omega) (HR.out.below HB2.out)).mono ?_
  rintro e w3 ⟨hb3, rfl⟩
  have HB3 := Lib.hid (HB2.out.trans (hb3.mono HB2.out.size))
  clear hb3
  cases ho : F.okB with
  | false =>
    have HT3 := Lib.hid (HT2.out.trans (if_pos (.inr ho)))
    clear ho
    go_wp2_with (fail)
    go_ret
    exact ⟨HB3.out, congrArg (fun n => Ending.returned (.int .i64 n)) HT3.out.symm⟩
  | true =>
    have HT3 := Lib.hid (HT2.out.trans (if_neg (by rw [ho]; simp [hm])))
    clear ho
    go_wp2_with (fail)
    go_ret
    exact ⟨HB3.out, congrArg (fun n => Ending.returned (.int .i64 n)) HT3.out.symm⟩
end Go.Proofs.YticpjdjdimpglaaGreatDoor
