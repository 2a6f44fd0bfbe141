/- The reference's typing of conditions: conditions, parts, Cond by their contracts. -/
import Derived.Test.YticpjdjdimpglaaGreatDoorCTisMCnS
import Derived.Test.YticpjdjdimpglaaGreatDoorCTisMJoinPlain
namespace Go.Proofs.YticpjdjdimpglaaGreatDoor
set_option linter.unusedVariables false
set_option linter.unusedSimpArgs false
open Go.RowKit
/-- How many conditions, as the reference counts them: the contract for conditions of a size. -/
def QCD (N : Nat) : Prop := ∀ (S : Nat → Prop) (c : CT) (A : Option Addr) (m d : Nat) (dp : Int) (w : World), c.ps.cnt < N → c.ps.cnt ≤ 1000000 → 0 ≤ dp → dp ≤ 17 → RepH S w c.ps A m d →
  Calls Tryz.prog 87 #[cV c A m d, .int .i64 dp] w fun e w' => Below w.heap.size w w' ∧ ∃ r : Int, e = .returned (.int .i64 r) ∧ 1 ≤ r ∧ r ≤ 1000 * (c.ps.cnt + 1) ∧ (r ≤ 256 → r = c.ps.cnt + 1 ∧ dp + c.ps.dep ≤ 16) ∧ (c.ps.cnt + 1 ≤ 256 → dp + c.ps.dep ≤ 16 → r ≤ 256)
theorem dep_memC : ∀ {F : CF} {x : CT}, x ∈ F.toL → x.ps.dep + 1 ≤ F.dep
  | .cons k v n ps r, x, h => by
    rw [CF.toL] at h
    rw [CF.dep]
    rcases List.mem_cons.1 h with rfl | h
    · show ps.dep + 1 ≤ _; omega
    · have := dep_memC (F := r) h; omega
set_option maxHeartbeats 8000000 in
set_option maxRecDepth 100000 in
theorem qcd_of (N : Nat) (ih : QCD N) : QCD (N + 1) := by
  intro S c A m d dp w hN hz hd0 hd1 h
  have HI := Lib.hid ih
  have HR := Lib.hid h
  have HN := Lib.hid hN
  have HL := Lib.hid (h.len.trans (toL_len c.ps).symm)
  have HZ := Lib.hid hz
  have hcap := h.choose_spec.1.cap
  have hbig := h.choose_spec.1.big
  clear ih h hN hz
  obtain ⟨k, v, n, ps⟩ := c
  unfold cV
  dsimp only [vi]
  dsimp only at HR HN HL HZ ⊢
  go_enter Tryz.func87, Tryz.ntmps87
  by_cases hd : 16 < dp
  · go_wp2_with (fail)
    first | (refine calls_named ?_; intro W hW) | (refine body_named ?_; intro W hW) | (refine wpList_named ?_; intro W hW) | (refine wp_named ?_; intro W hW)
    have hb : Below w.heap.size w W := by rw [← hW]; exact (Below.refl _ _).alloc (Nat.le_refl _) _
    clear hW
    go_ret
    exact ⟨hb, 1000, rfl, by omega, by omega, fun h => by omega, fun _ h => by omega⟩
  · have HD := Lib.hid hd
    go_wp2_with (fail)
    have hx0 : Blk (w.alloc (.cells #[.int .i64 k, .int .i64 v, .int .i64 n, .slice A m d] 24)) w.heap.size 24 #[.int .i64 k, .int .i64 v, .int .i64 n, .slice A m d] := Blk.new _ _ _
    have hb0 : Below w.heap.size w (w.alloc (.cells #[.int .i64 k, .int .i64 v, .int .i64 n, .slice A m d] 24)) := (Below.refl _ _).alloc (Nat.le_refl _) _
    generalize w.alloc (.cells #[.int .i64 k, .int .i64 v, .int .i64 n, .slice A m d] 24) = w0 at hx0 hb0 ⊢
    have HX := Lib.hid hx0
    have HB0 := Lib.hid hb0
    clear hx0 hb0
    go_loopw [5, 6] (fun s q wr => ∃ (i : Nat) (nn : Int), i ≤ m ∧ q = .int .i64 i ∧ s = .int .i64 nn ∧ 1 ≤ nn ∧ nn ≤ 1 + 1000 * (sumC (ps.toL.take i)) ∧ Hid (nn ≤ 256 → nn = 1 + sumC (ps.toL.take i) ∧ ∀ x ∈ ps.toL.take i, dp + 1 + x.ps.dep ≤ 16) ∧ Hid (1 + sumC (ps.toL.take i) ≤ 256 → (∀ x ∈ ps.toL.take i, dp + 1 + x.ps.dep ≤ 16) → nn ≤ 256) ∧ Hid (Below w0.heap.size w0 wr)) (fun _ q _ => m - (intOf q).toNat)
    case atStart => exact ⟨0, 1, Nat.zero_le _, rfl, rfl, by omega, by omega, fun _ => ⟨rfl, fun x hx => by cases hx⟩, fun _ _ => by omega, Below.refl _ _⟩
    case round =>
      obtain ⟨i, nn, him, rfl, rfl, hn1, hn2, HC, HE, HB⟩ := hrel
      have hx := HX.out.below HB.out HX.out.lt
      have x3 := hx.cell 3
      have xl := hx.lt
      have HBw := Lib.hid (HB0.out.trans (HB.out.mono HB0.out.size))
      clear hx
      have HSP := Lib.hid (show sumC (ps.toL.take i) ≤ ps.cnt by
        rw [← sumC_toL ps]
        conv => rhs; rw [← List.take_append_drop i ps.toL, sumC_app]
        exact Nat.le_add_right _ _)
      by_cases hlt : i < m
      · obtain ⟨b, off, x, B, n1, e1, rfl, hb, hSb, hx, g0, g1, g2, g3, hr⟩ := HR.out.elem hlt
        rw [← HBw.out.cell (p := ⟨b, _, none⟩) hb] at g0 g1 g2 g3
        have hbl : b < wr.heap.size := Nat.lt_of_lt_of_le hb HBw.out.size
        have HTK := Lib.hid (sumC_take hx)
        have HTE := Lib.hid (show ps.toL.take (i + 1) = ps.toL.take i ++ [x] by rw [List.take_add_one, hx]; rfl)
        have HXC := Lib.hid (show x.ps.cnt < N ∧ sumC (ps.toL.take (i + 1)) ≤ ps.cnt by
          have h1 : sumC (ps.toL.take (i + 1)) ≤ ps.cnt := by
            rw [← sumC_toL ps]
            conv => rhs; rw [← List.take_append_drop (i + 1) ps.toL, sumC_app]
            exact Nat.le_add_right _ _
          refine ⟨?_, h1⟩
          rw [sumC_take hx] at h1
          have := HN.out
          omega)
        have HDX := Lib.hid (dep_memC (List.mem_of_getElem? hx))
        have HRx := Lib.hid hr
        clear hx hr hSb
        have hi2 : (i : Int) < (m : Int) := by omega
        by_cases hmn : nn ≤ 256
        · go_wp2_with (fail)
          refine (HI.out S x B n1 e1 (dp + 1) wr HXC.out.1 (by have := HXC.out.2; have := HTK.out; have := HZ.out; omega) (by omega) (by omega) (HRx.out.below HBw.out)).mono ?_
          rintro e w2 ⟨hb2, r, rfl, hr1, hr2, hr3, hr4⟩
          have HC2 := Lib.hid (show nn + r ≤ 256 → nn + r = 1 + sumC (ps.toL.take (i + 1)) ∧ ∀ x ∈ ps.toL.take (i + 1), dp + 1 + x.ps.dep ≤ 16 from fun hle => by
            obtain ⟨h1, h2⟩ := hr3 (by omega)
            obtain ⟨h3, h4⟩ := HC.out hmn
            refine ⟨by rw [HTK.out]; omega, fun y hy => ?_⟩
            rw [HTE.out] at hy
            rcases List.mem_append.1 hy with hy | hy
            · exact h4 y hy
            · rw [List.mem_singleton.1 hy]; exact h2)
          have HE2 := Lib.hid (show 1 + sumC (ps.toL.take (i + 1)) ≤ 256 → (∀ x ∈ ps.toL.take (i + 1), dp + 1 + x.ps.dep ≤ 16) → nn + r ≤ 256 from fun hs ha => by
            have h1 := HTK.out
            have h3 := ha x (by rw [HTE.out]; simp)
            have h4 := hr4 (by omega) h3
            have h5 := hr3 h4
            have h6 := HC.out hmn
            omega)
          have hn3 : nn + r ≤ 1 + 1000 * (sumC (ps.toL.take (i + 1))) := by have := HTK.out; omega
          have HB2 := Lib.hid (HB.out.trans (hb2.mono HB.out.size))
          have hbig2 : nn + r ≤ 2000000000 := by have := HXC.out.2; have := HZ.out; omega
          clear hb2 g0 g1 g2 g3 x3 xl hr3 hr4
          go_wp2_with (fail)
          go_roundw
          case rel => exact ⟨i + 1, nn + r, hlt, by go_num, rfl, by omega, hn3, HC2.out, HE2.out, HB2.out⟩
          case measure => simp [intOf]; omega
        · have HMN := Lib.hid hmn
          go_wp2_with (fail)
          go_ret
          exact ⟨HBw.out, nn, rfl, hn1, by have := HSP.out; omega, fun h => absurd h (by have := HMN.out; omega), fun h1 h2 => HE.out (by have := HSP.out; omega) (fun y hy => by have h3 := dep_memC (List.mem_of_mem_take hy); omega)⟩
      · obtain rfl : i = m := by omega
        have hjj : ¬ (i : Int) < (i : Int) := by omega
        have HC2 := Lib.hid (show nn ≤ 256 → nn = ps.cnt + 1 ∧ dp + ps.dep ≤ 16 from fun hle => by
          obtain ⟨h1, h2⟩ := HC.out hle
          rw [List.take_of_length_le (by rw [← HL.out]; exact Nat.le_refl _)] at h1 h2
          rw [sumC_toL] at h1
          have h3 := dep_all ps (16 - dp).toNat fun x hx => by have := h2 x hx; omega
          have := HD.out
          omega)
        have HE2 := Lib.hid (show ps.cnt + 1 ≤ 256 → dp + ps.dep ≤ 16 → nn ≤ 256 from fun h1 h2 => HE.out (by have := HSP.out; omega) (fun y hy => by have h3 := dep_memC (List.mem_of_mem_take hy); omega))
        have hn4 : nn ≤ 1000 * (ps.cnt + 1) := by have := HSP.out; omega
        go_wp2_with (fail)
        go_ret
        exact ⟨HBw.out, nn, rfl, hn1, hn4, HC2.out, fun h1 h2 => HE2.out (by omega) h2⟩
theorem qcd_all : ∀ N, QCD N
  | 0 => fun _ _ _ _ _ _ _ h => absurd h (by omega)
  | N + 1 => qcd_of N (qcd_all N)
/-- One condition as it should be. -/
def CT.okT (c : CT) : Bool := (CF.one c .nil).okB
theorem okT_def (c : CT) : c.okT = if c.k = 1 then decide (1 ≤ c.v ∧ c.v ≤ 4 ∧ 0 ≤ c.n ∧ c.n ≤ 64) && c.ps.num == 0
      else if c.k = 4 then decide (c.v = 0 ∧ c.n = 0) && c.ps.num == 1 && c.ps.okB
      else if c.k = 2 ∨ c.k = 3 then decide (c.v = 0 ∧ c.n = 0) && decide (1 ≤ c.ps.num ∧ c.ps.num ≤ 16) && c.ps.okB
      else false := by
  unfold CT.okT CF.one
  rw [CF.okB]
  simp only [CF.okB, Bool.and_true]
theorem okB_all : ∀ F : CF, F.okB = F.toL.all CT.okT
  | .nil => rfl
  | .cons k v n ps r => by
    rw [CF.toL, List.all_cons, ← okB_all r, CF.okB, okT_def]
theorem num_lenQ (F : CF) : F.num = F.toL.length := by
  induction F with
  | nil => rfl
  | cons k v n ps r _ ih => rw [CF.num, CF.toL, List.length_cons, ih]
/-- The contract of parts for conditions of a size. -/
def QPT (N : Nat) : Prop := ∀ (S : Nat → Prop) (c : CT) (A : Option Addr) (m d : Nat) (w : World), c.ps.cnt < N → RepH S w c.ps A m d →
  Calls Tryz.prog 88 #[cV c A m d] w fun e w' => Below w.heap.size w w' ∧ e = .returned (.bool c.okT)
theorem ret_boolQ {a b : Bool} (h : a = b) : Ending.returned (.bool a) = .returned (.bool b) := by rw [h]
set_option maxHeartbeats 8000000 in
set_option maxRecDepth 100000 in
theorem qpt_of (N : Nat) (ih : QPT N) : QPT (N + 1) := by
  intro S c A m d w hN h
  have HI := Lib.hid ih
  have HR := Lib.hid h
  have HN := Lib.hid hN
  have HL := Lib.hid (h.len.trans (toL_len c.ps).symm)
  have HQ := Lib.hid ((okT_def c).symm)
  have HM := Lib.hid (show c.ps.num = m by rw [num_lenQ]; exact (h.len.trans (toL_len c.ps).symm).symm)
  have HA := Lib.hid (okB_all c.ps)
  have hcap := h.choose_spec.1.cap
  have hbig := h.choose_spec.1.big
  clear ih h hN
  generalize c.okT = r at HQ ⊢
  obtain ⟨k, v, n, ps⟩ := c
  unfold cV
  dsimp only [vi]
  dsimp only at HR HN HL HQ HM HA ⊢
  go_enter Tryz.func88, Tryz.ntmps88
  by_cases k1 : k = 1
  · have HQ1 := Lib.hid (HQ.out.symm.trans (if_pos k1))
    have e1 : (k == 1) = true := by rw [k1]; rfl
    clear HQ k1
    by_cases h1 : 1 ≤ v
    case neg =>
      have HR1 := Lib.hid (show r = false by rw [HQ1.out, decide_eq_false (fun h => h1 h.1)]; rfl)
      go_wp2_with (fail)
      first | (refine calls_named ?_; intro W hW) | (refine body_named ?_; intro W hW) | (refine wpList_named ?_; intro W hW) | (refine wp_named ?_; intro W hW)
      have hb : Below w.heap.size w W := by rw [← hW]; exact (Below.refl _ _).alloc (Nat.le_refl _) _
      clear hW
      go_ret
      exact ⟨hb, ret_boolQ HR1.out.symm⟩
    by_cases h2 : v ≤ 4
    case neg =>
      have HR1 := Lib.hid (show r = false by rw [HQ1.out, decide_eq_false (fun h => h2 h.2.1)]; rfl)
      go_wp2_with (fail)
      first | (refine calls_named ?_; intro W hW) | (refine body_named ?_; intro W hW) | (refine wpList_named ?_; intro W hW) | (refine wp_named ?_; intro W hW)
      have hb : Below w.heap.size w W := by rw [← hW]; exact (Below.refl _ _).alloc (Nat.le_refl _) _
      clear hW
      go_ret
      exact ⟨hb, ret_boolQ HR1.out.symm⟩
    by_cases h3 : 0 ≤ n
    case neg =>
      have HR1 := Lib.hid (show r = false by rw [HQ1.out, decide_eq_false (fun h => h3 h.2.2.1)]; rfl)
      go_wp2_with (fail)
      first | (refine calls_named ?_; intro W hW) | (refine body_named ?_; intro W hW) | (refine wpList_named ?_; intro W hW) | (refine wp_named ?_; intro W hW)
      have hb : Below w.heap.size w W := by rw [← hW]; exact (Below.refl _ _).alloc (Nat.le_refl _) _
      clear hW
      go_ret
      exact ⟨hb, ret_boolQ HR1.out.symm⟩
    by_cases h4 : n ≤ 64
    case neg =>
      have HR1 := Lib.hid (show r = false by rw [HQ1.out, decide_eq_false (fun h => h4 h.2.2.2)]; rfl)
      go_wp2_with (fail)
      first | (refine calls_named ?_; intro W hW) | (refine body_named ?_; intro W hW) | (refine wpList_named ?_; intro W hW) | (refine wp_named ?_; intro W hW)
      have hb : Below w.heap.size w W := by rw [← hW]; exact (Below.refl _ _).alloc (Nat.le_refl _) _
      clear hW
      go_ret
      exact ⟨hb, ret_boolQ HR1.out.symm⟩
    have HR1 := Lib.hid (show r = decide ((m : Int) = 0) by rw [HQ1.out, decide_eq_true ⟨h1, h2, h3, h4⟩, Bool.true_and, HM.out]; by_cases hm : m = 0 <;> simp [hm])
    go_wp2_with (fail)
    first | (refine calls_named ?_; intro W hW) | (refine body_named ?_; intro W hW) | (refine wpList_named ?_; intro W hW) | (refine wp_named ?_; intro W hW)
    have hb : Below w.heap.size w W := by rw [← hW]; exact (Below.refl _ _).alloc (Nat.le_refl _) _
    clear hW
    go_ret
    exact ⟨hb, ret_boolQ (by rw [HR1.out]; rfl)⟩
  by_cases k4 : k = 2 ∨ k = 3 ∨ k = 4
  case neg =>
    have HR1 := Lib.hid (show r = false by rw [← HQ.out, if_neg k1, if_neg (fun h => k4 (.inr (.inr h))), if_neg (fun h => k4 (by rcases h with h | h <;> simp [h]))])
    have e1 : (k == 1) = false := by simpa using k1
    have e2 : (k == 2) = false := by simp; exact fun h => k4 (.inl h)
    have e3 : (k == 3) = false := by simp; exact fun h => k4 (.inr (.inl h))
    have e4 : (k == 4) = false := by simp; exact fun h => k4 (.inr (.inr h))
    clear k1 k4
    go_wp2_with (fail)
    first | (refine calls_named ?_; intro W hW) | (refine body_named ?_; intro W hW) | (refine wpList_named ?_; intro W hW) | (refine wp_named ?_; intro W hW)
    have hb : Below w.heap.size w W := by rw [← hW]; exact (Below.refl _ _).alloc (Nat.le_refl _) _
    clear hW
    go_ret
    exact ⟨hb, ret_boolQ HR1.out.symm⟩
  have HQ2 := Lib.hid (show r = (decide (v = 0 ∧ n = 0) && (if k = 4 then m == 1 else decide (1 ≤ m ∧ m ≤ 16)) && ps.okB) by
    rw [← HQ.out, if_neg k1, HM.out]
    by_cases h : k = 4
    · rw [if_pos h, if_pos h]
    · rw [if_neg h, if_neg h, if_pos (by rcases k4 with h | h | h <;> simp_all)])
  have e1 : (k == 1) = false := by simpa using k1
  clear HQ k1
  by_cases hg : (if k = 4 then m == 1 else decide (1 ≤ m ∧ m ≤ 16)) = true
  case neg =>
    have HR1 := Lib.hid (show r = false by rw [Bool.not_eq_true] at hg; rw [HQ2.out, hg]; simp)
    by_cases hk : k = 4
    · rw [if_pos hk] at hg
      subst hk
      have hm : ((m : Int) != 1) = true := bne_iff_ne.2 fun h => hg (by simp; omega)
      clear hg k4
      go_wp2_with (fail)
      first | (refine calls_named ?_; intro W hW) | (refine body_named ?_; intro W hW) | (refine wpList_named ?_; intro W hW) | (refine wp_named ?_; intro W hW)
      have hb : Below w.heap.size w W := by rw [← hW]; exact (Below.refl _ _).alloc (Nat.le_refl _) _
      clear hW
      go_ret
      exact ⟨hb, ret_boolQ HR1.out.symm⟩
    · rw [if_neg hk] at hg
      have hm : (m : Int) < 1 ∨ (16 : Int) < (m : Int) := by
        by_cases h1 : (m : Int) < 1
        · exact .inl h1
        · by_cases h2 : (16 : Int) < (m : Int)
          · exact .inr h2
          · exact absurd (decide_eq_true (show 1 ≤ m ∧ m ≤ 16 by omega)) hg
      clear hg
      have k23 : k = 2 ∨ k = 3 := by rcases k4 with h | h | h <;> simp_all
      clear k4 hk
      rcases k23 with rfl | rfl
      all_goals
        by_cases h1 : (m : Int) < 1
        · go_wp2_with (fail)
          first | (refine calls_named ?_; intro W hW) | (refine body_named ?_; intro W hW) | (refine wpList_named ?_; intro W hW) | (refine wp_named ?_; intro W hW)
          have hb : Below w.heap.size w W := by rw [← hW]; exact (Below.refl _ _).alloc (Nat.le_refl _) _
          clear hW
          go_ret
          exact ⟨hb, ret_boolQ HR1.out.symm⟩
        · have h2 : (16 : Int) < (m : Int) := by omega
          clear hm
          go_wp2_with (fail)
          first | (refine calls_named ?_; intro W hW) | (refine body_named ?_; intro W hW) | (refine wpList_named ?_; intro W hW) | (refine wp_named ?_; intro W hW)
          have hb : Below w.heap.size w W := by rw [← hW]; exact (Below.refl _ _).alloc (Nat.le_refl _) _
          clear hW
          go_ret
          exact ⟨hb, ret_boolQ HR1.out.symm⟩
  have HQ3 := Lib.hid (show r = (decide (v = 0 ∧ n = 0) && ps.toL.all CT.okT) by rw [HQ2.out, hg, Bool.and_true, HA.out])
  have HKM := Lib.hid (show ((m : Int) != 1) = false ∧ k = 4 ∨ ¬ (m : Int) < 1 ∧ ¬ (16 : Int) < (m : Int) ∧ (k = 2 ∨ k = 3) by
    by_cases hk : k = 4
    · rw [if_pos hk] at hg
      have : m = 1 := by simpa using hg
      exact .inl ⟨by rw [this]; rfl, hk⟩
    · rw [if_neg hk] at hg
      have := of_decide_eq_true hg
      exact .inr ⟨by omega, by omega, by rcases k4 with h | h | h <;> simp_all⟩)
  clear HQ2 HA hg k4 e1 HM
  by_cases hv : v = 0
  case neg =>
    have HR1 := Lib.hid (show r = false by rw [HQ3.out, decide_eq_false (fun h => hv h.1)]; rfl)
    have hv1 : (v != 0) = true := bne_iff_ne.2 hv
    clear hv
    rcases HKM.out with ⟨hm, rfl⟩ | ⟨hm1, hm2, rfl | rfl⟩
    all_goals
      go_wp2_with (fail)
      first | (refine calls_named ?_; intro W hW) | (refine body_named ?_; intro W hW) | (refine wpList_named ?_; intro W hW) | (refine wp_named ?_; intro W hW)
      have hb : Below w.heap.size w W := by rw [← hW]; exact (Below.refl _ _).alloc (Nat.le_refl _) _
      clear hW
      go_ret
      exact ⟨hb, ret_boolQ HR1.out.symm⟩
  by_cases hn : n = 0
  case neg =>
    have HR1 := Lib.hid (show r = false by rw [HQ3.out, decide_eq_false (fun h => hn h.2)]; rfl)
    have hv1 : (n != 0) = true := bne_iff_ne.2 hn
    subst hv
    clear hn
    rcases HKM.out with ⟨hm, rfl⟩ | ⟨hm1, hm2, rfl | rfl⟩
    all_goals
      go_wp2_with (fail)
      first | (refine calls_named ?_; intro W hW) | (refine body_named ?_; intro W hW) | (refine wpList_named ?_; intro W hW) | (refine wp_named ?_; intro W hW)
      have hb : Below w.heap.size w W := by rw [← hW]; exact (Below.refl _ _).alloc (Nat.le_refl _) _
      clear hW
      go_ret
      exact ⟨hb, ret_boolQ HR1.out.symm⟩
  subst hv hn
  have HQ4 := Lib.hid (show r = ps.toL.all CT.okT by rw [HQ3.out]; rfl)
  clear HQ3
  rcases HKM.out with ⟨hm, rfl⟩ | ⟨hm1, hm2, rfl | rfl⟩
  all_goals
    clear HKM
    go_wp2_with (fail)
    first | (refine calls_named ?_; intro w0 hW) | (refine body_named ?_; intro w0 hW) | (refine wpList_named ?_; intro w0 hW) | (refine wp_named ?_; intro w0 hW)
    have HX := Lib.hid (show Blk w0 w.heap.size 24 _ by rw [← hW]; exact Blk.new _ _ _)
    have HB0 := Lib.hid (show Below w.heap.size w w0 by rw [← hW]; exact (Below.refl _ _).alloc (Nat.le_refl _) _)
    clear hW
    go_loopw [3] (fun q wr => ∃ i : Nat, i ≤ m ∧ q = .int .i64 i ∧ Hid ((ps.toL.take i).all CT.okT = true) ∧ Hid (Below w0.heap.size w0 wr)) (fun q _ => m - (intOf q).toNat)
    case atStart => exact ⟨0, Nat.zero_le _, rfl, rfl, Below.refl _ _⟩
    case round =>
      obtain ⟨i, him, rfl, HC, HB⟩ := hrel
      have hx := HX.out.below HB.out HX.out.lt
      have x3 := hx.cell 3
      have xl := hx.lt
      have HBw := Lib.hid (HB0.out.trans (HB.out.mono HB0.out.size))
      clear hx
      by_cases hlt : i < m
      · obtain ⟨b, off, x, B, n1, e1, rfl, hb, hSb, hx, g0, g1, g2, g3, hr⟩ := HR.out.elem hlt
        rw [← HBw.out.cell (p := ⟨b, _, none⟩) hb] at g0 g1 g2 g3
        have hbl : b < wr.heap.size := Nat.lt_of_lt_of_le hb HBw.out.size
        have HTE := Lib.hid (show ps.toL.take (i + 1) = ps.toL.take i ++ [x] by rw [List.take_add_one, hx]; rfl)
        have HXM := Lib.hid (List.mem_of_getElem? hx)
        have HXC := Lib.hid (show x.ps.cnt < N by
          have h1 : sumC (ps.toL.take (i + 1)) ≤ ps.cnt := by
            rw [← sumC_toL ps]
            conv => rhs; rw [← List.take_append_drop (i + 1) ps.toL, sumC_app]
            exact Nat.le_add_right _ _
          rw [sumC_take hx] at h1
          have := HN.out
          omega)
        have HRx := Lib.hid hr
        clear hx hr hSb
        have hi2 : (i : Int) < (m : Int) := by omega
        go_wp2_with (fail)
        refine (HI.out S x B n1 e1 wr HXC.out (HRx.out.below HBw.out)).mono ?_
        rintro e w2 ⟨hb2, rfl⟩
        have HB2 := Lib.hid (HB.out.trans (hb2.mono HB.out.size))
        have HBW2 := Lib.hid (HBw.out.trans (hb2.mono HBw.out.size))
        clear hb2 g0 g1 g2 g3 x3 xl
        cases hox : x.okT with
        | false =>
          have HR1 := Lib.hid (show r = false by
            rw [HQ4.out, ← Bool.not_eq_true, List.all_eq_true]
            intro h
            rw [h x HXM.out] at hox
            cases hox)
          clear hox
          go_wp2_with (fail)
          go_ret
          exact ⟨HBW2.out, ret_boolQ HR1.out.symm⟩
        | true =>
          have HC2 := Lib.hid (show (ps.toL.take (i + 1)).all CT.okT = true by rw [HTE.out, List.all_append, HC.out]; simp [hox])
          clear hox
          go_wp2_with (fail)
          go_roundw
          case rel => exact ⟨i + 1, hlt, by go_num, HC2.out, HB2.out⟩
          case measure => simp [intOf]; omega
      · have HC2 := Lib.hid (show r = true by
          have h := HC.out
          rw [List.take_of_length_le (by have := HL.out; omega)] at h
          rw [HQ4.out, h])
        go_wp2_with (fail)
        go_ret
        exact ⟨HBw.out, ret_boolQ HC2.out.symm⟩
theorem qpt_all : ∀ N, QPT N
  | 0 => fun _ _ _ _ _ _ h => absurd h (by omega)
  | N + 1 => qpt_of N (qpt_all N)
theorem tcond_cases (c : CT) : (c.ps.cnt + 1 ≤ 256 ∧ c.ps.dep ≤ 16 ∧ tcond c = if c.okT then 0 else 140) ∨ (¬ (c.ps.cnt + 1 ≤ 256 ∧ c.ps.dep ≤ 16) ∧ tcond c = 2) := by
  have h1 : (CF.one c .nil).cnt = c.ps.cnt + 1 := by unfold CF.one; rw [CF.cnt]; simp [CF.cnt]
  have h2 : (CF.one c .nil).dep = c.ps.dep + 1 := by unfold CF.one; rw [CF.dep]; simp [CF.dep]
  unfold tcond
  rw [h1, h2]
  by_cases h : c.ps.cnt + 1 ≤ 256 ∧ c.ps.dep ≤ 16
  · left
    exact ⟨h.1, h.2, by rw [if_neg (by omega)]; rfl⟩
  · right
    exact ⟨h, by rw [if_pos (by omega)]⟩
set_option maxHeartbeats 4000000 in
set_option maxRecDepth 100000 in
/-- The reference's Cond. -/
theorem qcond_any (S : Nat → Prop) (c : CT) (A : Option Addr) (m d : Nat) (w : World) (h : RepH S w c.ps A m d) (hz : c.ps.cnt ≤ 1000000) :
    Calls Tryz.prog 42 #[cV c A m d] w fun e w' => Below w.heap.size w w' ∧ e = .returned (.int .i64 (tcond c)) := by
  have HC := Lib.hid (fun W (hW : Below w.heap.size w W) => qcd_all (c.ps.cnt + 1) S c A m d 0 W (Nat.lt_succ_self _) hz (by omega) (by omega) (h.below hW))
  have HP := Lib.hid (fun W (hW : Below w.heap.size w W) => qpt_all (c.ps.cnt + 1) S c A m d W (Nat.lt_succ_self _) (h.below hW))
  have HT := Lib.hid (tcond_cases c)
  clear h
  generalize tcond c = t at HT ⊢
  unfold cV at HC HP ⊢
  dsimp only [vi] at HC HP ⊢
  go_enter Tryz.func42, Tryz.ntmps42
  go_wp2_with (fail)
  first | (refine calls_named ?_; intro W hW) | (refine body_named ?_; intro W hW) | (refine wpList_named ?_; intro W hW) | (refine wp_named ?_; intro W hW)
  have HB0 := Lib.hid (show Below w.heap.size w W by rw [← hW]; exact (Below.refl _ _).alloc (Nat.le_refl _) _)
  have HX0 := Lib.hid (show Blk W w.heap.size 24 #[.int .i64 c.k, .int .i64 c.v, .int .i64 c.n, .slice A m d] by rw [← hW]; exact Blk.new _ _ _)
  clear hW
  refine (HC.out W HB0.out).mono ?_
  rintro e w2 ⟨hb2, r, rfl, hr1, hr2, hr3, hr4⟩
  have HB2 := Lib.hid (HB0.out.trans (hb2.mono HB0.out.size))
  have HX2 := Lib.hid (HX0.out.below hb2 HX0.out.lt)
  clear hb2 HX0 HB0
  have x0 := HX2.out.cell 0
  have x1 := HX2.out.cell 1
  have x2 := HX2.out.cell 2
  have x3 := HX2.out.cell 3
  have xl := HX2.out.lt
  by_cases hr : r ≤ 256
  · obtain ⟨h1, h2⟩ := hr3 hr
    have HT2 := Lib.hid (show t = if c.okT then 0 else 140 by
      rcases HT.out with ⟨_, _, h⟩ | ⟨h, _⟩
      · exact h
      · exact absurd ⟨by omega, by omega⟩ h)
    clear hr3 hr4 h1 h2
    have hr' : ¬ (256 : Int) < r := by omega
    go_wp2_with (fail)
    refine (HP.out _ HB2.out).mono ?_
    rintro e w3 ⟨hb3, rfl⟩
    have HB3 := Lib.hid (HB2.out.trans (hb3.mono HB2.out.size))
    clear hb3
    cases ho : c.okT with
    | false =>
      have HT3 := Lib.hid (show t = 140 by rw [HT2.out, ho]; rfl)
      clear ho
      go_wp2_with (fail)
      go_ret
      exact ⟨HB3.out, congrArg (fun n => Ending.returned (.int .i64 n)) HT3.out.symm⟩
    | true =>
      have HT3 := Lib.hid (show t = 0 by rw [HT2.out, ho]; rfl)
      clear ho
      go_wp2_with (fail)
      go_ret
      exact ⟨HB3.out, congrArg (fun n => Ending.returned (.int .i64 n)) HT3.out.symm⟩
  · have HT2 := Lib.hid (show t = 2 by
      rcases HT.out with ⟨h1, h2, _⟩ | ⟨_, h⟩
      · exact absurd (hr4 h1 (by omega)) hr
      · exact h)
    have hr' : (256 : Int) < r := by omega
    clear hr3 hr4
    go_wp2_with (fail)
    go_ret
    exact ⟨HB2.out, congrArg (fun n => Ending.returned (.int .i64 n)) HT2.out.symm⟩
end Go.Proofs.YticpjdjdimpglaaGreatDoor
