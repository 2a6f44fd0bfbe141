/- The reference's number, text, operand, Cond by their contracts. -/
import Derived.Test.YticpjdjdimpglaaGreatDoorCTxsMPNum
import Derived.Test.YticpjdjdimpglaaGreatDoorCTxsMWText3
import Derived.Test.YticpjdjdimpglaaGreatDoorCTxsMQCnd
namespace Go.Proofs.YticpjdjdimpglaaGreatDoor
set_option linter.unusedVariables false
set_option linter.unusedSimpArgs false
open Go.RowKit
theorem joinW_snoc (sep : List UInt8) : ∀ (l : List (List UInt8)) (x : List UInt8), l ≠ [] → joinW sep (l ++ [x]) = joinW sep l ++ sep ++ x
  | [], x, h => absurd rfl h
  | [y], x, _ => rfl
  | y :: z :: r, x, _ => by
    have h := joinW_snoc sep (z :: r) x (by simp)
    show y ++ sep ++ joinW sep (z :: r ++ [x]) = (y ++ sep ++ joinW sep (z :: r)) ++ sep ++ x
    rw [h]
    simp [List.append_assoc]
theorem joinW_one {sep : List UInt8} {g : CT → List UInt8} {l : List CT} {x : CT} (hx : l[0]? = some x) : joinW sep ((l.take (0 + 1)).map g) = g x := by
  cases l with
  | nil => cases hx
  | cons y r =>
    have e : y = x := by simpa using hx
    subst e
    rfl
theorem joinW_more {sep : List UInt8} {g : CT → List UInt8} {l : List CT} {i : Nat} {x : CT} (h0 : 0 < i) (hx : l[i]? = some x) : joinW sep ((l.take (i + 1)).map g) = joinW sep ((l.take i).map g) ++ sep ++ g x := by
  obtain ⟨hi, -⟩ := List.getElem?_eq_some_iff.1 hx
  rw [List.take_add_one, hx]
  simp only [Option.toList_some, List.map_append, List.map_cons, List.map_nil]
  refine joinW_snoc sep _ _ fun h => ?_
  have h2 : ((l.take i).map g).length = 0 := by rw [h]; rfl
  rw [List.length_map, List.length_take] at h2
  omega
theorem cntL_take : ∀ (l : List CT) (i : Nat), cntL (l.take i) ≤ cntL l
  | [], i => by simp
  | c :: r, 0 => Nat.zero_le _
  | c :: r, i + 1 => by
    have := cntL_take r i
    show c.ps.cnt + 1 + cntL (r.take i) ≤ c.ps.cnt + 1 + cntL r
    omega
theorem joinW_take_len {sep : List UInt8} {g : CT → List UInt8} (hs : sep.length ≤ 5) (hg : ∀ p, (g p).length + 12 ≤ 50 * (p.ps.cnt + 1)) (l : List CT) (i : Nat) : (joinW sep ((l.take i).map g)).length ≤ 50 * cntL l :=
  Nat.le_trans (joinW_len hs fun p _ => hg p) (Nat.mul_le_mul_left _ (cntL_take l i))
def orG (f : Nat) (p : CT) : List UInt8 := if (core p).k = 3 then foper f p else ftext f p
theorem orG_pos {f : Nat} {p : CT} (h : (core p).k = 3) : orG f p = foper f p := if_pos h
theorem orG_neg {f : Nat} {p : CT} (h : ¬ (core p).k = 3) : orG f p = ftext f p := if_neg h
theorem orG_len (f : Nat) (p : CT) : (orG f p).length + 12 ≤ 50 * (p.ps.cnt + 1) := by
  unfold orG
  split
  · exact (text_len f p).2
  · have := (text_len f p).1; omega
-- NUM
/-- The contracts of text and operand with fuel f. -/
def PTX (f : Nat) : Prop := ∀ (S : Nat → Prop) (c : CT) (A : Option Addr) (m d : Nat) (w : World), okC c = true → 2 * dpt c ≤ f + 1 → c.ps.cnt ≤ 10000 → RepH S w c.ps A m d →
  Calls Tryz.prog 43 #[cV c A m d] w fun e w' => e = .returned (.string (bs (ftext f c))) ∧ Below w.heap.size w w'
def POP (f : Nat) : Prop := ∀ (S : Nat → Prop) (c : CT) (A : Option Addr) (m d : Nat) (w : World), okC c = true → 2 * dpt c ≤ f → c.ps.cnt ≤ 10000 → RepH S w c.ps A m d →
  Calls Tryz.prog 90 #[cV c A m d] w fun e w' => e = .returned (.string (bs (foper f c))) ∧ Below w.heap.size w w'
set_option maxHeartbeats 4000000 in
set_option maxRecDepth 100000 in
theorem pop_of (f : Nat) (ih : PTX f) : POP (f + 1) := by
  intro S c A m d w hok hd hcnt h
  have HI := Lib.hid ih
  have HR := Lib.hid h
  have HOK := Lib.hid (core_ok hok).1
  have HD := Lib.hid (show 2 * dpt (core c) ≤ f + 1 by have := core_dep c; omega)
  have HC := Lib.hid (show (core c).ps.cnt ≤ 10000 by have := core_cnt c; omega)
  have hl := (text_len f (core c)).1
  have HE := Lib.hid (foper_def f c)
  have hcc := HC.out
  have hl2 : (ftext f (core c)).length ≤ 1000000 := by omega
  clear ih h hok hd hl hcc
  unfold cV
  go_enter Tryz.func90, Tryz.ntmps90
  go_wp2_with (fail)
  first | (refine calls_named ?_; intro W hW) | (refine body_named ?_; intro W hW) | (refine wpList_named ?_; intro W hW) | (refine wp_named ?_; intro W hW)
  have hb1 : Below w.heap.size w W := by rw [← hW]; exact (Below.refl _ _).alloc (Nat.le_refl _) _
  clear hW
  have HB1 := Lib.hid hb1
  clear hb1
  refine (rcore_any (c := c) (HR.out.below HB1.out)).mono ?_
  rintro e w1 ⟨⟨A1, m1, d1, rfl, hr1⟩, hb1⟩
  have HB2 := Lib.hid (HB1.out.trans (hb1.mono HB1.out.size))
  have HR1 := Lib.hid (hr1.below hb1)
  clear hr1 hb1 HB1
  generalize core c = x at *
  unfold cV
  dsimp only [vi]
  by_cases h2 : x.k = 2 ∨ x.k = 3
  · have HE2 := Lib.hid (HE.out.trans (if_pos h2))
    clear HE
    have hs1 : ¬ (9223372036854775807 < 1 + (ftext f x).length) := by omega
    have hs2 : ¬ (9223372036854775807 < 1 + (ftext f x).length + 1) := by omega
    by_cases k2 : x.k = 2
    · have k2b : (x.k == 2) = true := by rw [k2]; rfl
      clear h2 k2
      go_wp2_with (fail)
      first | (refine calls_named ?_; intro W3 hW3) | (refine body_named ?_; intro W3 hW3) | (refine wpList_named ?_; intro W3 hW3) | (refine wp_named ?_; intro W3 hW3)
      have hb3 : Below w1.heap.size w1 W3 := by rw [← hW3]; exact (Below.refl _ _).alloc (Nat.le_refl _) _
      clear hW3
      have HB3 := Lib.hid (HB2.out.trans (hb3.mono HB2.out.size))
      have HR3 := Lib.hid (HR1.out.below hb3)
      clear hb3
      refine (HI.out S x A1 m1 d1 W3 HOK.out HD.out HC.out HR3.out).mono ?_
      rintro e w4 ⟨rfl, hb4⟩
      have HB4 := Lib.hid (HB3.out.trans (hb4.mono HB3.out.size))
      clear hb4
      go_wp2_with (fail)
      go_ret
      exact ⟨congrArg (fun s => Ending.returned (.string s)) (by rw [HE2.out, show ({ data := #[40] } : ByteArray) = bs [40] from rfl, show ({ data := #[41] } : ByteArray) = bs [41] from rfl, bs_add, bs_add]; rfl), HB4.out⟩
    · have k2b : (x.k == 2) = false := beq_eq_false_iff_ne.2 k2
      have k3b : (x.k == 3) = true := by rw [h2.resolve_left k2]; rfl
      clear h2 k2
      go_wp2_with (fail)
      first | (refine calls_named ?_; intro W3 hW3) | (refine body_named ?_; intro W3 hW3) | (refine wpList_named ?_; intro W3 hW3) | (refine wp_named ?_; intro W3 hW3)
      have hb3 : Below w1.heap.size w1 W3 := by rw [← hW3]; exact (Below.refl _ _).alloc (Nat.le_refl _) _
      clear hW3
      have HB3 := Lib.hid (HB2.out.trans (hb3.mono HB2.out.size))
      have HR3 := Lib.hid (HR1.out.below hb3)
      clear hb3
      refine (HI.out S x A1 m1 d1 W3 HOK.out HD.out HC.out HR3.out).mono ?_
      rintro e w4 ⟨rfl, hb4⟩
      have HB4 := Lib.hid (HB3.out.trans (hb4.mono HB3.out.size))
      clear hb4
      go_wp2_with (fail)
      go_ret
      exact ⟨congrArg (fun s => Ending.returned (.string s)) (by rw [HE2.out, show ({ data := #[40] } : ByteArray) = bs [40] from rfl, show ({ data := #[41] } : ByteArray) = bs [41] from rfl, bs_add, bs_add]; rfl), HB4.out⟩
  · have HE2 := Lib.hid (HE.out.trans (if_neg h2))
    have k2 : (x.k == 2) = false := beq_eq_false_iff_ne.2 (fun e => h2 (.inl e))
    have k3 : (x.k == 3) = false := beq_eq_false_iff_ne.2 (fun e => h2 (.inr e))
    clear HE h2
    go_wp2_with (fail)
    first | (refine calls_named ?_; intro W3 hW3) | (refine body_named ?_; intro W3 hW3) | (refine wpList_named ?_; intro W3 hW3) | (refine wp_named ?_; intro W3 hW3)
    have hb3 : Below w1.heap.size w1 W3 := by rw [← hW3]; exact (Below.refl _ _).alloc (Nat.le_refl _) _
    clear hW3
    have HB3 := Lib.hid (HB2.out.trans (hb3.mono HB2.out.size))
    have HR3 := Lib.hid (HR1.out.below hb3)
    clear hb3
    refine (HI.out S x A1 m1 d1 W3 HOK.out HD.out HC.out HR3.out).mono ?_
    rintro e w4 ⟨rfl, hb4⟩
    have HB4 := Lib.hid (HB3.out.trans (hb4.mono HB3.out.size))
    clear hb4
    go_wp2_with (fail)
    go_ret
    exact ⟨congrArg (fun s => Ending.returned (.string s)) (by rw [HE2.out]), HB4.out⟩
-- PTX
set_option maxHeartbeats 8000000 in
set_option maxRecDepth 100000 in
theorem ptx_of (f : Nat) (ih : PTX f) (ih2 : POP f) : PTX (f + 1) := by
  intro S c A m d w hok hd hcnt h
  have HT := Lib.hid ih
  have HO := Lib.hid ih2
  have HR := Lib.hid h
  have HOK := Lib.hid (core_ok hok).1
  have HD := Lib.hid (show 2 * dpt (core c) ≤ f + 2 by have := core_dep c; omega)
  have HC := Lib.hid (show (core c).ps.cnt ≤ 10000 by have := core_cnt c; omega)
  have HE := Lib.hid (ftext_def f c)
  clear ih ih2 h hok hd hcnt
  unfold cV
  dsimp only [vi]
  generalize ftext (f + 1) c = r at HE ⊢
  go_enter Tryz.func43, Tryz.ntmps43
  go_wp2_with (fail)
  first | (refine calls_named ?_; intro W hW) | (refine body_named ?_; intro W hW) | (refine wpList_named ?_; intro W hW) | (refine wp_named ?_; intro W hW)
  have HB1 := Lib.hid (show Below w.heap.size w W by rw [← hW]; exact (Below.refl _ _).alloc (Nat.le_refl _) _)
  have HX1 := Lib.hid (show Blk W w.heap.size 24 #[.int .i64 c.k, .int .i64 c.v, .int .i64 c.n, .slice A m d] by rw [← hW]; exact Blk.new _ _ _)
  clear hW
  refine (rcore_any (S := fun k => w.heap.size ≤ k) (c := c) ((HR.out.new.below HB1.out).sub fun k hk => .inr hk)).mono ?_
  rintro e w1 ⟨⟨A1, m1, d1, rfl, hr1⟩, hb1⟩
  have HB2 := Lib.hid (HB1.out.trans (hb1.mono HB1.out.size))
  have HR1 := Lib.hid (hr1.below hb1)
  have HX2 := Lib.hid (HX1.out.below hb1 HX1.out.lt)
  clear hr1 hb1 HB1 HX1
  generalize core c = x at *
  unfold cV
  dsimp only [vi]
  have c0 := HX2.out.cell 0
  have c1 := HX2.out.cell 1
  have c2 := HX2.out.cell 2
  have c3 := HX2.out.cell 3
  have f0 := HX2.out.frozen 0
  have f1 := HX2.out.frozen 1
  have f2 := HX2.out.frozen 2
  have f3 := HX2.out.frozen 3
  have cl := HX2.out.lt
  go_wp2_with (with_reducible refine at_op (Op.load 3 (.tmp 8)) rfl ?_; refine Hid.out ?_)
  refine Lib.hid ?_
  first | (refine calls_named ?_; intro W3 hW) | (refine body_named ?_; intro W3 hW) | (refine wpList_named ?_; intro W3 hW) | (refine wp_named ?_; intro W3 hW)
  have hs := HX2.out.set4 (y0 := .int .i64 x.k) (y1 := .int .i64 x.v) (y2 := .int .i64 x.n) (y3 := .slice A1 m1 d1)
  have hO3 : Only (· = w.heap.size) w1 W3 := by rw [← hW]; exact hs.2
  have HX3 := Lib.hid (show Blk W3 w.heap.size 24 #[.int .i64 x.k, .int .i64 x.v, .int .i64 x.n, .slice A1 m1 d1] by rw [← hW]; exact hs.1)
  have HB3 := Lib.hid (hO3.below HB2.out HB2.out.size (fun k hk => by rw [show k = w.heap.size from hk]; exact Nat.le_refl _))
  have HY := Lib.hid (HR1.out.only hO3 (fun k hk => by rw [show k = w.heap.size from hk]; exact Nat.le_refl _))
  have HM := Lib.hid (HR1.out.len.trans (toL_len x.ps).symm)
  have hcap := HR1.out.choose_spec.1.cap
  have hbig := HR1.out.choose_spec.1.big
  clear hW hs c0 c1 c2 c3 f0 f1 f2 f3 cl HR1 hO3 HX2 HB2 HR
  have x0 := HX3.out.cell 0
  have xl := HX3.out.lt
  have hkc : x.k = 1 ∨ x.k = 4 ∨ x.k = 2 ∨ x.k = 3 := by
    rcases okC_cases HOK.out with h | h | h
    · exact .inl h.1
    · exact .inr (.inl h.1)
    · rcases h.1 with h | h
      · exact .inr (.inr (.inl h))
      · exact .inr (.inr (.inr h))
  rcases hkc with hk | hk | hk | hk
  · have k1 : (x.k == 1) = true := by rw [hk]; rfl
    have HE2 := Lib.hid (HE.out.trans (if_pos hk))
    have HV := Lib.hid (show (1 ≤ x.v ∧ x.v ≤ 4) ∧ 0 ≤ x.n ∧ x.n ≤ 64 by
      rcases okC_cases HOK.out with h | h | h
      · exact ⟨⟨h.2.1, h.2.2.1⟩, h.2.2.2.1, h.2.2.2.2.1⟩
      · have := h.1; omega
      · have := h.1; omega)
    clear HE hk
    go_wp2_with (fail)
    have X1 := cell_by xl (show W3.cell? ⟨w.heap.size, 1, none⟩ = some (.int .i64 x.v) from HX3.out.cell 1)
    have X2 := cell_by xl (show W3.cell? ⟨w.heap.size, 2, none⟩ = some (.int .i64 x.n) from HX3.out.cell 2)
    have hc1 := calls_by (w := W3) (fun W _ => (pvar_any HV.out.1 W).mono fun e w' ⟨h1, h2⟩ => ⟨h1, by rw [← h2]; exact Below.refl _ _⟩)
    have hc2 := calls_by (w := W3) (fun W _ => pnum_any (n := x.n) (by have := HV.out.2; omega) W)
    have hl1 := varW_len x.v
    have hl2 := dec_len22 x.n
    generalize varW x.v = s1 at *
    generalize dec x.n = s2 at *
    have hs1 : ¬ (9223372036854775807 < s1.length + 4) := by omega
    have hs2 : ¬ (9223372036854775807 < s1.length + 4 + s2.length) := by omega
    clear x0
    refine wp_region_below mixF (by kernel_rfl) ?_
    repeat (go_big_quiet_step (first | (go_at_call 89; with_reducible exact hc1 _) | (go_at_call 58; with_reducible exact hc2 _)))
    refine wpQuiet_nil ?_
    intro _ hw'
    obtain ⟨⟨wq, hbq⟩, hw2⟩ := hw'
    subst hw2
    have HB4 := Lib.hid (HB3.out.trans (hbq.mono HB3.out.size))
    clear X1 X2 hc1 hc2 hbq
    go_wp2_with (fail)
    go_ret
    exact ⟨congrArg (fun s => Ending.returned (.string s)) (by rw [HE2.out, show ({ data := #[32, 62, 61, 32] } : ByteArray) = bs [32, 62, 61, 32] from rfl, bs_add, bs_add]), HB4.out⟩
  · have k1 : (x.k == 1) = false := by rw [hk]; rfl
    have k4 : (x.k == 4) = true := by rw [hk]; rfl
    have HE2 := Lib.hid (HE.out.trans ((if_neg (by omega)).trans (if_pos hk)))
    have hm1 : m1 = 1 := by
      rcases okC_cases HOK.out with h | h | h
      · have := h.1; omega
      · rw [HM.out, ← num_lenQ]; exact h.2.2.2.1
      · have := h.1; omega
    subst hm1
    obtain ⟨b, off, p, B, n, e, rfl, hb, hS, hp, h0, h1, h2, h3, hr⟩ := HY.out.elem (i := 0) (by omega)
    have HP := Lib.hid (part_ok HOK.out (by omega) (mem_at hp))
    have HPE := Lib.hid (show r = [110, 111, 116, 32] ++ foper f p by
      rw [HE2.out]
      cases hq : x.ps.toL with
      | nil => rw [hq] at hp; cases hp
      | cons y z => rw [hq] at hp; rw [show y = p by simpa using hp])
    have HRp := Lib.hid hr
    have hlen := (text_len f p).2
    have hlen2 := HP.out.2.2
    have hcnt := HC.out
    have hs1 : ¬ (9223372036854775807 < 4 + (foper f p).length) := by omega
    have x3 := HX3.out.cell 3
    rw [Nat.zero_mul, Nat.add_zero] at h0 h1 h2 h3
    clear HE HE2 hk hp hr hS hlen hlen2 hcnt
    go_wp2_with (fail)
    refine (HO.out _ p B n e W3 HP.out.1 (by have := HP.out.2.1; have := HD.out; omega) (by have := HP.out.2.2; have := HC.out; omega) HRp.out).mono ?_
    rintro e w4 ⟨rfl, hb4⟩
    have HB4 := Lib.hid (HB3.out.trans (hb4.mono HB3.out.size))
    clear hb4
    go_wp2_with (fail)
    go_ret
    exact ⟨congrArg (fun s => Ending.returned (.string s)) (by rw [HPE.out, show ({ data := #[110, 111, 116, 32] } : ByteArray) = bs [110, 111, 116, 32] from rfl, bs_add]), HB4.out⟩
  · have k1 : (x.k == 1) = false := by rw [hk]; rfl
    have k4 : (x.k == 4) = false := by rw [hk]; rfl
    have k2 : (x.k == 2) = true := by rw [hk]; rfl
    have HE2 := Lib.hid (show r = joinW [32, 97, 110, 100, 32] (x.ps.toL.map (foper f)) from HE.out.trans ((if_neg (by omega)).trans ((if_neg (by omega)).trans (if_pos hk))))
    have HMX := Lib.hid (show ∀ T : List UInt8, T.length ≤ 500000 → ∀ p : CT, p ∈ x.ps.toL → ¬ (9223372036854775807 < T.length + 5) ∧ ¬ (9223372036854775807 < T.length + 5 + (ftext f p).length) ∧ ¬ (9223372036854775807 < T.length + 5 + (foper f p).length) ∧ ¬ (9223372036854775807 < T.length + (ftext f p).length) ∧ ¬ (9223372036854775807 < T.length + (foper f p).length) from fun T hT p hp => by
      have h1 := (text_len f p).1
      have h2 := (text_len f p).2
      have h3 := (part_ok HOK.out (by omega) hp).2.2
      have h4 := HC.out
      omega)
    have HTL := Lib.hid (show ∀ i, (joinW [32, 97, 110, 100, 32] ((x.ps.toL.take i).map (foper f))).length ≤ 500000 from fun i => by
      have h1 := joinW_take_len (sep := [32, 97, 110, 100, 32]) (g := (foper f)) (by decide) (fun p => by exact (text_len f p).2) x.ps.toL i
      rw [← cnt_L] at h1
      have h4 := HC.out
      omega)
    have HK := Lib.hid hk
    clear HE hk
    go_wp2_with (fail)
    go_loopw [3, 4] (fun s q wr => ∃ i : Nat, i ≤ m1 ∧ q = .int .i64 i ∧ s = .string (bs (joinW [32, 97, 110, 100, 32] ((x.ps.toL.take i).map (foper f)))) ∧ Hid (Below W3.heap.size W3 wr)) (fun _ q _ => m1 - (intOf q).toNat)
    case atStart => exact ⟨0, Nat.zero_le _, rfl, rfl, Below.refl _ _⟩
    case round =>
      obtain ⟨i, him, rfl, rfl, HB⟩ := hrel
      have hx := HX3.out.below HB.out HX3.out.lt
      clear x0 xl
      have x3 := hx.cell 3
      have xl := hx.lt
      have HBw := Lib.hid (HB3.out.trans (HB.out.mono HB3.out.size))
      have HXW := Lib.hid hx
      clear hx
      by_cases hlt : i < m1
      · obtain ⟨b, off, p, B, n, e, rfl, hb, hS, hp, h0, h1, h2, h3, hr⟩ := HY.out.elem hlt
        rw [← HB.out.cell (p := ⟨b, _, none⟩) hb] at h0 h1 h2 h3
        have hbl : b < wr.heap.size := Nat.lt_of_lt_of_le hb HB.out.size
        have HP := Lib.hid (part_ok HOK.out (by have := HK.out; omega) (mem_at hp))
        have HRp := Lib.hid (hr.below HB.out)
        have HJ := Lib.hid (show joinW [32, 97, 110, 100, 32] ((x.ps.toL.take (i + 1)).map (foper f)) = (if 0 < i then joinW [32, 97, 110, 100, 32] ((x.ps.toL.take i).map (foper f)) ++ [32, 97, 110, 100, 32] else []) ++ (foper f) p by
          by_cases h : 0 < i
          · rw [if_pos h]; exact joinW_more h hp
          · obtain rfl : i = 0 := by omega
            exact joinW_one hp)
        have HJ0 := Lib.hid (show ¬ 0 < i → joinW [32, 97, 110, 100, 32] ((x.ps.toL.take i).map (foper f)) = [] from fun h => by
          obtain rfl : i = 0 := by omega
          rfl)
        obtain ⟨l1, l2, l3, l4, l5⟩ := HMX.out _ (HTL.out i) p (mem_at hp)
        obtain ⟨T, HTT⟩ : ∃ T, Hid (T = joinW [32, 97, 110, 100, 32] ((x.ps.toL.take i).map (foper f))) := ⟨_, Lib.hid rfl⟩
        rw [← HTT.out] at HJ HJ0 l1 l2 l3 l4 l5 ⊢
        have hi2 : (i : Int) < (m1 : Int) := by omega
        clear hp hr hS HTT
        by_cases h0i : 0 < i
        · have hi0 : (0 : Int) < (i : Int) := by omega
          have HJ2 := Lib.hid (show joinW [32, 97, 110, 100, 32] ((x.ps.toL.take (i + 1)).map (foper f)) = T ++ [32, 97, 110, 100, 32] ++ (foper f) p by rw [HJ.out, if_pos h0i])
          clear h0i HJ HJ0
          go_wp2_with (fail)
          refine (HO.out _ p B n e wr HP.out.1 (by have := HP.out.2.1; have := HD.out; omega) (by have := HP.out.2.2; have := HC.out; omega) HRp.out).mono ?_
          rintro e w5 ⟨rfl, hb5⟩
          have HB5 := Lib.hid (HB.out.trans (hb5.mono HB.out.size))
          clear hb5 h0 h1 h2 h3 x3 xl
          go_wp2_with (fail)
          go_roundw
          case rel => exact ⟨i + 1, hlt, by go_num, congrArg Value.string (by rw [HJ2.out, ← bs_add, ← bs_add] <;> rfl), HB5.out⟩
          case measure => simp [intOf]; omega
        · have hi0 : ¬ (0 : Int) < (i : Int) := by omega
          have HJ2 := Lib.hid (show joinW [32, 97, 110, 100, 32] ((x.ps.toL.take (i + 1)).map (foper f)) = T ++ (foper f) p by rw [HJ.out, if_neg h0i, HJ0.out h0i])
          clear h0i HJ HJ0
          go_wp2_with (fail)
          refine (HO.out _ p B n e wr HP.out.1 (by have := HP.out.2.1; have := HD.out; omega) (by have := HP.out.2.2; have := HC.out; omega) HRp.out).mono ?_
          rintro e w5 ⟨rfl, hb5⟩
          have HB5 := Lib.hid (HB.out.trans (hb5.mono HB.out.size))
          clear hb5 h0 h1 h2 h3 x3 xl
          go_wp2_with (fail)
          go_roundw
          case rel => exact ⟨i + 1, hlt, by go_num, congrArg Value.string (by rw [HJ2.out, ← bs_add] <;> rfl), HB5.out⟩
          case measure => simp [intOf]; omega
      · obtain rfl : i = m1 := by omega
        have hjj : ¬ (i : Int) < (i : Int) := by omega
        have HF := Lib.hid (show joinW [32, 97, 110, 100, 32] ((x.ps.toL.take i).map (foper f)) = r by rw [HE2.out, List.take_of_length_le (by rw [← HM.out]; exact Nat.le_refl _)])
        go_wp2_with (fail)
        go_ret
        exact ⟨congrArg (fun l => Ending.returned (.string (bs l))) (by first | exact HF.out | (rw [← List.map_take]; exact HF.out)), HBw.out⟩
  · have k1 : (x.k == 1) = false := by rw [hk]; rfl
    have k4 : (x.k == 4) = false := by rw [hk]; rfl
    have k2 : (x.k == 2) = false := by rw [hk]; rfl
    have k3 : (x.k == 3) = true := by rw [hk]; rfl
    have HE2 := Lib.hid (show r = joinW [32, 111, 114, 32] (x.ps.toL.map (orG f)) from HE.out.trans ((if_neg (by omega)).trans ((if_neg (by omega)).trans (if_neg (by omega)))))
    have HMX := Lib.hid (show ∀ T : List UInt8, T.length ≤ 500000 → ∀ p : CT, p ∈ x.ps.toL → ¬ (9223372036854775807 < T.length + 4) ∧ ¬ (9223372036854775807 < T.length + 4 + (ftext f p).length) ∧ ¬ (9223372036854775807 < T.length + 4 + (foper f p).length) ∧ ¬ (9223372036854775807 < T.length + (ftext f p).length) ∧ ¬ (9223372036854775807 < T.length + (foper f p).length) from fun T hT p hp => by
      have h1 := (text_len f p).1
      have h2 := (text_len f p).2
      have h3 := (part_ok HOK.out (by omega) hp).2.2
      have h4 := HC.out
      omega)
    have HTL := Lib.hid (show ∀ i, (joinW [32, 111, 114, 32] ((x.ps.toL.take i).map (orG f))).length ≤ 500000 from fun i => by
      have h1 := joinW_take_len (sep := [32, 111, 114, 32]) (g := (orG f)) (by decide) (fun p => by exact orG_len f p) x.ps.toL i
      rw [← cnt_L] at h1
      have h4 := HC.out
      omega)
    have HK := Lib.hid hk
    clear HE hk
    go_wp2_with (fail)
    go_loopw [3, 5] (fun s q wr => ∃ i : Nat, i ≤ m1 ∧ q = .int .i64 i ∧ s = .string (bs (joinW [32, 111, 114, 32] ((x.ps.toL.take i).map (orG f)))) ∧ Hid (Below W3.heap.size W3 wr)) (fun _ q _ => m1 - (intOf q).toNat)
    case atStart => exact ⟨0, Nat.zero_le _, rfl, rfl, Below.refl _ _⟩
    case round =>
      obtain ⟨i, him, rfl, rfl, HB⟩ := hrel
      have hx := HX3.out.below HB.out HX3.out.lt
      clear x0 xl
      have x3 := hx.cell 3
      have xl := hx.lt
      have HBw := Lib.hid (HB3.out.trans (HB.out.mono HB3.out.size))
      have HXW := Lib.hid hx
      clear hx
      by_cases hlt : i < m1
      · obtain ⟨b, off, p, B, n, e, rfl, hb, hS, hp, h0, h1, h2, h3, hr⟩ := HY.out.elem hlt
        rw [← HB.out.cell (p := ⟨b, _, none⟩) hb] at h0 h1 h2 h3
        have hbl : b < wr.heap.size := Nat.lt_of_lt_of_le hb HB.out.size
        have HP := Lib.hid (part_ok HOK.out (by have := HK.out; omega) (mem_at hp))
        have HRp := Lib.hid (hr.below HB.out)
        have HJ := Lib.hid (show joinW [32, 111, 114, 32] ((x.ps.toL.take (i + 1)).map (orG f)) = (if 0 < i then joinW [32, 111, 114, 32] ((x.ps.toL.take i).map (orG f)) ++ [32, 111, 114, 32] else []) ++ (orG f) p by
          by_cases h : 0 < i
          · rw [if_pos h]; exact joinW_more h hp
          · obtain rfl : i = 0 := by omega
            exact joinW_one hp)
        have HJ0 := Lib.hid (show ¬ 0 < i → joinW [32, 111, 114, 32] ((x.ps.toL.take i).map (orG f)) = [] from fun h => by
          obtain rfl : i = 0 := by omega
          rfl)
        obtain ⟨l1, l2, l3, l4, l5⟩ := HMX.out _ (HTL.out i) p (mem_at hp)
        obtain ⟨T, HTT⟩ : ∃ T, Hid (T = joinW [32, 111, 114, 32] ((x.ps.toL.take i).map (orG f))) := ⟨_, Lib.hid rfl⟩
        rw [← HTT.out] at HJ HJ0 l1 l2 l3 l4 l5 ⊢
        have hi2 : (i : Int) < (m1 : Int) := by omega
        clear hp hr hS HTT
        by_cases h0i : 0 < i
        · have hi0 : (0 : Int) < (i : Int) := by omega
          have HJ2 := Lib.hid (show joinW [32, 111, 114, 32] ((x.ps.toL.take (i + 1)).map (orG f)) = T ++ [32, 111, 114, 32] ++ (orG f) p by rw [HJ.out, if_pos h0i])
          clear h0i HJ HJ0
          go_wp2_with (fail)
          refine (rcore_any (c := p) HRp.out).mono ?_
          rintro e w4 ⟨⟨A4, m4, d4, rfl, hr4⟩, hb4⟩
          have HB4 := Lib.hid (HB.out.trans (hb4.mono HB.out.size))
          have HB4W := Lib.hid hb4
          rw [← hb4.cell (p := ⟨b, _, none⟩) hbl] at h0 h1 h2 h3
          have hbl4 : b < w4.heap.size := Nat.lt_of_lt_of_le hbl hb4.size
          clear x3 xl
          have x3 := (HXW.out.below hb4 HXW.out.lt).cell 3
          have xl := (HXW.out.below hb4 HXW.out.lt).lt
          clear hr4 hb4 hbl
          have hfd : ∀ (a b c d : Value) (W : World), (Instr.field 24 (.agg #[a, b, c, d]) 0).run Tryz.prog W = .ok a W := fun _ _ _ _ _ => rfl
          unfold cV
          dsimp only [vi]
          by_cases hc3 : (core p).k = 3
          · have HJ3 := Lib.hid (show joinW [32, 111, 114, 32] ((x.ps.toL.take (i + 1)).map (orG f)) = T ++ [32, 111, 114, 32] ++ foper f p by rw [HJ2.out, orG_pos hc3])
            have hcb : ((core p).k == 3) = true := by rw [hc3]; rfl
            clear HJ2 hc3
            go_wp2_with (fail)
            refine (HO.out _ p B n e w4 HP.out.1 (by have := HP.out.2.1; have := HD.out; omega) (by have := HP.out.2.2; have := HC.out; omega) (HRp.out.below HB4W.out)).mono ?_
            rintro e w5 ⟨rfl, hb5⟩
            have HB5 := Lib.hid (HB4.out.trans (hb5.mono HB4.out.size))
            clear hb5 h0 h1 h2 h3 x3 xl
            go_wp2_with (fail)
            go_roundw
            case rel => exact ⟨i + 1, hlt, by go_num, congrArg Value.string (by rw [HJ3.out, ← bs_add, ← bs_add] <;> rfl), HB5.out⟩
            case measure => simp [intOf]; omega
          · have HJ3 := Lib.hid (show joinW [32, 111, 114, 32] ((x.ps.toL.take (i + 1)).map (orG f)) = T ++ [32, 111, 114, 32] ++ ftext f p by rw [HJ2.out, orG_neg hc3])
            have hcb : ((core p).k == 3) = false := by simpa using hc3
            clear HJ2 hc3
            go_wp2_with (fail)
            refine (HT.out _ p B n e w4 HP.out.1 (by have := HP.out.2.1; have := HD.out; omega) (by have := HP.out.2.2; have := HC.out; omega) (HRp.out.below HB4W.out)).mono ?_
            rintro e w5 ⟨rfl, hb5⟩
            have HB5 := Lib.hid (HB4.out.trans (hb5.mono HB4.out.size))
            clear hb5 h0 h1 h2 h3 x3 xl
            go_wp2_with (fail)
            go_roundw
            case rel => exact ⟨i + 1, hlt, by go_num, congrArg Value.string (by rw [HJ3.out, ← bs_add, ← bs_add] <;> rfl), HB5.out⟩
            case measure => simp [intOf]; omega
        · have hi0 : ¬ (0 : Int) < (i : Int) := by omega
          have HJ2 := Lib.hid (show joinW [32, 111, 114, 32] ((x.ps.toL.take (i + 1)).map (orG f)) = T ++ (orG f) p by rw [HJ.out, if_neg h0i, HJ0.out h0i])
          clear h0i HJ HJ0
          go_wp2_with (fail)
          refine (rcore_any (c := p) HRp.out).mono ?_
          rintro e w4 ⟨⟨A4, m4, d4, rfl, hr4⟩, hb4⟩
          have HB4 := Lib.hid (HB.out.trans (hb4.mono HB.out.size))
          have HB4W := Lib.hid hb4
          rw [← hb4.cell (p := ⟨b, _, none⟩) hbl] at h0 h1 h2 h3
          have hbl4 : b < w4.heap.size := Nat.lt_of_lt_of_le hbl hb4.size
          clear x3 xl
          have x3 := (HXW.out.below hb4 HXW.out.lt).cell 3
          have xl := (HXW.out.below hb4 HXW.out.lt).lt
          clear hr4 hb4 hbl
          have hfd : ∀ (a b c d : Value) (W : World), (Instr.field 24 (.agg #[a, b, c, d]) 0).run Tryz.prog W = .ok a W := fun _ _ _ _ _ => rfl
          unfold cV
          dsimp only [vi]
          by_cases hc3 : (core p).k = 3
          · have HJ3 := Lib.hid (show joinW [32, 111, 114, 32] ((x.ps.toL.take (i + 1)).map (orG f)) = T ++ foper f p by rw [HJ2.out, orG_pos hc3])
            have hcb : ((core p).k == 3) = true := by rw [hc3]; rfl
            clear HJ2 hc3
            go_wp2_with (fail)
            refine (HO.out _ p B n e w4 HP.out.1 (by have := HP.out.2.1; have := HD.out; omega) (by have := HP.out.2.2; have := HC.out; omega) (HRp.out.below HB4W.out)).mono ?_
            rintro e w5 ⟨rfl, hb5⟩
            have HB5 := Lib.hid (HB4.out.trans (hb5.mono HB4.out.size))
            clear hb5 h0 h1 h2 h3 x3 xl
            go_wp2_with (fail)
            go_roundw
            case rel => exact ⟨i + 1, hlt, by go_num, congrArg Value.string (by rw [HJ3.out, ← bs_add] <;> rfl), HB5.out⟩
            case measure => simp [intOf]; omega
          · have HJ3 := Lib.hid (show joinW [32, 111, 114, 32] ((x.ps.toL.take (i + 1)).map (orG f)) = T ++ ftext f p by rw [HJ2.out, orG_neg hc3])
            have hcb : ((core p).k == 3) = false := by simpa using hc3
            clear HJ2 hc3
            go_wp2_with (fail)
            refine (HT.out _ p B n e w4 HP.out.1 (by have := HP.out.2.1; have := HD.out; omega) (by have := HP.out.2.2; have := HC.out; omega) (HRp.out.below HB4W.out)).mono ?_
            rintro e w5 ⟨rfl, hb5⟩
            have HB5 := Lib.hid (HB4.out.trans (hb5.mono HB4.out.size))
            clear hb5 h0 h1 h2 h3 x3 xl
            go_wp2_with (fail)
            go_roundw
            case rel => exact ⟨i + 1, hlt, by go_num, congrArg Value.string (by rw [HJ3.out, ← bs_add] <;> rfl), HB5.out⟩
            case measure => simp [intOf]; omega
      · obtain rfl : i = m1 := by omega
        have hjj : ¬ (i : Int) < (i : Int) := by omega
        have HF := Lib.hid (show joinW [32, 111, 114, 32] ((x.ps.toL.take i).map (orG f)) = r by rw [HE2.out, List.take_of_length_le (by rw [← HM.out]; exact Nat.le_refl _)])
        go_wp2_with (fail)
        go_ret
        exact ⟨congrArg (fun l => Ending.returned (.string (bs l))) (by first | exact HF.out | (rw [← List.map_take]; exact HF.out)), HBw.out⟩
theorem ptx_zero : PTX 0 := fun S c A m d w hok hd => by unfold dpt at hd; omega
theorem ptx_all : ∀ f, PTX f ∧ POP f
  | 0 => ⟨ptx_zero, fun S c A m d w hok hd => by unfold dpt at hd; omega⟩
  | f + 1 => ⟨ptx_of f (ptx_all f).1 (ptx_all f).2, pop_of f (ptx_all f).1⟩
set_option maxHeartbeats 4000000 in
set_option maxRecDepth 100000 in
/-- The reference's Cond. -/
theorem pcond_any (S : Nat → Prop) (c : CT) (A : Option Addr) (m d : Nat) (w : World) (h : RepH S w c.ps A m d) (hz : c.ps.cnt ≤ 10000) : Calls Tryz.prog 14 #[cV c A m d] w fun e w' => e = .returned (.tuple #[.string (bs (fcond c).1), .int .i64 (fcond c).2]) ∧ Below w.heap.size w w' := by
  have HR := Lib.hid h
  have HQ := Lib.hid (fun W (hW : Below w.heap.size w W) => qcond_any S c A m d W (h.below hW) (by omega))
  have HE := Lib.hid (show fcond c = if tcond c ≠ 0 then ([], tcond c) else (ftext 100 c, 0) from rfl)
  have HZ := Lib.hid (tcond_zero (c := c))
  have HCN := Lib.hid hz
  clear h hz
  generalize fcond c = q at HE ⊢
  unfold cV at HQ ⊢
  dsimp only [vi] at HQ ⊢
  go_enter Tryz.func14, Tryz.ntmps14
  go_wp2_with (fail)
  first | (refine calls_named ?_; intro W hW) | (refine body_named ?_; intro W hW) | (refine wpList_named ?_; intro W hW) | (refine wp_named ?_; intro W hW)
  have HB := Lib.hid (show Below w.heap.size w W by rw [← hW]; exact (Below.refl _ _).alloc (Nat.le_refl _) _)
  have HX := Lib.hid (show Blk W w.heap.size 24 #[.int .i64 c.k, .int .i64 c.v, .int .i64 c.n, .slice A m d] by rw [← hW]; exact Blk.new _ _ _)
  clear hW
  refine (HQ.out W HB.out).mono ?_
  rintro e w1 ⟨hb1, rfl⟩
  have HB1 := Lib.hid (HB.out.trans (hb1.mono HB.out.size))
  have HX1 := Lib.hid (HX.out.below hb1 HX.out.lt)
  clear hb1 HX HB HQ
  by_cases hc : tcond c = 0
  · have HE2 := Lib.hid (HE.out.trans (if_neg (Classical.not_not.2 hc)))
    have HOK := Lib.hid (HZ.out hc)
    have x0 := HX1.out.cell 0
    have x1 := HX1.out.cell 1
    have x2 := HX1.out.cell 2
    have x3 := HX1.out.cell 3
    have xl := HX1.out.lt
    rw [hc]
    clear HE hc
    go_wp2_with (fail)
    refine ((ptx_all 100).1 S c A m d w1 HOK.out.2.2 (by
        have h1 := HOK.out.2.1
        have h2 : (CF.one c .nil).dep = max (c.ps.dep + 1) 0 := rfl
        unfold dpt
        omega) HCN.out (HR.out.below HB1.out)).mono ?_
    rintro e w3 ⟨rfl, hb3⟩
    have HB3 := Lib.hid (HB1.out.trans (hb3.mono HB1.out.size))
    clear hb3
    go_wp2_with (fail)
    go_ret2
    exact ⟨congrArg (fun (q : List UInt8 × Int) => Ending.returned (.tuple #[.string (bs q.1), .int .i64 q.2])) HE2.out.symm, HB3.out⟩
  · have HE2 := Lib.hid (HE.out.trans (if_pos hc))
    have htb : (tcond c != 0) = true := bne_iff_ne.2 hc
    generalize tcond c = t at htb HE2 ⊢
    clear HE hc
    go_wp2_with (fail)
    go_ret2
    exact ⟨congrArg (fun (q : List UInt8 × Int) => Ending.returned (.tuple #[.string (bs q.1), .int .i64 q.2])) HE2.out.symm, HB1.out⟩
end Go.Proofs.YticpjdjdimpglaaGreatDoor
