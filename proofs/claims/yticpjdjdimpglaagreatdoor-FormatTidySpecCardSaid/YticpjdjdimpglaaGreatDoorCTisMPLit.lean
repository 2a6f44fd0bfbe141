/- The reference's literal, not, covers by their contracts. -/
import Derived.Test.YticpjdjdimpglaaGreatDoorCTisMRCmp
import Derived.Test.YticpjdjdimpglaaGreatDoorCTisMYLaws
import Derived.Test.YticpjdjdimpglaaGreatDoorCTisMNor
namespace Go.Proofs.YticpjdjdimpglaaGreatDoor
set_option linter.unusedVariables false
set_option linter.unusedSimpArgs false
open Go.RowKit
theorem lit_first {c p : CT} (hk : c.k = 4) (hp : c.ps.toL[0]? = some p) : litO c = if p.k = 1 then some (p.v, p.n) else none := by
  unfold litO
  rw [if_neg (by omega), if_pos hk]
  cases hc : c.ps with
  | nil => rw [hc] at hp; simp [CF.toL] at hp
  | cons k v n ps r =>
    rw [hc] at hp
    have h : (⟨k, v, n, ps⟩ : CT) = p := by simpa [CF.toL] using hp
    rw [← h]
theorem lit_kind {c : CT} (h : litO c ≠ none) : c.k = 1 ∨ c.k = 4 := by
  unfold litO at h
  by_cases h1 : c.k = 1
  · exact .inl h1
  · rw [if_neg h1] at h
    by_cases h4 : c.k = 4
    · exact .inr h4
    · rw [if_neg h4] at h
      exact absurd rfl h
theorem nrm_pos {S : Nat → Prop} {w : World} {c : CT} {A : Option Addr} {m d : Nat} (hn : Nrm c) (h : RepH S w c.ps A m d) : c.k = 4 → 0 < m := fun hk => by
  rw [h.len]
  rcases hn with ⟨h1, _⟩ | ⟨_, _, _, v, n, hp⟩ | h1 | h1
  · omega
  · rw [hp]; exact Nat.succ_pos _
  · omega
  · omega
set_option maxHeartbeats 8000000 in
set_option maxRecDepth 100000 in
theorem plit_any {S : Nat → Prop} {c : CT} {A : Option Addr} {m d : Nat} {w : World} (h : RepH S w c.ps A m d) (hn : c.k = 4 → 0 < m) :
    Calls Tryz.prog 199 #[cV c A m d] w fun e w' => Below w.heap.size w w' ∧ ∃ (z : CT) (A' : Option Addr) (m' d' : Nat), e = .returned (.tuple #[cV z A' m' d', .bool (litO c).isSome]) ∧ ∀ v n, litO c = some (v, n) → z.v = v ∧ z.n = n := by
  have hcap := h.choose_spec.1.cap
  have hbig := h.choose_spec.1.big
  unfold cV
  dsimp only [vi]
  by_cases h1 : c.k = 1
  · have HO := Lib.hid (lit_one h1)
    have k1 : (c.k == 1) = true := by rw [h1]; rfl
    clear h hn h1
    go_enter Tryz.func199, Tryz.ntmps199
    go_wp2_with (fail)
    first | (refine calls_named ?_; intro W hW) | (refine body_named ?_; intro W hW) | (refine wpList_named ?_; intro W hW) | (refine wp_named ?_; intro W hW)
    have hb : Below w.heap.size w W := by rw [← hW]; exact ((Below.refl _ _).alloc (Nat.le_refl _) _).alloc (by simp) _
    have hr : Blk W (w.heap.size + 1) 24 #[.int .i64 c.k, .int .i64 c.v, .int .i64 c.n, .slice A m d] := by rw [← hW, ← World.size_alloc w]; exact Blk.new _ _ _
    clear hW
    have r0 := hr.cell 0
    have r1 := hr.cell 1
    have r2 := hr.cell 2
    have r3 := hr.cell 3
    refine bodyPost_ret (P := Tryz.prog) (fn := Tryz.f199) (v := .tuple #[.agg #[.int .i64 c.k, .int .i64 c.v, .int .i64 c.n, .slice A m d], .bool true]) (by simp [results, Tryz.results199, go_sem, r0, r1, r2, r3]; try rfl) rfl ?_
    exact ⟨hb, c, A, m, d, by rw [HO.out]; rfl, fun v n h => by rw [HO.out] at h; cases h; exact ⟨rfl, rfl⟩⟩
  have k1 : (c.k == 1) = false := beq_eq_false_iff_ne.2 h1
  by_cases h4 : c.k = 4
  · have k4 : (c.k == 4) = true := by rw [h4]; rfl
    obtain ⟨b, off, x, B, n, e, rfl, hb, hS, hx, g0, g1, g2, g3, hr⟩ := h.elem (hn h4)
    have HO := Lib.hid (lit_first h4 hx)
    have hm0 := hn h4
    rw [Nat.zero_mul, Nat.add_zero] at g0 g1 g2 g3
    clear h hn h1 h4 hx hr hS
    by_cases hx1 : x.k = 1
    · have kx : (x.k == 1) = true := by rw [hx1]; rfl
      have HO2 := Lib.hid (HO.out.trans (if_pos hx1))
      clear hx1
      go_enter Tryz.func199, Tryz.ntmps199
      go_wp2_with (fail)
      first | (refine calls_named ?_; intro W hW) | (refine body_named ?_; intro W hW) | (refine wpList_named ?_; intro W hW) | (refine wp_named ?_; intro W hW)
      have hb : Below w.heap.size w W := by rw [← hW]; exact ((Below.refl _ _).alloc (Nat.le_refl _) _).alloc (by simp) _
      have hr : Blk W (w.heap.size + 1) 24 #[.int .i64 x.k, .int .i64 x.v, .int .i64 x.n, .slice B n e] := by rw [← hW, ← World.size_alloc w]; exact Blk.new _ _ _
      clear hW
      have r0 := hr.cell 0
      have r1 := hr.cell 1
      have r2 := hr.cell 2
      have r3 := hr.cell 3
      refine bodyPost_ret (P := Tryz.prog) (fn := Tryz.f199) (v := .tuple #[.agg #[.int .i64 x.k, .int .i64 x.v, .int .i64 x.n, .slice B n e], .bool true]) (by simp [results, Tryz.results199, go_sem, r0, r1, r2, r3]; try rfl) rfl ?_
      exact ⟨hb, x, B, n, e, by rw [HO2.out]; rfl, fun v n h => by rw [HO2.out] at h; cases h; exact ⟨rfl, rfl⟩⟩
    · have kx : (x.k == 1) = false := beq_eq_false_iff_ne.2 hx1
      have HO2 := Lib.hid (HO.out.trans (if_neg hx1))
      clear hx1
      go_enter Tryz.func199, Tryz.ntmps199
      go_wp2_with (fail)
      first | (refine calls_named ?_; intro W hW) | (refine body_named ?_; intro W hW) | (refine wpList_named ?_; intro W hW) | (refine wp_named ?_; intro W hW)
      have hb : Below w.heap.size w W := by rw [← hW]; exact ((Below.refl _ _).alloc (Nat.le_refl _) _).alloc (by simp) _
      have hr : Blk W (w.heap.size + 1) 24 #[.int .i64 0, .int .i64 0, .int .i64 0, .slice none 0 0] := by rw [← hW, ← World.size_alloc w]; exact Blk.new _ _ _
      clear hW
      have r0 := hr.cell 0
      have r1 := hr.cell 1
      have r2 := hr.cell 2
      have r3 := hr.cell 3
      refine bodyPost_ret (P := Tryz.prog) (fn := Tryz.f199) (v := .tuple #[.agg #[.int .i64 0, .int .i64 0, .int .i64 0, .slice none 0 0], .bool false]) (by simp [results, Tryz.results199, go_sem, r0, r1, r2, r3]; try rfl) rfl ?_
      exact ⟨hb, .zero, none, 0, 0, by rw [HO2.out]; rfl, fun v n h => by rw [HO2.out] at h; cases h⟩
  · have k4 : (c.k == 4) = false := beq_eq_false_iff_ne.2 h4
    have HO2 := Lib.hid (show litO c = none by unfold litO; rw [if_neg h1, if_neg h4])
    clear h hn h1 h4
    go_enter Tryz.func199, Tryz.ntmps199
    go_wp2_with (fail)
    first | (refine calls_named ?_; intro W hW) | (refine body_named ?_; intro W hW) | (refine wpList_named ?_; intro W hW) | (refine wp_named ?_; intro W hW)
    have hb : Below w.heap.size w W := by rw [← hW]; exact ((Below.refl _ _).alloc (Nat.le_refl _) _).alloc (by simp) _
    have hr : Blk W (w.heap.size + 1) 24 #[.int .i64 0, .int .i64 0, .int .i64 0, .slice none 0 0] := by rw [← hW, ← World.size_alloc w]; exact Blk.new _ _ _
    clear hW
    have r0 := hr.cell 0
    have r1 := hr.cell 1
    have r2 := hr.cell 2
    have r3 := hr.cell 3
    refine bodyPost_ret (P := Tryz.prog) (fn := Tryz.f199) (v := .tuple #[.agg #[.int .i64 0, .int .i64 0, .int .i64 0, .slice none 0 0], .bool false]) (by simp [results, Tryz.results199, go_sem, r0, r1, r2, r3]; try rfl) rfl ?_
    exact ⟨hb, .zero, none, 0, 0, by rw [HO2.out]; rfl, fun v n h => by rw [HO2.out] at h; cases h⟩
theorem one_newS {S : Nat → Prop} {w : World} {b : Nat} {x : CT} {A : Option Addr} {m d : Nat} (hx : Blk w b 24 #[.int .i64 x.k, .int .i64 x.v, .int .i64 x.n, .slice A m d]) (hb : ¬ S b) (h : RepH S w x.ps A m d) : RepH S w (.one x .nil) (some ⟨b, 0, none⟩) 1 1 :=
  ⟨[vi x.k, vi x.v, vi x.n, .slice A m d], own_rd (own_of_blk2 (base := 0) (m := 1) hx rfl (Nat.zero_le _) (by omega)), fun _ p hp hs => by injection hp with hp; rw [← hp] at hs; exact hb hs, RepF.one1 h⟩
set_option maxRecDepth 100000 in
theorem pnot_any (S : Nat → Prop) (c : CT) (A : Option Addr) (m d : Nat) (w : World) (hS : ∀ k, S k → k < w.heap.size) (h : RepH S w c.ps A m d) : Calls Tryz.prog 112 #[.agg #[.int .i64 c.k, .int .i64 c.v, .int .i64 c.n, .slice A m d]] w fun e w' => Below w.heap.size w w' ∧ ∃ g, e = .returned (.agg #[.int .i64 4, .int .i64 0, .int .i64 0, .slice (some ⟨g, 0, none⟩) 1 1]) ∧ RepH S w' (.one c .nil) (some ⟨g, 0, none⟩) 1 1 := by
  have HR := Lib.hid h
  have HS := Lib.hid hS
  clear h hS
  go_enter Tryz.func112, Tryz.ntmps112
  go_wp2
  first | (refine calls_named ?_; intro W hW) | (refine body_named ?_; intro W hW) | (refine wpList_named ?_; intro W hW) | (refine wp_named ?_; intro W hW)
  have hb : Below w.heap.size w W := by rw [← hW]; exact (((Below.refl _ _).alloc (Nat.le_refl _) _).alloc (by simp) _).alloc (by simp; omega) _
  have hx : Blk W (w.heap.size + 1) 24 #[.int .i64 4, .int .i64 0, .int .i64 0, .slice (some ⟨w.heap.size + 1 + 1, 0, none⟩) 1 1] := by
    rw [← hW, ← World.size_alloc w]
    exact (Blk.new _ _ _).alloc _
  have hy : Blk W (w.heap.size + 1 + 1) 24 #[.int .i64 c.k, .int .i64 c.v, .int .i64 c.n, .slice A m d] := by rw [← hW]; exact Blk.at_end (by simp [World.size_alloc])
  clear hW
  have r0 := hx.cell 0
  have r1 := hx.cell 1
  have r2 := hx.cell 2
  have r3 := hx.cell 3
  exact bodyPost_ret (v := .agg #[.int .i64 4, .int .i64 0, .int .i64 0, .slice (some ⟨w.heap.size + 1 + 1, 0, none⟩) 1 1]) (by simp [results, Tryz.results112, go_sem, r0, r1, r2, r3]; try rfl) rfl ⟨hb, _, rfl, one_newS hy (fun h => by have := HS.out _ h; omega) (HR.out.below hb)⟩
set_option maxHeartbeats 8000000 in
set_option maxRecDepth 100000 in
theorem pcov_any {S S' : Nat → Prop} (kind : Int) (a b : CT) (A : Option Addr) (m d : Nat) (B : Option Addr) (n e : Nat) (w : World) (h1 : RepH S w a.ps A m d) (h2 : RepH S' w b.ps B n e) (ha : a.k = 4 → 0 < m) (hb : b.k = 4 → 0 < n) :
    Calls Tryz.prog 160 #[.int .i64 kind, cV a A m d, cV b B n e] w fun e w' => e = .returned (.bool (covers kind a b)) ∧ Below w.heap.size w w' := by
  have L1 := Lib.hid (fun W (hW : Below w.heap.size w W) => plit_any (h1.below hW) ha)
  have L2 := Lib.hid (fun W (hW : Below w.heap.size w W) => plit_any (h2.below hW) hb)
  have CM := Lib.hid (fun W (hW : Below w.heap.size w W) => rcmp_all (a.ps.cnt + 1) S S' a b A m d B n e W (Nat.lt_succ_self _) (h1.below hW) (h2.below hW))
  have HC := Lib.hid (show covers kind a b = match litO a, litO b with
    | some (v, n), some (v', n') => if a.k = b.k ∧ v = v' then (if (kind = 2) = (a.k = 1) then decide (n' ≤ n) else decide (n ≤ n')) else a.cmp b == 0
    | _, _ => a.cmp b == 0 from rfl)
  have HK := Lib.hid (fun h => lit_kind (c := a) h)
  clear h1 h2 ha hb
  generalize covers kind a b = r at HC ⊢
  generalize litO a = oa at L1 HC HK
  generalize litO b = ob at L2 HC
  generalize a.cmp b = cm at CM HC
  obtain ⟨k, v, q, ps⟩ := a
  obtain ⟨k', v', q', ps'⟩ := b
  unfold cV at L1 L2 CM ⊢
  dsimp only [vi] at L1 L2 CM HC HK ⊢
  go_enter Tryz.func160, Tryz.ntmps160
  go_wp2_with (fail)
  first | (refine calls_named ?_; intro W hW) | (refine body_named ?_; intro W hW) | (refine wpList_named ?_; intro W hW) | (refine wp_named ?_; intro W hW)
  have HB := Lib.hid (show Below w.heap.size w W by rw [← hW]; exact ((Below.refl _ _).alloc (Nat.le_refl _) _).alloc (by simp) _)
  have HX := Lib.hid (show Blk W w.heap.size 24 #[.int .i64 k, .int .i64 v, .int .i64 q, .slice A m d] by rw [← hW]; exact (Blk.new w _ _).alloc _)
  have HY := Lib.hid (show Blk W (w.heap.size + 1) 24 #[.int .i64 k', .int .i64 v', .int .i64 q', .slice B n e] by rw [← hW, ← World.size_alloc w]; exact Blk.new _ _ _)
  clear hW
  refine (L1.out W HB.out).mono ?_
  rintro e' w2 ⟨hb2, z1, A1, m1, d1, rfl, hz1⟩
  have HB2 := Lib.hid (HB.out.trans (hb2.mono HB.out.size))
  have HX2 := Lib.hid (HX.out.below hb2 HX.out.lt)
  have HY2 := Lib.hid (HY.out.below hb2 HY.out.lt)
  have HZ1 := Lib.hid hz1
  clear hb2 hz1 HX HY HB
  have y0 := HY2.out.cell 0
  have y1 := HY2.out.cell 1
  have y2 := HY2.out.cell 2
  have y3 := HY2.out.cell 3
  have yl := HY2.out.lt
  go_wp2_with (fail)
  first | (refine calls_named ?_; intro W3 hW) | (refine body_named ?_; intro W3 hW) | (refine wpList_named ?_; intro W3 hW) | (refine wp_named ?_; intro W3 hW)
  have hb3 : Below w2.heap.size w2 W3 := by rw [← hW]; exact (Below.refl _ _).alloc (Nat.le_refl _) _
  have HZ3 := Lib.hid (show Blk W3 w2.heap.size 24 #[.int .i64 z1.k, .int .i64 z1.v, .int .i64 z1.n, .slice A1 m1 d1] by rw [← hW]; exact Blk.new _ _ _)
  have HB3 := Lib.hid (HB2.out.trans (hb3.mono HB2.out.size))
  have HX3 := Lib.hid (HX2.out.below hb3 HX2.out.lt)
  have HY3 := Lib.hid (HY2.out.below hb3 HY2.out.lt)
  clear hb3 hW y0 y1 y2 y3 yl HX2 HY2 HB2
  generalize w2.heap.size = zb at *
  refine (L2.out W3 HB3.out).mono ?_
  rintro e' w4 ⟨hb4, z2, A2, m2, d2, rfl, hz2⟩
  have HB4 := Lib.hid (HB3.out.trans (hb4.mono HB3.out.size))
  have HX4 := Lib.hid (HX3.out.below hb4 HX3.out.lt)
  have HY4 := Lib.hid (HY3.out.below hb4 HY3.out.lt)
  have HZ4 := Lib.hid (HZ3.out.below hb4 HZ3.out.lt)
  have HZ2 := Lib.hid hz2
  clear hb4 hz2 HX3 HY3 HB3 HZ3
  have x0 := HX4.out.cell 0
  have x1 := HX4.out.cell 1
  have x2 := HX4.out.cell 2
  have x3 := HX4.out.cell 3
  have xl := HX4.out.lt
  have y0 := HY4.out.cell 0
  have y1 := HY4.out.cell 1
  have y2 := HY4.out.cell 2
  have y3 := HY4.out.cell 3
  have yl := HY4.out.lt
  have u1 := HZ4.out.cell 1
  have u2 := HZ4.out.cell 2
  have ul := HZ4.out.lt
  have HBA := Lib.hid (show Below w4.heap.size w4 (w4.alloc (.cells #[.int .i64 z2.k, .int .i64 z2.v, .int .i64 z2.n, .slice A2 m2 d2] 24)) from (Below.refl _ _).alloc (Nat.le_refl _) _)
  have HB5 := Lib.hid (HB4.out.trans (HBA.out.mono HB4.out.size))
  have CMP := Lib.hid (show r = (cm == 0) → ∀ W, Below w.heap.size w W → Calls Tryz.prog 69 #[.agg #[.int .i64 k, .int .i64 v, .int .i64 q, .slice A m d], .agg #[.int .i64 k', .int .i64 v', .int .i64 q', .slice B n e]] W fun e w' => e = .returned (.int .i64 cm) ∧ Below W.heap.size W w' ∧ r = (cm == 0) from fun hr W hW => (CM.out W hW).mono fun e w' ⟨h1, h2⟩ => ⟨h1, h2, hr⟩)
  cases oa with
  | none =>
    have HR := Lib.hid (HC.out)
    clear HZ1 HZ2 HK HC
    go_wp2_with (fail)
    refine (CMP.out HR.out _ HB5.out).mono ?_
    rintro e' w6 ⟨rfl, hb6, hr⟩
    have HB6 := Lib.hid (HB5.out.trans (hb6.mono HB5.out.size))
    have HRR := Lib.hid hr
    clear hb6 hr
    go_wp2_with (fail)
    go_ret
    exact ⟨congrArg (fun b => Ending.returned (.bool b)) HRR.out.symm, HB6.out⟩
  | some p1 =>
    obtain ⟨a1, b1⟩ := p1
    cases ob with
    | none =>
      have HR := Lib.hid (HC.out)
      clear HZ1 HZ2 HK HC
      go_wp2_with (fail)
      refine (CMP.out HR.out _ HB5.out).mono ?_
      rintro e' w6 ⟨rfl, hb6, hr⟩
      have HB6 := Lib.hid (HB5.out.trans (hb6.mono HB5.out.size))
      have HRR := Lib.hid hr
      clear hb6 hr
      go_wp2_with (fail)
      go_ret
      exact ⟨congrArg (fun b => Ending.returned (.bool b)) HRR.out.symm, HB6.out⟩
    | some p2 =>
      obtain ⟨a2, b2⟩ := p2
      obtain ⟨q1, q2⟩ := HZ1.out a1 b1 rfl
      obtain ⟨q3, q4⟩ := HZ2.out a2 b2 rfl
      subst q1 q2 q3 q4
      have HC2 := Lib.hid (show r = if k = k' ∧ z1.v = z2.v then (if (kind = 2) = (k = 1) then decide (z2.n ≤ z1.n) else decide (z1.n ≤ z2.n)) else cm == 0 from HC.out)
      have HKK := Lib.hid (HK.out (by simp))
      clear HZ1 HZ2 HK HC
      by_cases hk : k = k'
      case neg =>
        have HR := Lib.hid (HC2.out.trans (if_neg fun h => hk h.1))
        have kk : (k != k') = true := bne_iff_ne.2 hk
        clear hk
        go_wp2_with (fail)
        refine (CMP.out HR.out _ HB5.out).mono ?_
        rintro e' w6 ⟨rfl, hb6, hr⟩
        have HB6 := Lib.hid (HB5.out.trans (hb6.mono HB5.out.size))
        have HRR := Lib.hid hr
        clear hb6 hr
        go_wp2_with (fail)
        go_ret
        exact ⟨congrArg (fun b => Ending.returned (.bool b)) HRR.out.symm, HB6.out⟩
      by_cases hv : z1.v = z2.v
      case neg =>
        have HR := Lib.hid (HC2.out.trans (if_neg fun h => hv h.2))
        have kk : (k != k') = false := by simpa using hk
        have vv : (z1.v != z2.v) = true := bne_iff_ne.2 hv
        clear hk hv
        go_wp2_with (fail)
        refine (CMP.out HR.out _ HB5.out).mono ?_
        rintro e' w6 ⟨rfl, hb6, hr⟩
        have HB6 := Lib.hid (HB5.out.trans (hb6.mono HB5.out.size))
        have HRR := Lib.hid hr
        clear hb6 hr
        go_wp2_with (fail)
        go_ret
        exact ⟨congrArg (fun b => Ending.returned (.bool b)) HRR.out.symm, HB6.out⟩
      have HC3 := Lib.hid (HC2.out.trans (if_pos ⟨hk, hv⟩))
      have kk : (k != k') = false := by simpa using hk
      have vv : (z1.v != z2.v) = false := by simpa using hv
      clear hk hv HC2
      by_cases h2 : kind = 2
      · have e2 : (kind == 2) = true := by rw [h2]; rfl
        by_cases h4 : k = 4
        · have e4 : (k == 4) = true := by rw [h4]; rfl
          have HR := Lib.hid (show r = decide (z1.n ≤ z2.n) from HC3.out.trans (if_neg (by rw [h2, h4]; simp)))
          clear h2 h4 HC3
          go_wp2_with (fail)
          go_ret
          exact ⟨congrArg (fun b => Ending.returned (.bool b)) HR.out.symm, HB5.out⟩
        · have e4 : (k == 4) = false := by simpa using h4
          have HR := Lib.hid (show r = decide (z2.n ≤ z1.n) from HC3.out.trans (if_pos (by have := HKK.out; simp [h2]; omega)))
          clear h2 h4 HC3
          go_wp2_with (fail)
          go_ret
          exact ⟨congrArg (fun b => Ending.returned (.bool b)) HR.out.symm, HB5.out⟩
      · have e2 : (kind == 2) = false := by simpa using h2
        by_cases h4 : k = 4
        · have e4 : (k == 4) = true := by rw [h4]; rfl
          have HR := Lib.hid (show r = decide (z2.n ≤ z1.n) from HC3.out.trans (if_pos (by simp [h2, h4])))
          clear h2 h4 HC3
          go_wp2_with (fail)
          go_ret
          exact ⟨congrArg (fun b => Ending.returned (.bool b)) HR.out.symm, HB5.out⟩
        · have e4 : (k == 4) = false := by simpa using h4
          have HR := Lib.hid (show r = decide (z1.n ≤ z2.n) from HC3.out.trans (if_neg (by have h1 : k = 1 := (by have := HKK.out; omega); simp [h2, h1])))
          clear h2 h4 HC3
          go_wp2_with (fail)
          go_ret
          exact ⟨congrArg (fun b => Ending.returned (.bool b)) HR.out.symm, HB5.out⟩
end Go.Proofs.YticpjdjdimpglaaGreatDoor
