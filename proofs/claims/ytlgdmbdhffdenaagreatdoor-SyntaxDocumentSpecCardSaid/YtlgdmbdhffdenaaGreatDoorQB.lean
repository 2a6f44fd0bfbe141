/- The reference parser's unit by its contract, with fuel. -/
import Derived.Test.YtlgdmbdhffdenaaGreatDoorQA
namespace Go.Proofs.YtlgdmbdhffdenaaGreatDoor
set_option linter.unusedVariables false
set_option linter.unusedSimpArgs false
open Go.RowKit

/-- A condition's value in any case. -/
def JC (_ : World) (v : Value) : Prop := ∃ (k x m : Int) (A : Option Addr) (n c : Nat), v = .agg #[.int .i64 k, .int .i64 x, .int .i64 m, .slice A n c]
theorem cv_read {w w' : World} {c : CT} {k x m : Int} {A : Option Addr} {n cc : Nat} (h : CV w c w' (.agg #[.int .i64 k, .int .i64 x, .int .i64 m, .slice A n cc])) : c = ⟨k, x, m, c.ps⟩ ∧ RepH (fun k => k < w.heap.size) w' c.ps A n cc := by
  obtain ⟨A', m', c', e, hr⟩ := h
  obtain ⟨ck, cv, cn, cps⟩ := c
  unfold condV vi at e
  simp only [Value.agg.injEq, Array.mk.injEq, List.cons.injEq, Value.int.injEq, Value.slice.injEq, true_and, and_true] at e
  obtain ⟨rfl, rfl, rfl, rfl, rfl, rfl⟩ := e
  exact ⟨rfl, hr⟩
/-- The contract of unit with fuel f. -/
def QU (f : Nat) : Prop := ∀ (B g : Nat) (A : Option Addr) (n c : Nat) (T : List Tok) (s : Res Unit) (w : World), QSt w B g A n c T s → TOk T → posA s ≤ 65537 → T.length ≤ posA s + f →
  Calls Tryz.prog 97 #[.pointer (some ⟨g, 0, none⟩)] w (QPost w B g A n c T (s.bind fun _ a => punit T f a) (CV w) JC)
set_option maxHeartbeats 4000000 in
set_option maxRecDepth 100000 in
theorem zunit_walk (B g : Nat) (A : Option Addr) (n c : Nat) (T : List Tok) (s : Res Unit) (r q1 q2 : Res CT) (w : World) (h : QSt w B g A n c T s) (hT : TOk T) (ha : posA s ≤ 65537)
    (h1 : ∀ a, s = .ok () a → isB T a kNot = true → ∀ w', QSt w' B g A n c T (.ok () (a + 1)) → Calls Tryz.prog 97 #[.pointer (some ⟨g, 0, none⟩)] w' (QPost w' B g A n c T q1 (CV w') JC))
    (h2 : ∀ a, s = .ok () a → isB T a kLP = true → ∀ w', QSt w' B g A n c T (.ok () (a + 1)) → Calls Tryz.prog 33 #[.pointer (some ⟨g, 0, none⟩)] w' (QPost w' B g A n c T q2 (CV w') JC))
    (hq : posA q2.st ≤ 65538)
    (hr : r = if qis T s kNot then q1.map cnot else if qis T s kLP then q2.bind fun c n => (pwant T [kRP] n).map fun _ => c else s.bind fun _ a => pcomp T a) :
    Calls Tryz.prog 97 #[.pointer (some ⟨g, 0, none⟩)] w (QPost w B g A n c T r (CV w) JC) := by
  have hgw := h.lt
  have hb0 : Below w.heap.size w (w.alloc (.cells #[.int .i64 0, .int .i64 0, .int .i64 0, .slice none 0 0] 35)) := (Below.refl _ _).alloc (Nat.le_refl _) _
  have HX0 := Lib.hid (Blk.new w 35 #[.int .i64 0, .int .i64 0, .int .i64 0, .slice none 0 0])
  have H := Lib.hid (h.below hb0)
  have HT := Lib.hid hT
  have HBB := Lib.hid hb0
  have HC := zis_any B g A n c T s kNot _ (h.below hb0) (by omega)
  clear h hb0
  cases hB : qis T s kNot with
  | true =>
    have HR := Lib.hid (show r = q1.map cnot by rw [hr, if_pos hB])
    rw [hB] at HC
    obtain ⟨a, rfl, hi⟩ : ∃ a, s = .ok () a ∧ isB T a kNot = true := by
      cases s with
      | ok u a => exact ⟨a, rfl, hB⟩
      | bad _ => cases hB
    have HC := Lib.hid HC
    have H1 := Lib.hid (h1 a rfl hi)
    have hpa : a ≤ 65537 := ha
    clear h1 h2 hr hq hB hi
    go_enter Tryz.func97, Tryz.ntmps97
    go_wp2_with (fail)
    refine HC.out.mono ?_
    rintro e w1 ⟨rfl, hb1⟩
    have g1 := H.out.below hb1
    have c1 : w1.cell? ⟨g, 1, none⟩ = some (.int .i64 (a : Int)) := g1.at_
    have fz := g1.free 1
    have hgl := g1.lt
    have HM := Lib.hid (QSt.move g1 (s' := .ok () (a + 1)) rfl)
    have HO1 := Lib.hid ((Only.of_below (S := (· = g)) HBB.out).trans ((Only.of_below (S := (· = g)) hb1).trans (Only.set (S := (· = g)) w1 (p := ⟨g, 1, none⟩) rfl (.int .i64 (posA (.ok () (a + 1)) : Int)))))
    have HX1 := Lib.hid ((HX0.out.below hb1 HX0.out.lt).only (Only.set (S := (· = g)) w1 (p := ⟨g, 1, none⟩) rfl (.int .i64 (posA (.ok () (a + 1)) : Int))) (by omega))
    clear g1 hb1 HX0
    go_wp2_with (fail)
    refine (H1.out _ HM.out).mono ?_
    rintro e w2 ⟨ho2, hq2, _, rfl, ⟨k, x, m, A1, n1, c1', rfl⟩, hv2⟩
    have HX2 := Lib.hid (HX1.out.only ho2 (by omega))
    have HO2 := Lib.hid (HO1.out.trans ho2)
    have HQ2 := Lib.hid hq2
    have HV2 := Lib.hid hv2
    have hsz := HO1.out.size
    have hcw := HX1.out.lt
    clear HX1 ho2 hq2 hv2 c1 fz
    go_wp2_with (fail)
    refine (znot_any k x m A1 n1 c1' w2).mono ?_
    rintro e w3 ⟨b, hb, rfl, hb3, hk3⟩
    have hsz2 := HO2.out.size
    have HO3 := Lib.hid (HO2.out.trans (Only.of_below hb3))
    have HB3 := Lib.hid hb3
    have HK3 := Lib.hid hk3
    have HX3 := Lib.hid (HX2.out.below hb3 HX2.out.lt)
    have hcw2 := HX2.out.lt
    clear hb3 hk3 HX2
    obtain ⟨x0, x1, x2, x3, f0, f1, f2, f3⟩ := HX3.out.four
    have lx := HX3.out.lt
    go_wp2_with (fail)
    first | (refine calls_named ?_; intro W hW) | (refine body_named ?_; intro W hW) | (refine wpList_named ?_; intro W hW) | (refine wp_named ?_; intro W hW)
    obtain ⟨hk, hO⟩ : Blk W w.heap.size 35 #[.int .i64 4, .int .i64 0, .int .i64 0, .slice (some ⟨b, 0, none⟩) 1 1] ∧ Only (· = w.heap.size) w3 W := by rw [← hW]; exact HX3.out.set4
    clear hW x0 x1 x2 x3 f0 f1 f2 f3
    obtain ⟨y0, y1, y2, y3, _⟩ := hk.four
    refine bodyPost_ret (by simp [results, Tryz.results97, go_sem, y0, y1, y2, y3]; try rfl) rfl ?_
    refine ⟨HO3.out.new hO (fun k e => by rw [e]; exact Nat.le_refl _), ?_, _, rfl, ⟨_, _, _, _, _, _, rfl⟩, fun y j e => ?_⟩
    · rw [HR.out, st_map]; exact (HQ2.out.below HB3.out).only hO (by omega) (fun k e => by rw [e]; have := HQ2.out.lb; omega)
    · rw [HR.out] at e
      obtain ⟨x', e1, rfl⟩ := Res.map_ok e
      obtain ⟨e2, hr2⟩ := cv_read (HV2.out x' j e1)
      have hr3 : RepH (fun k => k < w.heap.size) W x'.ps A1 n1 c1' := ((hr2.only (S' := fun _ => False) (Only.of_below HB3.out) (fun _ h => h.elim)).only hO (fun k e => by rw [e]; exact hcw)).sub (fun k hk => Nat.lt_of_lt_of_le hk hsz)
      have hF : RepF (fun k => k < w.heap.size) W (cnot x').ps [vi k, vi x, vi m, .slice A1 n1 c1'] := by
        rw [e2]
        exact RepF.one (c := ⟨k, x, m, x'.ps⟩) hr3
      exact ⟨some ⟨b, 0, none⟩, 1, 1, rfl, RepH.blk (F := (cnot x').ps) (HK3.out.only hO (by omega)) (xs := [vi k, vi x, vi m, .slice A1 n1 c1']) hF (by omega) (by simp [cnot, CF.one, CF.len])⟩
  | false =>
    rw [hB] at HC
    have HC := Lib.hid HC
    have HC2 := fun w' hs => zis_any B g A n c T s kLP w' hs (by omega)
    cases hB2 : qis T s kLP with
    | true =>
      have HR := Lib.hid (show r = q2.bind fun c n => (pwant T [kRP] n).map fun _ => c by rw [hr, if_neg (by rw [hB]; decide), if_pos hB2])
      rw [hB2] at HC2
      obtain ⟨a, rfl, hi⟩ : ∃ a, s = .ok () a ∧ isB T a kLP = true := by
        cases s with
        | ok u a => exact ⟨a, rfl, hB2⟩
        | bad _ => cases hB2
      have HC2 := Lib.hid HC2
      have H2 := Lib.hid (h2 a rfl hi)
      have hpa : a ≤ 65537 := ha
      clear h1 h2 hr hB hB2 hi
      go_enter Tryz.func97, Tryz.ntmps97
      go_wp2_with (fail)
      refine HC.out.mono ?_
      rintro e w0 ⟨rfl, hb0⟩
      have H0 := Lib.hid (H.out.below hb0)
      have hx1 := HX0.out.below hb0 HX0.out.lt
      have HB0 := Lib.hid (HBB.out.trans (hb0.mono HBB.out.size))
      clear hb0 HX0
      go_wp2_with (fail)
      refine (HC2.out w0 H0.out).mono ?_
      rintro e w1 ⟨rfl, hb1⟩
      have g1 := H0.out.below hb1
      have hx2 := (hx1.below hb1 hx1.lt).only (Only.set (S := (· = g)) w1 (p := ⟨g, 1, none⟩) rfl (.int .i64 (posA (.ok () (a + 1)) : Int))) (by omega)
      have c1 : w1.cell? ⟨g, 1, none⟩ = some (.int .i64 (a : Int)) := g1.at_
      have fz := g1.free 1
      have hgl := g1.lt
      have HM := Lib.hid (QSt.move g1 (s' := .ok () (a + 1)) rfl)
      have HO1 := Lib.hid ((Only.of_below (S := (· = g)) HB0.out).trans ((Only.of_below (S := (· = g)) hb1).trans (Only.set (S := (· = g)) w1 (p := ⟨g, 1, none⟩) rfl (.int .i64 (posA (.ok () (a + 1)) : Int)))))
      clear g1 hb1 hx1
      go_wp2_with (fail)
      refine (H2.out _ HM.out).mono ?_
      rintro e w2 ⟨ho2, hq2, _, rfl, ⟨k, x, m, A1, n1, c1', rfl⟩, hv2⟩
      have hx3 := hx2.only ho2 (by omega)
      have HO2 := Lib.hid (HO1.out.trans ho2)
      have HQ2 := Lib.hid hq2
      have HV2 := Lib.hid hv2
      have hsz := HO1.out.size
      have hg2 := hq2.lt
      have hszM := HM.out.lt
      have hcw := hx2.lt
      have HX3 := Lib.hid hx3
      clear ho2 hq2 hv2 c1 fz hx2 hx3
      go_wp2_with (fail)
      first | (refine calls_named ?_; intro W3 hW3) | (refine body_named ?_; intro W3 hW3) | (refine wpList_named ?_; intro W3 hW3) | (refine wp_named ?_; intro W3 hW3)
      have hc3 : Blk W3 w2.heap.size 35 #[.int .i64 k, .int .i64 x, .int .i64 m, .slice A1 n1 c1'] := by rw [← hW3]; exact (Blk.new w2 _ _).alloc _
      have hk3 : Blk W3 (w2.heap.size + 1) 9 #[.string (bs kRP)] := by rw [← hW3, ← World.size_alloc]; exact Blk.new _ _ _
      have hb3 : Below w2.heap.size w2 W3 := by rw [← hW3]; exact ((Below.refl _ _).alloc (Nat.le_refl _) _).alloc (by simp) _
      have hcw2 := HX3.out.lt
      have HX3b := Lib.hid (HX3.out.below hb3 HX3.out.lt)
      clear hW3 HX3
      refine (zwant_any B g A n c T q2.st (some ⟨w2.heap.size + 1, 0, none⟩) 1 1 W3.heap.size [kRP] W3 (HQ2.out.below hb3) (by omega) (rd_texts (ws := [kRP]) hk3 (by decide)) (Nat.le_refl _) (fun p hp => by injection hp with hp; rw [← hp]; show w2.heap.size + 1 ≠ g; omega) (by omega)).mono ?_
      rintro e w4 ⟨ho4, hq4, _, rfl, rfl, _⟩
      have hc4 := hc3.only ho4 (by omega)
      have HO4 := Lib.hid (HO2.out.trans ((Only.of_below hb3).trans ho4))
      have HO5 := Lib.hid ((Only.of_below (S := (· = g)) hb3).trans ho4)
      have HQ4 := Lib.hid hq4
      have HX4 := Lib.hid (HX3b.out.only ho4 (by omega))
      obtain ⟨z0, z1, z2, z3, _⟩ := hc4.four
      have hl4 := hc4.lt
      clear hc3 hk3 hb3 ho4 hq4 hc4 HX3b
      obtain ⟨x0, x1, x2, x3, f0, f1, f2, f3⟩ := HX4.out.four
      have lx := HX4.out.lt
      go_wp2_with (fail)
      first | (refine calls_named ?_; intro W hW) | (refine body_named ?_; intro W hW) | (refine wpList_named ?_; intro W hW) | (refine wp_named ?_; intro W hW)
      obtain ⟨hk, hO⟩ : Blk W w.heap.size 35 #[.int .i64 k, .int .i64 x, .int .i64 m, .slice A1 n1 c1'] ∧ Only (· = w.heap.size) w4 W := by rw [← hW]; exact HX4.out.set4
      clear hW x0 x1 x2 x3 f0 f1 f2 f3
      obtain ⟨y0, y1, y2, y3, _⟩ := hk.four
      refine bodyPost_ret (by simp [results, Tryz.results97, go_sem, y0, y1, y2, y3]; try rfl) rfl ?_
      have e0 : r.st = (q2.st.bind fun _ a => pwant T [kRP] a).st := by
        rw [HR.out]
        cases q2 with
        | bad _ => rfl
        | ok x n => show ((pwant T [kRP] n).map _).st = (pwant T [kRP] n).st; exact st_map _ _
      refine ⟨HO4.out.new hO (fun k e => by rw [e]; exact Nat.le_refl _), ?_, _, rfl, ⟨_, _, _, _, _, _, rfl⟩, fun y j e => ?_⟩
      · rw [e0]; exact HQ4.out.only hO (by omega) (fun k e => by rw [e]; have := HQ4.out.lb; omega)
      · rw [HR.out] at e
        obtain ⟨x', j', e1, e3⟩ := Res.bind_ok e
        obtain ⟨_, _, rfl⟩ := Res.map_ok e3
        obtain ⟨e2, hr2⟩ := cv_read (HV2.out x' j' e1)
        have hr3 : RepH (fun k => k < w.heap.size) W x'.ps A1 n1 c1' := ((hr2.only HO5.out (fun k hk => by subst hk; exact hszM)).only hO (fun k e => by rw [e]; exact hcw)).sub (fun k hk => Nat.lt_of_lt_of_le hk hsz)
        rw [e2]
        exact ⟨A1, n1, c1', rfl, hr3⟩
    | false =>
      have HR := Lib.hid (show r = s.bind fun _ a => pcomp T a by rw [hr, if_neg (by rw [hB]; decide), if_neg (by rw [hB2]; decide)])
      rw [hB2] at HC2
      have HC2 := Lib.hid HC2
      clear h1 h2 hr hB hB2 hq
      obtain ⟨r1, e1⟩ : ∃ r1, r1 = s.bind fun _ a => qchoose T [kTied, kRound, kFin, kClubs] 0 a := ⟨_, rfl⟩
      obtain ⟨r2, e2⟩ : ∃ r2, r2 = r1.st.bind fun _ a => qchoose T [kGe, kLe, kGt, kLt, kEq] 0 a := ⟨_, rfl⟩
      obtain ⟨r3, e3⟩ : ∃ r3, r3 = r2.st.bind fun _ a => pint T a := ⟨_, rfl⟩
      obtain ⟨k1, k2⟩ := comp_three T s e1 e2 e3
      rw [← HR.out] at k1 k2
      have K1 := Lib.hid k1
      have K2 := Lib.hid k2
      have p1 : posA r1.st ≤ 65538 := by
        have := bind_in (L := T.length) (s := s) (fun a => qchoose_in T [kTied, kRound, kFin, kClubs] 0 a)
        rw [← e1] at this
        have := HT.out.len
        omega
      have p2 : posA r2.st ≤ 65538 := by
        have := bind_in (L := T.length) (s := r1.st) (fun a => qchoose_in T [kGe, kLe, kGt, kLt, kEq] 0 a)
        rw [← e2] at this
        have := HT.out.len
        omega
      have E1 := Lib.hid e1
      have E2 := Lib.hid e2
      have E3 := Lib.hid e3
      clear k1 k2 e1 e2 e3
      go_enter Tryz.func97, Tryz.ntmps97
      go_wp2_with (fail)
      refine HC.out.mono ?_
      rintro e w0 ⟨rfl, hb0⟩
      have H0 := Lib.hid (H.out.below hb0)
      have HB0 := Lib.hid (HBB.out.trans (hb0.mono HBB.out.size))
      have HX1 := Lib.hid (HX0.out.below hb0 HX0.out.lt)
      clear hb0 HX0
      go_wp2_with (fail)
      refine (HC2.out w0 H0.out).mono ?_
      rintro e w1 ⟨rfl, hb1⟩
      have g1 := Lib.hid (H0.out.below hb1)
      have HB1 := Lib.hid (HB0.out.trans (hb1.mono HB0.out.size))
      have HX2 := Lib.hid (HX1.out.below hb1 HX1.out.lt)
      clear hb1 HX1
      go_wp2_with (fail)
      first | (refine calls_named ?_; intro W2 hW2) | (refine body_named ?_; intro W2 hW2) | (refine wpList_named ?_; intro W2 hW2) | (refine wp_named ?_; intro W2 hW2)
      have hb2 : Below w1.heap.size w1 W2 := by rw [← hW2]; exact (Below.refl _ _).alloc (Nat.le_refl _) _
      have hk2 : Blk W2 w1.heap.size 9 (([kTied, kRound, kFin, kClubs] : List (List UInt8)).map fun s => (.string (bs s) : Value)).toArray := by rw [← hW2]; exact Blk.new _ _ _
      have hg1 := g1.out.lt
      clear hW2
      have C2 := zchoose_any B g A n c T s (some ⟨w1.heap.size, 0, none⟩) 4 4 W2.heap.size [kTied, kRound, kFin, kClubs] W2 (g1.out.below hb2) (by omega) (rd_texts (ws := [kTied, kRound, kFin, kClubs]) hk2 (by decide)) (Nat.le_refl _) (fun p hp => by injection hp with hp; rw [← hp]; show w1.heap.size ≠ g; omega) (by omega)
      rw [← E1.out] at C2
      refine C2.mono ?_
      clear C2
      rintro e w3 ⟨ho3, hq3, _, rfl, ⟨x, rfl, hx'⟩, hv3⟩
      have hx : x < 4 := by omega
      have HO3 := Lib.hid ((Only.of_below (S := (· = g)) HB1.out).trans ((Only.of_below hb2).trans ho3))
      have HQ3 := Lib.hid hq3
      have HV3 := Lib.hid hv3
      have HX3 := Lib.hid ((HX2.out.below hb2 HX2.out.lt).only ho3 (by omega))
      clear hx' hb2 hk2 ho3 hq3 hv3 HX2
      go_wp2_with (fail)
      first | (refine calls_named ?_; intro W4 hW4) | (refine body_named ?_; intro W4 hW4) | (refine wpList_named ?_; intro W4 hW4) | (refine wp_named ?_; intro W4 hW4)
      have hb4 : Below w3.heap.size w3 W4 := by rw [← hW4]; exact (Below.refl _ _).alloc (Nat.le_refl _) _
      have hk4 : Blk W4 w3.heap.size 9 (([kGe, kLe, kGt, kLt, kEq] : List (List UInt8)).map fun s => (.string (bs s) : Value)).toArray := by rw [← hW4]; exact Blk.new _ _ _
      have hg3 := HQ3.out.lt
      clear hW4
      have C4 := zchoose_any B g A n c T r1.st (some ⟨w3.heap.size, 0, none⟩) 5 5 W4.heap.size [kGe, kLe, kGt, kLt, kEq] W4 (HQ3.out.below hb4) (by omega) (rd_texts (ws := [kGe, kLe, kGt, kLt, kEq]) hk4 (by decide)) (Nat.le_refl _) (fun p hp => by injection hp with hp; rw [← hp]; show w3.heap.size ≠ g; omega) (by omega)
      rw [← E2.out] at C4
      refine C4.mono ?_
      clear C4
      rintro e w5 ⟨ho5, hq5, _, rfl, ⟨o, rfl, ho'⟩, hv5⟩
      have ho : o < 5 := by omega
      have HO5 := Lib.hid (HO3.out.trans ((Only.of_below hb4).trans ho5))
      have HQ5 := Lib.hid hq5
      have HV5 := Lib.hid hv5
      have HX5 := Lib.hid ((HX3.out.below hb4 HX3.out.lt).only ho5 (by omega))
      clear ho' hb4 hk4 ho5 hq5 hv5 HX3
      go_wp2_with (fail)
      have C6 := zinteger_any B g A n c T r2.st w5 HQ5.out HT.out (by omega)
      rw [← E3.out] at C6
      refine C6.mono ?_
      clear C6
      rintro e w6 ⟨ho6, hq6, _, rfl, ⟨i, rfl, hi1, hi2⟩, hv6⟩
      have HO6 := Lib.hid (HO5.out.trans ho6)
      have HQ6 := Lib.hid hq6
      have HV6 := Lib.hid hv6
      have hsz6 := HO6.out.size
      have HX6 := Lib.hid (HX5.out.only ho6 (by omega))
      have hcw6 := HX6.out.lt
      clear ho6 hq6 hv6 HX5
      have fin : ∀ (C : CT) (W7 W : World) (A1 : Option Addr) (n1 c1 : Nat), compare_ (vVars x) (vOps o) i = C → Below w6.heap.size w6 W7 → Only (· = w.heap.size) W7 W → RepH (fun k => k < w.heap.size) W C.ps A1 n1 c1 → QPost w B g A n c T r (CV w) JC (.returned (condV C A1 n1 c1)) W := fun C W7 W A1 n1 c1 eC hbW hoW hrW => by
        refine ⟨(HO6.out.trans (Only.of_below hbW)).new hoW (fun k e => by rw [e]; exact Nat.le_refl _), ?_, _, rfl, ⟨_, _, _, _, _, _, rfl⟩, fun y j e => ?_⟩
        · rw [K1.out]; exact (HQ6.out.below hbW).only hoW (by omega) (fun k e => by rw [e]; have := HQ6.out.lb; omega)
        · obtain ⟨j1, m1, j2, m2, i', e1, e2, e3, e4⟩ := K2.out y j e
          have t1 := HV3.out _ _ e1
          have t2 := HV5.out _ _ e2
          have t3 := HV6.out _ _ e3
          injection t1 with _ t1
          injection t2 with _ t2
          injection t3 with _ t3
          obtain rfl : j1 = x := by omega
          obtain rfl : j2 = o := by omega
          subst t3
          rw [e4, eC]
          exact ⟨A1, n1, c1, rfl, hrW⟩
      have FI := Lib.hid fin
      clear fin
      rcases (show o = 0 ∨ o = 1 ∨ o = 2 ∨ o = 3 ∨ o = 4 by omega) with rfl | rfl | rfl | rfl | rfl
      · go_wp2_with (fail)
        refine (zleast_any (x + 1) i w6).mono ?_
        rintro e w7 ⟨rfl, hbw7⟩
        have HBw7 := Lib.hid (hbw7)
        have HXw7 := Lib.hid (HX6.out.below hbw7 HX6.out.lt)
        have hsw7 := hbw7.size
        clear hbw7
        unfold condV least
        dsimp only [vi]
        obtain ⟨x0, x1, x2, x3, f0, f1, f2, f3⟩ := HXw7.out.four
        have lx := HXw7.out.lt
        go_wp2_with (fail)
        first | (refine calls_named ?_; intro W hW) | (refine body_named ?_; intro W hW) | (refine wpList_named ?_; intro W hW) | (refine wp_named ?_; intro W hW)
        obtain ⟨hk, hO⟩ : Blk W w.heap.size 35 #[.int .i64 1, .int .i64 (x + 1), .int .i64 i, .slice none 0 0] ∧ Only (· = w.heap.size) w7 W := by rw [← hW]; exact HXw7.out.set4
        clear hW x0 x1 x2 x3 f0 f1 f2 f3
        obtain ⟨y0, y1, y2, y3, _⟩ := hk.four
        refine bodyPost_ret (by simp [results, Tryz.results97, go_sem, y0, y1, y2, y3]; try rfl) rfl ?_
        exact FI.out (least (x + 1) i) _ _ none 0 0 rfl HBw7.out hO RepH.nil
      · go_wp2_with (fail)
        refine (zleast_any (x + 1) (i + 1) w6).mono ?_
        rintro e w7 ⟨rfl, hbw7⟩
        have HBw7 := Lib.hid (hbw7)
        have HXw7 := Lib.hid (HX6.out.below hbw7 HX6.out.lt)
        have hsw7 := hbw7.size
        clear hbw7
        unfold condV least
        dsimp only [vi]
        go_wp2_with (fail)
        refine (znot_any 1 (x + 1) (i + 1) none 0 0 w7).mono ?_
        rintro e w8 ⟨b, hb, rfl, hbw8, hkw8⟩
        have HKw8 := Lib.hid hkw8
        have HBw8 := Lib.hid (HBw7.out.trans (hbw8.mono HBw7.out.size))
        have HXw8 := Lib.hid (HXw7.out.below hbw8 HXw7.out.lt)
        have hsw8 := hbw8.size
        clear hbw8 hkw8
        obtain ⟨x0, x1, x2, x3, f0, f1, f2, f3⟩ := HXw8.out.four
        have lx := HXw8.out.lt
        go_wp2_with (fail)
        first | (refine calls_named ?_; intro W hW) | (refine body_named ?_; intro W hW) | (refine wpList_named ?_; intro W hW) | (refine wp_named ?_; intro W hW)
        obtain ⟨hk, hO⟩ : Blk W w.heap.size 35 #[.int .i64 4, .int .i64 0, .int .i64 0, .slice (some ⟨b, 0, none⟩) 1 1] ∧ Only (· = w.heap.size) w8 W := by rw [← hW]; exact HXw8.out.set4
        clear hW x0 x1 x2 x3 f0 f1 f2 f3
        obtain ⟨y0, y1, y2, y3, _⟩ := hk.four
        refine bodyPost_ret (by simp [results, Tryz.results97, go_sem, y0, y1, y2, y3]; try rfl) rfl ?_
        exact FI.out (cnot (least (x + 1) (i + 1))) _ _ (some ⟨b, 0, none⟩) 1 1 rfl HBw8.out hO (RepH.blk (F := (cnot (least (x + 1) (i + 1))).ps) (HKw8.out.only hO (by omega)) (xs := [vi 1, vi (x + 1), vi (i + 1), .slice none 0 0]) (RepF.cons RepH.nil rfl) (by omega) (by simp [cnot, CF.one, CF.len]))
      · go_wp2_with (fail)
        refine (zleast_any (x + 1) (i + 1) w6).mono ?_
        rintro e w7 ⟨rfl, hbw7⟩
        have HBw7 := Lib.hid (hbw7)
        have HXw7 := Lib.hid (HX6.out.below hbw7 HX6.out.lt)
        have hsw7 := hbw7.size
        clear hbw7
        unfold condV least
        dsimp only [vi]
        obtain ⟨x0, x1, x2, x3, f0, f1, f2, f3⟩ := HXw7.out.four
        have lx := HXw7.out.lt
        go_wp2_with (fail)
        first | (refine calls_named ?_; intro W hW) | (refine body_named ?_; intro W hW) | (refine wpList_named ?_; intro W hW) | (refine wp_named ?_; intro W hW)
        obtain ⟨hk, hO⟩ : Blk W w.heap.size 35 #[.int .i64 1, .int .i64 (x + 1), .int .i64 (i + 1), .slice none 0 0] ∧ Only (· = w.heap.size) w7 W := by rw [← hW]; exact HXw7.out.set4
        clear hW x0 x1 x2 x3 f0 f1 f2 f3
        obtain ⟨y0, y1, y2, y3, _⟩ := hk.four
        refine bodyPost_ret (by simp [results, Tryz.results97, go_sem, y0, y1, y2, y3]; try rfl) rfl ?_
        exact FI.out (least (x + 1) (i + 1)) _ _ none 0 0 rfl HBw7.out hO RepH.nil
      · go_wp2_with (fail)
        refine (zleast_any (x + 1) i w6).mono ?_
        rintro e w7 ⟨rfl, hbw7⟩
        have HBw7 := Lib.hid (hbw7)
        have HXw7 := Lib.hid (HX6.out.below hbw7 HX6.out.lt)
        have hsw7 := hbw7.size
        clear hbw7
        unfold condV least
        dsimp only [vi]
        go_wp2_with (fail)
        refine (znot_any 1 (x + 1) i none 0 0 w7).mono ?_
        rintro e w8 ⟨b, hb, rfl, hbw8, hkw8⟩
        have HKw8 := Lib.hid hkw8
        have HBw8 := Lib.hid (HBw7.out.trans (hbw8.mono HBw7.out.size))
        have HXw8 := Lib.hid (HXw7.out.below hbw8 HXw7.out.lt)
        have hsw8 := hbw8.size
        clear hbw8 hkw8
        obtain ⟨x0, x1, x2, x3, f0, f1, f2, f3⟩ := HXw8.out.four
        have lx := HXw8.out.lt
        go_wp2_with (fail)
        first | (refine calls_named ?_; intro W hW) | (refine body_named ?_; intro W hW) | (refine wpList_named ?_; intro W hW) | (refine wp_named ?_; intro W hW)
        obtain ⟨hk, hO⟩ : Blk W w.heap.size 35 #[.int .i64 4, .int .i64 0, .int .i64 0, .slice (some ⟨b, 0, none⟩) 1 1] ∧ Only (· = w.heap.size) w8 W := by rw [← hW]; exact HXw8.out.set4
        clear hW x0 x1 x2 x3 f0 f1 f2 f3
        obtain ⟨y0, y1, y2, y3, _⟩ := hk.four
        refine bodyPost_ret (by simp [results, Tryz.results97, go_sem, y0, y1, y2, y3]; try rfl) rfl ?_
        exact FI.out (cnot (least (x + 1) i)) _ _ (some ⟨b, 0, none⟩) 1 1 rfl HBw8.out hO (RepH.blk (F := (cnot (least (x + 1) i)).ps) (HKw8.out.only hO (by omega)) (xs := [vi 1, vi (x + 1), vi i, .slice none 0 0]) (RepF.cons RepH.nil rfl) (by omega) (by simp [cnot, CF.one, CF.len]))
      · go_wp2_with (fail)
        refine (zleast_any (x + 1) i w6).mono ?_
        rintro e w7 ⟨rfl, hbw7⟩
        have HBw7 := Lib.hid (hbw7)
        have HXw7 := Lib.hid (HX6.out.below hbw7 HX6.out.lt)
        have hsw7 := hbw7.size
        clear hbw7
        unfold condV least
        dsimp only [vi]
        go_wp2_with (fail)
        refine (zleast_any (x + 1) (i + 1) w7).mono ?_
        rintro e w8 ⟨rfl, hbw8⟩
        have HBw8 := Lib.hid (HBw7.out.trans (hbw8.mono HBw7.out.size))
        have HXw8 := Lib.hid (HXw7.out.below hbw8 HXw7.out.lt)
        have hsw8 := hbw8.size
        clear hbw8
        unfold condV least
        dsimp only [vi]
        go_wp2_with (fail)
        refine (znot_any 1 (x + 1) (i + 1) none 0 0 w8).mono ?_
        rintro e w9 ⟨b, hb, rfl, hbw9, hkw9⟩
        have HKw9 := Lib.hid hkw9
        have HBw9 := Lib.hid (HBw8.out.trans (hbw9.mono HBw8.out.size))
        have HXw9 := Lib.hid (HXw8.out.below hbw9 HXw8.out.lt)
        have hsw9 := hbw9.size
        clear hbw9 hkw9
        obtain ⟨x0, x1, x2, x3, f0, f1, f2, f3⟩ := HXw9.out.four
        have lx := HXw9.out.lt
        go_wp2_with (fail)
        first | (refine calls_named ?_; intro W hW) | (refine body_named ?_; intro W hW) | (refine wpList_named ?_; intro W hW) | (refine wp_named ?_; intro W hW)
        have h4 := HXw9.out.set4 (y0 := .int .i64 2) (y1 := .int .i64 0) (y2 := .int .i64 0) (y3 := .slice (some ⟨w9.heap.size, 0, none⟩) 2 2)
        have hsV : ((((w9.setCell ⟨w.heap.size, 0, none⟩ (.int .i64 2)).setCell ⟨w.heap.size, 1, none⟩ (.int .i64 0)).setCell ⟨w.heap.size, 2, none⟩ (.int .i64 0)).setCell ⟨w.heap.size, 3, none⟩ (.slice (some ⟨w9.heap.size, 0, none⟩) 2 2)).heap.size = w9.heap.size := by simp
        generalize ((((w9.setCell ⟨w.heap.size, 0, none⟩ (.int .i64 2)).setCell ⟨w.heap.size, 1, none⟩ (.int .i64 0)).setCell ⟨w.heap.size, 2, none⟩ (.int .i64 0)).setCell ⟨w.heap.size, 3, none⟩ (.slice (some ⟨w9.heap.size, 0, none⟩) 2 2)) = V at h4 hW hsV
        have hkB : Blk W w9.heap.size 35 #[vi 1, vi (x + 1), vi i, .slice none 0 0, vi 4, vi 0, vi 0, .slice (some ⟨b, 0, none⟩) 1 1] := by rw [← hW, ← hsV]; exact Blk.new _ _ _
        have hk : Blk W w.heap.size 35 #[.int .i64 2, .int .i64 0, .int .i64 0, .slice (some ⟨w9.heap.size, 0, none⟩) 2 2] := by rw [← hW]; exact h4.1.alloc _
        have hO : Only (· = w.heap.size) w9 W := by rw [← hW]; exact h4.2.trans (Only.of_below ((Below.refl _ _).alloc (Nat.le_refl _) _))
        clear hW h4 hsV x0 x1 x2 x3 f0 f1 f2 f3
        have hkX := HKw9.out.only hO (by omega)
        obtain ⟨y0, y1, y2, y3, _⟩ := hk.four
        refine bodyPost_ret (by simp [results, Tryz.results97, go_sem, y0, y1, y2, y3]; try rfl) rfl ?_
        have hin1 : RepH (fun k => k < w.heap.size) W (cnot (least (x + 1) (i + 1))).ps (some ⟨b, 0, none⟩) 1 1 := RepH.blk (F := (cnot (least (x + 1) (i + 1))).ps) hkX (xs := [vi 1, vi (x + 1), vi (i + 1), .slice none 0 0]) (RepF.cons RepH.nil rfl) (by omega) (by simp [cnot, CF.one, CF.len])
        exact FI.out ⟨2, 0, 0, .one (least (x + 1) i) (.one (cnot (least (x + 1) (i + 1))) .nil)⟩ _ _ (some ⟨w9.heap.size, 0, none⟩) 2 2 rfl HBw9.out hO (RepH.blk (F := .one (least (x + 1) i) (.one (cnot (least (x + 1) (i + 1))) .nil)) hkB (xs := [vi 1, vi (x + 1), vi i, .slice none 0 0, vi 4, vi 0, vi 0, .slice (some ⟨b, 0, none⟩) 1 1]) (RepF.cons RepH.nil (RepF.cons hin1 rfl)) (by omega) (by simp [CF.one, CF.len]))
theorem qu_all_zero : QU 0 := fun B g A n c T s w h hT ha hf => by
  have e1 : ∀ x, qis T s x = false := fun x => by
    cases s with
    | bad _ => rfl
    | ok u a =>
      show isB T a x = false
      cases hq : isB T a x
      · rfl
      · have := isB_lt T hq; have : T.length ≤ a + 0 := hf; omega
  refine zunit_walk B g A n c T s _ (.bad 0) (.bad 0) w h hT ha (fun a e e2 => ?_) (fun a e e2 => ?_) (by decide) ?_
  · subst e; have : isB T a kNot = false := e1 kNot; rw [this] at e2; cases e2
  · subst e; have : isB T a kLP = false := e1 kLP; rw [this] at e2; cases e2
  · rw [e1, e1, if_neg (by decide), if_neg (by decide)]
    cases s with
    | bad _ => rfl
    | ok u a =>
      show Res.bad a = pcomp T a
      unfold pcomp
      rw [pchoose_out (by have : T.length ≤ a + 0 := hf; omega) rfl]
      rfl
end Go.Proofs.YtlgdmbdhffdenaaGreatDoor

/- The reference parser's unit, conj and cond by their contracts. -/
namespace Go.Proofs.YtlgdmbdhffdenaaGreatDoor
set_option linter.unusedVariables false
set_option linter.unusedSimpArgs false
open Go.RowKit

/-- A row's first condition has the right shape. -/
def Shp (xs : List Value) : Prop := ∃ (k x m : Int) (A : Option Addr) (n c : Nat) (zs : List Value), xs = .int .i64 k :: .int .i64 x :: .int .i64 m :: .slice A n c :: zs
theorem Shp.app {xs ys : List Value} (h : Shp xs) : Shp (xs ++ ys) := by
  obtain ⟨k, x, m, A, n, c, zs, rfl⟩ := h
  exact ⟨k, x, m, A, n, c, zs ++ ys, rfl⟩
/-- The state of a row that is being made: the conditions F, where nothing stopped the parser. -/
structure KSt (w0 wr : World) (B g : Nat) (A : Option Addr) (n c : Nat) (T : List Tok) (q : Res Unit) (F : CF) (m : Nat) (A' : Option Addr) (c' : Nat) : Prop where
  st : QSt wr B g A n c T q
  only : Only (· = g) w0 wr
  glt : g < w0.heap.size
  box : Blk wr w0.heap.size 35 #[.int .i64 0, .int .i64 0, .int .i64 0, .slice none 0 0]
  row : ∃ xs, wr.ownsRow (w0.heap.size + 1) 35 4 (.slice A' m c') m xs ∧ Shp xs ∧ (∀ b, q = .ok () b → F.len = m ∧ RepF (fun k => k ≤ w0.heap.size ∨ (Value.slice A' m c').ownBlock = some k) wr F xs)
section
variable {w0 wr W w1 : World} {B g n c c' m : Nat} {A A' : Option Addr} {T : List Tok} {F : CF} {q q' : Res Unit}
theorem KSt.go (h : KSt w0 wr B g A n c T q F m A' c') (hp : QSt W B g A n c T q') (ho : Only (· = g) wr W) (hq : ∀ b, q' = .ok () b → ∃ a, q = .ok () a) : KSt w0 W B g A n c T q' F m A' c' := by
  obtain ⟨xs, h1, h2, h3⟩ := h.row
  refine ⟨hp, h.only.trans ho, h.glt, h.box.only ho (by have := h.glt; omega), xs, own_only h1 ho (fun k hk => ?_), h2, fun b e => ?_⟩
  · have := (h1.lt k hk).1
    have := h.glt
    omega
  · obtain ⟨a, e2⟩ := hq b e
    obtain ⟨h4, h5⟩ := h3 a e2
    refine ⟨h4, h5.only ho (fun k hk => .inl (by have := h.glt; omega))⟩
theorem KSt.below (h : KSt w0 wr B g A n c T q F m A' c') (hb : Below wr.heap.size wr W) : KSt w0 W B g A n c T q F m A' c' := h.go (h.st.below hb) (Only.of_below hb) (fun b e => ⟨b, e⟩)
theorem KSt.push (h : KSt w0 W B g A n c T q F m A' c') {xs news : List Value} {c2 : CT} {A2 : Option Addr} {cc : Nat} (hs : Shp xs)
    (hn : ∀ b, q = .ok () b → F.len = m ∧ RepF (fun k => k ≤ w0.heap.size ∨ (Value.slice A' m c').ownBlock = some k) W F xs ∧ RepF (fun k => k ≤ w0.heap.size ∨ (Value.slice A' m c').ownBlock = some k) W (.one c2 .nil) news)
    (hl : ∀ k, (Value.slice A' m c').ownBlock = some k → w0.heap.size + 1 ≤ k)
    (hg : W.grownBy w1 (Value.slice A' m c').ownBlock) (hown : w1.ownsRow (w0.heap.size + 1) 35 4 (.slice A2 (m + 1) cc) (m + 1) (xs ++ news))
    (hap : ∀ k, (Value.slice A2 (m + 1) cc).ownBlock = some k → (Value.slice A' m c').ownBlock = some k ∨ W.heap.size ≤ k) : KSt w0 w1 B g A n c T q (F.app (.one c2 .nil)) (m + 1) A2 cc := by
  have ho : Only (fun k => (Value.slice A' m c').ownBlock = some k) W w1 := Only.of_grown hg (fun k hk => hk)
  have hsz := h.only.size
  refine ⟨h.st.only ho (fun e => by have := hl _ e; have := h.glt; omega) (fun k hk => by have := hl k hk; have := h.glt; have := h.st.lb; omega), h.only.new ho (fun k hk => by have := hl k hk; omega), h.glt, h.box.only ho (fun e => by have := hl _ e; omega),
    xs ++ news, hown, hs.app, fun b e => ?_⟩
  obtain ⟨e1, h2, h3⟩ := hn b e
  refine ⟨by rw [CF.len_app, e1]; rfl, ?_⟩
  have hr2 := ((RepF.app h2 h3).new).only ho (fun k hk => .inl (.inr hk))
  refine hr2.sub fun k hk => ?_
  rcases hk with hk | hk
  · exact .inl (.inl hk)
  · rcases hap k hk with e | e
    · exact .inl (.inr e)
    · exact .inr e
end
set_option maxHeartbeats 4000000 in
set_option maxRecDepth 100000 in
theorem zconj_of (f : Nat) (hU : QU f) (B g : Nat) (A : Option Addr) (n c : Nat) (T : List Tok) (s : Res Unit) (w : World) (h : QSt w B g A n c T s) (hT : TOk T) (ha : posA s ≤ 65537) (hf : T.length ≤ posA s + f) :
    Calls Tryz.prog 71 #[.pointer (some ⟨g, 0, none⟩)] w (QPost w B g A n c T (s.bind fun _ a => pconj T f a) (CV w) JC) := by
  have H := Lib.hid h
  have HT := Lib.hid hT
  have HU := Lib.hid hU
  have hTl := hT.len
  have hgw := h.lt
  have hin := bind_in (L := T.length) (s := s) (p := fun a => punit T f a) (fun a => punit_in T f a)
  have HE := Lib.hid (show (s.bind fun _ a => pconj T f a) = _ from joined_first T kAnd 2 (punit T f) s)
  obtain ⟨r1, er1⟩ : ∃ r1, r1 = s.bind fun _ a => punit T f a := ⟨_, rfl⟩
  have ER1 := Lib.hid er1
  rw [← er1] at HE hin
  obtain ⟨R, eR⟩ : ∃ R, R = s.bind fun _ a => pconj T f a := ⟨_, rfl⟩
  rw [← eR] at HE ⊢
  clear h hT hU er1 eR
  have hb0 : Below w.heap.size w (w.alloc (.cells #[.int .i64 0, .int .i64 0, .int .i64 0, .slice none 0 0] 35)) := (Below.refl _ _).alloc (Nat.le_refl _) _
  have hx0 := Blk.new w 35 #[.int .i64 0, .int .i64 0, .int .i64 0, .slice none 0 0]
  go_enter Tryz.func71, Tryz.ntmps71
  go_wp2_with (fail)
  have C1 := HU.out B g A n c T s _ (H.out.below hb0) HT.out ha hf
  rw [← ER1.out] at C1
  refine C1.mono ?_
  clear C1
  rintro e w1 ⟨ho1, hq1, _, rfl, ⟨k1, x1, m1, A1, n1, c1, rfl⟩, hv1⟩
  have hx1 := hx0.only ho1 (by omega)
  go_wp2_with (fail)
  have hb2 : Below w1.heap.size w1 (w1.alloc (.cells #[.int .i64 k1, .int .i64 x1, .int .i64 m1, .slice A1 n1 c1] 35)) := (Below.refl _ _).alloc (Nat.le_refl _) _
  have hJ : KSt w (w1.alloc (.cells #[.int .i64 k1, .int .i64 x1, .int .i64 m1, .slice A1 n1 c1] 35)) B g A n c T r1.st (.one (r1.val .zero) .nil) 1 (some ⟨w1.heap.size, 0, none⟩) 1 := by
    have hz := ho1.size
    simp only [World.size_alloc] at hz
    refine ⟨hq1.below hb2, (Only.of_below hb0).trans (ho1.trans (Only.of_below hb2)), hgw, hx1.below hb2 hx1.lt, [.int .i64 k1, .int .i64 x1, .int .i64 m1, .slice A1 n1 c1], own_of_blk (m := 1) (Blk.new w1 _ _) rfl hz (by decide), ⟨_, _, _, _, _, _, _, rfl⟩, fun b e => ⟨rfl, ?_⟩⟩
    obtain ⟨x, rfl⟩ := st_ok e
    obtain ⟨e2, hr2⟩ := cv_read (hv1 x b rfl)
    have h1 := (hr2.new.only (S' := fun _ => False) (Only.of_below hb2) (fun _ h => h.elim))
    show RepF _ _ (.one x .nil) _
    rw [e2]
    refine RepF.one (c := ⟨k1, x1, m1, x.ps⟩) (h1.sub fun k hk => ?_)
    rcases hk with hk | hk
    · exact .inl (by simp; omega)
    · injection hk with hk
      exact .inr (by show w1.heap.size ≤ k; have hk' : w1.heap.size = k := hk; omega)
  have HJ := Lib.hid hJ
  clear hJ hb2 ho1 hq1 hv1 hb0 hx0 hx1
  generalize w1.alloc (.cells #[.int .i64 k1, .int .i64 x1, .int .i64 m1, .slice A1 n1 c1] 35) = w2 at HJ ⊢
  generalize w1.heap.size = b1 at HJ ⊢
  clear ER1
  go_loopg [3] (T.length - posA r1.st) (fun gk sv wr => ∃ (q : Res Unit) (F : CF) (m : Nat) (A' : Option Addr) (c' : Nat), T.length ≤ gk + posA q ∧ posA s ≤ posA q ∧ posA q ≤ 65537 ∧ m ≤ 65540 ∧ Hid (∀ b, q = .ok () b → m ≤ b + 1) ∧ sv = .slice A' m c' ∧ Hid (KSt w wr B g A n c T q F m A' c') ∧ Hid (R = q.bind fun _ b => (pmore T kAnd (punit T f) gk b).map fun cs => joinAll 2 (F.app cs)))
  case atStart => exact ⟨r1.st, _, 1, _, 1, by omega, hin.1, by omega, by omega, fun b e => by omega, rfl, HJ.out, HE.out⟩
  case round =>
    obtain ⟨q, F, m, A', c', hgk, hsq, hq65, hm, HM, rfl, HK, HR⟩ := hrel
    clear HJ HE
    have HC := zis_any B g A n c T q kAnd wr HK.out.st (by omega)
    cases hB : qis T q kAnd with
    | true =>
      rw [hB] at HC
      obtain ⟨b, rfl, hi⟩ : ∃ b, q = .ok () b ∧ isB T b kAnd = true := by
        cases q with
        | ok u b => exact ⟨b, rfl, hB⟩
        | bad _ => cases hB
      have HC := Lib.hid HC
      have hlt := isB_lt T hi
      have hb65 : b ≤ 65537 := hq65
      have hsb : posA s ≤ b := hsq
      have hgk' : T.length ≤ gk + b := hgk
      obtain ⟨gk, rfl⟩ : ∃ q, gk = q + 1 := ⟨gk - 1, by omega⟩
      have HR2 := Lib.hid (HR.out.trans (joined_next T kAnd 2 (punit T f) (gk := gk) (b := b) (F := F) hi))
      have hin2 := (punit_in T f (b + 1)).pos
      have hmb := HM.out b rfl
      clear hB hi HR hgk hsq hq65 HM
      go_wp2_with (fail)
      refine HC.out.mono ?_
      rintro e w3 ⟨rfl, hb3⟩
      have HK3 := HK.out.below hb3
      have g3 := HK3.st
      have y1 : w3.cell? ⟨g, 1, none⟩ = some (.int .i64 (b : Int)) := g3.at_
      have fz := g3.free 1
      have hgl := g3.lt
      have HK4 := Lib.hid (HK3.go (QSt.move g3 (s' := .ok () (b + 1)) rfl) (Only.set (S := (· = g)) w3 (p := ⟨g, 1, none⟩) rfl (.int .i64 (posA (.ok () (b + 1)) : Int))) (fun _ _ => ⟨b, rfl⟩))
      clear HK3 g3 hb3 HK
      go_wp2_with (fail)
      have C5 := HU.out B g A n c T (.ok () (b + 1)) _ HK4.out.st HT.out (by show b + 1 ≤ 65537; omega) (by show T.length ≤ b + 1 + f; omega)
      obtain ⟨r2, er2⟩ : ∃ r2, r2 = punit T f (b + 1) := ⟨_, rfl⟩
      rw [show ((Res.ok () (b + 1) : Res Unit).bind fun _ a => punit T f a) = r2 from er2.symm] at C5
      rw [← er2] at HR2 hin2
      refine C5.mono ?_
      clear C5 er2
      rintro e w5 ⟨ho5, hq5, _, rfl, ⟨k2, x2, m2, A2, n2, c2, rfl⟩, hv5⟩
      have hown4 := HK4.out.row
      have hbx4 := HK4.out.box.lt
      have HK5 := Lib.hid (HK4.out.go hq5 ho5 (fun _ _ => ⟨b + 1, rfl⟩))
      have HV5 := Lib.hid (show ∀ b', r2.st = .ok () b' → RepF (fun k => k ≤ w.heap.size ∨ (Value.slice A' m c').ownBlock = some k) w5 (.one (r2.val .zero) .nil) [.int .i64 k2, .int .i64 x2, .int .i64 m2, .slice A2 n2 c2] from fun b' e => by
        obtain ⟨x, rfl⟩ := st_ok e
        obtain ⟨e2, hr2⟩ := cv_read (hv5 x b' rfl)
        obtain ⟨xs, h1, _⟩ := hown4
        show RepF _ _ (.one x .nil) _
        rw [e2]
        refine RepF.one (c := ⟨k2, x2, m2, x.ps⟩) (hr2.sub fun k hk => ?_)
        rcases hk with hk | hk
        · exact Nat.lt_of_le_of_lt hk hbx4
        · exact (h1.lt k hk).2)
      clear ho5 hq5 hv5 hown4 y1 fz
      go_wp2_with (at_builtin; refine Hid.out ?_)
      refine Lib.hid ?_
      obtain ⟨xs, hrow, hshp, hrep⟩ := HK5.out.row
      have hbb : Below w5.heap.size w5 (w5.alloc (.cells #[.int .i64 k2, .int .i64 x2, .int .i64 m2, .slice A2 n2 c2] 35)) := (Below.refl _ _).alloc (Nat.le_refl _) _
      have hsz5 := HK5.out.box.lt
      refine wpList_push_apart elemCond rfl (.tmp 16) (.tmp 19) rfl (w.heap.size + 1) A' m c' xs rfl (own_below_all hrow hbb) w5.heap.size rfl [.int .i64 k2, .int .i64 x2, .int .i64 m2, .slice A2 n2 c2] rfl (new_cells _ _ _) (by intro u hu; simp at hu; rcases hu with rfl | rfl | rfl | rfl <;> rfl) (by omega) (by omega) (by simp only [World.size_alloc]; omega) ?_
      intro A3 c3 w6 hown6 hb6 hg6 hap6
      have HK6 := Lib.hid (KSt.push (HK5.out.below hbb) (xs := xs) (news := [.int .i64 k2, .int .i64 x2, .int .i64 m2, .slice A2 n2 c2]) (c2 := r2.val .zero) hshp (fun b' e => ⟨(hrep b' e).1, (hrep b' e).2.only (S' := fun _ => False) (Only.of_below hbb) (fun _ h => h.elim), (HV5.out b' e).only (S' := fun _ => False) (Only.of_below hbb) (fun _ h => h.elim)⟩) (fun k hk => (hrow.lt k hk).1) hg6 hown6 hap6)
      clear hrow hshp hrep hbb hown6 hb6 hg6 hap6 HK5 HV5
      go_wp2_with (fail)
      go_roundg gk
      case measure => omega
      case rel => exact ⟨r2.st, _, m + 1, A3, c3, by omega, by omega, by omega, by omega, fun b' e => by rw [e] at hin2; have h1 : b + 1 ≤ b' := hin2.1; omega, rfl, HK6.out, HR2.out⟩
    | false =>
      rw [hB] at HC
      have HC := Lib.hid HC
      have HR2 := Lib.hid (HR.out.trans (joined_end T kAnd 2 (punit T f) (gk := gk) (F := F) hB))
      clear hB HR
      go_wp2_with (fail)
      refine HC.out.mono ?_
      rintro e w3 ⟨rfl, hb3⟩
      have HK3 := Lib.hid (HK.out.below hb3)
      clear hb3 HK
      obtain ⟨xs, hrow, hshp, hrep⟩ := HK3.out.row
      obtain ⟨k3, x3, m3, A3, n3, c3, zs, rfl⟩ := hshp
      have HROW := Lib.hid hrow
      have HREP := Lib.hid hrep
      have hR := own_rd hrow
      have hm0 : 0 < m := by
        have := hrow.1
        simp at this
        omega
      obtain ⟨bb, off, eA, hbb, hc⟩ := hR.cells hm0
      have eA' := Lib.hid eA
      subst eA
      have y0 : w3.cell? ⟨bb, off, none⟩ = some (.int .i64 k3) := hc 0 _ rfl
      have y1 : w3.cell? ⟨bb, off + 1, none⟩ = some (.int .i64 x3) := hc 1 _ rfl
      have y2 : w3.cell? ⟨bb, off + 2, none⟩ = some (.int .i64 m3) := hc 2 _ rfl
      have y3 : w3.cell? ⟨bb, off + 3, none⟩ = some (.slice A3 n3 c3) := hc 3 _ rfl
      clear hc hrow hrep hR
      by_cases h1 : m = 1
      · have hzs : zs = [] := by
          have := HROW.out.1
          rw [h1] at this
          simp at this
          exact this
        subst hzs
        have HREP1 := HREP.out
        clear HREP HROW
        subst h1
        go_wp2_with (fail)
        refine (zjoined_one 2 bb off c' k3 x3 m3 A3 n3 c3 w3 hbb y0 y1 y2 y3).mono ?_
        rintro e w4 ⟨rfl, hb4⟩
        have HB4 := Lib.hid hb4
        have HX4 := Lib.hid (HK3.out.box.below hb4 HK3.out.box.lt)
        clear hb4 y0 y1 y2 y3
        obtain ⟨u0, u1, u2, u3, f0, f1, f2, f3⟩ := HX4.out.four
        have lx := HX4.out.lt
        go_wp2_with (fail)
        first | (refine calls_named ?_; intro W hW) | (refine body_named ?_; intro W hW) | (refine wpList_named ?_; intro W hW) | (refine wp_named ?_; intro W hW)
        obtain ⟨hk, hO⟩ : Blk W w.heap.size 35 #[.int .i64 k3, .int .i64 x3, .int .i64 m3, .slice A3 n3 c3] ∧ Only (· = w.heap.size) w4 W := by rw [← hW]; exact HX4.out.set4
        clear hW u0 u1 u2 u3 f0 f1 f2 f3
        obtain ⟨y0, y1, y2, y3, _⟩ := hk.four
        refine bodyPost_ret (by simp [results, Tryz.results71, go_sem, y0, y1, y2, y3]; try rfl) rfl ?_
        refine ⟨(HK3.out.only.trans (Only.of_below HB4.out)).new hO (fun k e => by rw [e]; exact Nat.le_refl _), ?_, _, rfl, ⟨_, _, _, _, _, _, rfl⟩, fun y j e => ?_⟩
        · rw [HR2.out, st_map, st_unit]; exact (HK3.out.st.below HB4.out).only hO (by omega) (fun k e => by rw [e]; have := HK3.out.st.lb; omega)
        · rw [HR2.out] at e
          obtain ⟨u, e1, rfl⟩ := Res.map_ok e
          obtain ⟨hl, hF⟩ := HREP1 j e1
          obtain ⟨q1, q2, q3, qs, rfl⟩ := len_one hl
          obtain ⟨A4, m4, c4, zs, e4, hH, _⟩ := RepF.uncons hF
          simp only [List.cons.injEq, Value.int.injEq, Value.slice.injEq, true_and, vi] at e4
          obtain ⟨rfl, rfl, rfl, ⟨rfl, rfl, rfl⟩, _⟩ := e4
          exact ⟨_, _, _, rfl, ((hH.only (S' := fun _ => False) (Only.of_below HB4.out) (fun _ h => h.elim)).only hO (fun k e => .inl (by rw [e]; exact Nat.le_refl _))).sub (fun k hk => .inl (Nat.le_of_lt hk))⟩
      · clear y0 y1 y2 y3
        go_wp2_with (fail)
        refine (zjoined_more 2 (some ⟨bb, off, none⟩) m c' h1 w3).mono ?_
        rintro e w4 ⟨rfl, hb4⟩
        have HB4 := Lib.hid hb4
        have HX4 := Lib.hid (HK3.out.box.below hb4 HK3.out.box.lt)
        clear hb4
        obtain ⟨u0, u1, u2, u3, f0, f1, f2, f3⟩ := HX4.out.four
        have lx := HX4.out.lt
        go_wp2_with (fail)
        first | (refine calls_named ?_; intro W hW) | (refine body_named ?_; intro W hW) | (refine wpList_named ?_; intro W hW) | (refine wp_named ?_; intro W hW)
        obtain ⟨hk, hO⟩ : Blk W w.heap.size 35 #[.int .i64 2, .int .i64 0, .int .i64 0, .slice (some ⟨bb, off, none⟩) m c'] ∧ Only (· = w.heap.size) w4 W := by rw [← hW]; exact HX4.out.set4
        clear hW u0 u1 u2 u3 f0 f1 f2 f3
        obtain ⟨y0, y1, y2, y3, _⟩ := hk.four
        refine bodyPost_ret (by simp [results, Tryz.results71, go_sem, y0, y1, y2, y3]; try rfl) rfl ?_
        refine ⟨(HK3.out.only.trans (Only.of_below HB4.out)).new hO (fun k e => by rw [e]; exact Nat.le_refl _), ?_, _, rfl, ⟨_, _, _, _, _, _, rfl⟩, fun y j e => ?_⟩
        · rw [HR2.out, st_map, st_unit]; exact (HK3.out.st.below HB4.out).only hO (by omega) (fun k e => by rw [e]; have := HK3.out.st.lb; omega)
        · rw [HR2.out] at e
          obtain ⟨u, e1, rfl⟩ := Res.map_ok e
          obtain ⟨hl, hF⟩ := HREP.out j e1
          rw [joinAll_many (by omega) (by omega)]
          refine ⟨some ⟨bb, off, none⟩, m, c', rfl, .int .i64 k3 :: .int .i64 x3 :: .int .i64 m3 :: .slice A3 n3 c3 :: zs, ?_, ?_, ?_⟩
          · exact own_rd (own_only (own_only HROW.out (S := fun _ => False) (Only.of_below HB4.out) (fun _ _ h => h)) hO (fun k hk e => by have := (HROW.out.lt k hk).1; omega))
          · intro _ p hp hS
            have h5 := (HROW.out.lt p.block (by rw [hp]; rfl)).1
            have hS' : p.block < w.heap.size := hS
            omega
          · exact ((hF.only (S' := fun _ => False) (Only.of_below HB4.out) (fun _ h => h.elim)).only hO (fun k e => .inl (by rw [e]; exact Nat.le_refl _))).sub (fun k hk => .inl (Nat.le_of_lt hk))
set_option maxHeartbeats 4000000 in
set_option maxRecDepth 100000 in
theorem zcond_of (f : Nat) (hU : QU f) (B g : Nat) (A : Option Addr) (n c : Nat) (T : List Tok) (s : Res Unit) (w : World) (h : QSt w B g A n c T s) (hT : TOk T) (ha : posA s ≤ 65537) (hf : T.length ≤ posA s + f) :
    Calls Tryz.prog 33 #[.pointer (some ⟨g, 0, none⟩)] w (QPost w B g A n c T (s.bind fun _ a => pcond T f a) (CV w) JC) := by
  have H := Lib.hid h
  have HT := Lib.hid hT
  have HU := Lib.hid hU
  have hTl := hT.len
  have hgw := h.lt
  have hin := bind_in (L := T.length) (s := s) (p := fun a => pconj T f a) (fun a => pconj_in T f a)
  have HE := Lib.hid (show (s.bind fun _ a => pcond T f a) = _ from joined_first T kOr 3 (pconj T f) s)
  obtain ⟨r1, er1⟩ : ∃ r1, r1 = s.bind fun _ a => pconj T f a := ⟨_, rfl⟩
  have ER1 := Lib.hid er1
  rw [← er1] at HE hin
  obtain ⟨R, eR⟩ : ∃ R, R = s.bind fun _ a => pcond T f a := ⟨_, rfl⟩
  rw [← eR] at HE ⊢
  clear h hT hU er1 eR
  have hb0 : Below w.heap.size w (w.alloc (.cells #[.int .i64 0, .int .i64 0, .int .i64 0, .slice none 0 0] 35)) := (Below.refl _ _).alloc (Nat.le_refl _) _
  have hx0 := Blk.new w 35 #[.int .i64 0, .int .i64 0, .int .i64 0, .slice none 0 0]
  go_enter Tryz.func33, Tryz.ntmps33
  go_wp2_with (fail)
  have C1 := zconj_of f HU.out B g A n c T s _ (H.out.below hb0) HT.out ha hf
  rw [← ER1.out] at C1
  refine C1.mono ?_
  clear C1
  rintro e w1 ⟨ho1, hq1, _, rfl, ⟨k1, x1, m1, A1, n1, c1, rfl⟩, hv1⟩
  have hx1 := hx0.only ho1 (by omega)
  go_wp2_with (fail)
  have hb2 : Below w1.heap.size w1 (w1.alloc (.cells #[.int .i64 k1, .int .i64 x1, .int .i64 m1, .slice A1 n1 c1] 35)) := (Below.refl _ _).alloc (Nat.le_refl _) _
  have hJ : KSt w (w1.alloc (.cells #[.int .i64 k1, .int .i64 x1, .int .i64 m1, .slice A1 n1 c1] 35)) B g A n c T r1.st (.one (r1.val .zero) .nil) 1 (some ⟨w1.heap.size, 0, none⟩) 1 := by
    have hz := ho1.size
    simp only [World.size_alloc] at hz
    refine ⟨hq1.below hb2, (Only.of_below hb0).trans (ho1.trans (Only.of_below hb2)), hgw, hx1.below hb2 hx1.lt, [.int .i64 k1, .int .i64 x1, .int .i64 m1, .slice A1 n1 c1], own_of_blk (m := 1) (Blk.new w1 _ _) rfl hz (by decide), ⟨_, _, _, _, _, _, _, rfl⟩, fun b e => ⟨rfl, ?_⟩⟩
    obtain ⟨x, rfl⟩ := st_ok e
    obtain ⟨e2, hr2⟩ := cv_read (hv1 x b rfl)
    have h1 := (hr2.new.only (S' := fun _ => False) (Only.of_below hb2) (fun _ h => h.elim))
    show RepF _ _ (.one x .nil) _
    rw [e2]
    refine RepF.one (c := ⟨k1, x1, m1, x.ps⟩) (h1.sub fun k hk => ?_)
    rcases hk with hk | hk
    · exact .inl (by simp; omega)
    · injection hk with hk
      exact .inr (by show w1.heap.size ≤ k; have hk' : w1.heap.size = k := hk; omega)
  have HJ := Lib.hid hJ
  clear hJ hb2 ho1 hq1 hv1 hb0 hx0 hx1
  generalize w1.alloc (.cells #[.int .i64 k1, .int .i64 x1, .int .i64 m1, .slice A1 n1 c1] 35) = w2 at HJ ⊢
  generalize w1.heap.size = b1 at HJ ⊢
  clear ER1
  go_loopg [3] (T.length - posA r1.st) (fun gk sv wr => ∃ (q : Res Unit) (F : CF) (m : Nat) (A' : Option Addr) (c' : Nat), T.length ≤ gk + posA q ∧ posA s ≤ posA q ∧ posA q ≤ 65537 ∧ m ≤ 65540 ∧ Hid (∀ b, q = .ok () b → m ≤ b + 1) ∧ sv = .slice A' m c' ∧ Hid (KSt w wr B g A n c T q F m A' c') ∧ Hid (R = q.bind fun _ b => (pmore T kOr (pconj T f) gk b).map fun cs => joinAll 3 (F.app cs)))
  case atStart => exact ⟨r1.st, _, 1, _, 1, by omega, hin.1, by omega, by omega, fun b e => by omega, rfl, HJ.out, HE.out⟩
  case round =>
    obtain ⟨q, F, m, A', c', hgk, hsq, hq65, hm, HM, rfl, HK, HR⟩ := hrel
    clear HJ HE
    have HC := zis_any B g A n c T q kOr wr HK.out.st (by omega)
    cases hB : qis T q kOr with
    | true =>
      rw [hB] at HC
      obtain ⟨b, rfl, hi⟩ : ∃ b, q = .ok () b ∧ isB T b kOr = true := by
        cases q with
        | ok u b => exact ⟨b, rfl, hB⟩
        | bad _ => cases hB
      have HC := Lib.hid HC
      have hlt := isB_lt T hi
      have hb65 : b ≤ 65537 := hq65
      have hsb : posA s ≤ b := hsq
      have hgk' : T.length ≤ gk + b := hgk
      obtain ⟨gk, rfl⟩ : ∃ q, gk = q + 1 := ⟨gk - 1, by omega⟩
      have HR2 := Lib.hid (HR.out.trans (joined_next T kOr 3 (pconj T f) (gk := gk) (b := b) (F := F) hi))
      have hin2 := (pconj_in T f (b + 1)).pos
      have hmb := HM.out b rfl
      clear hB hi HR hgk hsq hq65 HM
      go_wp2_with (fail)
      refine HC.out.mono ?_
      rintro e w3 ⟨rfl, hb3⟩
      have HK3 := HK.out.below hb3
      have g3 := HK3.st
      have y1 : w3.cell? ⟨g, 1, none⟩ = some (.int .i64 (b : Int)) := g3.at_
      have fz := g3.free 1
      have hgl := g3.lt
      have HK4 := Lib.hid (HK3.go (QSt.move g3 (s' := .ok () (b + 1)) rfl) (Only.set (S := (· = g)) w3 (p := ⟨g, 1, none⟩) rfl (.int .i64 (posA (.ok () (b + 1)) : Int))) (fun _ _ => ⟨b, rfl⟩))
      clear HK3 g3 hb3 HK
      go_wp2_with (fail)
      have C5 := zconj_of f HU.out B g A n c T (.ok () (b + 1)) _ HK4.out.st HT.out (by show b + 1 ≤ 65537; omega) (by show T.length ≤ b + 1 + f; omega)
      obtain ⟨r2, er2⟩ : ∃ r2, r2 = pconj T f (b + 1) := ⟨_, rfl⟩
      rw [show ((Res.ok () (b + 1) : Res Unit).bind fun _ a => pconj T f a) = r2 from er2.symm] at C5
      rw [← er2] at HR2 hin2
      refine C5.mono ?_
      clear C5 er2
      rintro e w5 ⟨ho5, hq5, _, rfl, ⟨k2, x2, m2, A2, n2, c2, rfl⟩, hv5⟩
      have hown4 := HK4.out.row
      have hbx4 := HK4.out.box.lt
      have HK5 := Lib.hid (HK4.out.go hq5 ho5 (fun _ _ => ⟨b + 1, rfl⟩))
      have HV5 := Lib.hid (show ∀ b', r2.st = .ok () b' → RepF (fun k => k ≤ w.heap.size ∨ (Value.slice A' m c').ownBlock = some k) w5 (.one (r2.val .zero) .nil) [.int .i64 k2, .int .i64 x2, .int .i64 m2, .slice A2 n2 c2] from fun b' e => by
        obtain ⟨x, rfl⟩ := st_ok e
        obtain ⟨e2, hr2⟩ := cv_read (hv5 x b' rfl)
        obtain ⟨xs, h1, _⟩ := hown4
        show RepF _ _ (.one x .nil) _
        rw [e2]
        refine RepF.one (c := ⟨k2, x2, m2, x.ps⟩) (hr2.sub fun k hk => ?_)
        rcases hk with hk | hk
        · exact Nat.lt_of_le_of_lt hk hbx4
        · exact (h1.lt k hk).2)
      clear ho5 hq5 hv5 hown4 y1 fz
      go_wp2_with (at_builtin; refine Hid.out ?_)
      refine Lib.hid ?_
      obtain ⟨xs, hrow, hshp, hrep⟩ := HK5.out.row
      have hbb : Below w5.heap.size w5 (w5.alloc (.cells #[.int .i64 k2, .int .i64 x2, .int .i64 m2, .slice A2 n2 c2] 35)) := (Below.refl _ _).alloc (Nat.le_refl _) _
      have hsz5 := HK5.out.box.lt
      refine wpList_push_apart elemCond rfl (.tmp 16) (.tmp 19) rfl (w.heap.size + 1) A' m c' xs rfl (own_below_all hrow hbb) w5.heap.size rfl [.int .i64 k2, .int .i64 x2, .int .i64 m2, .slice A2 n2 c2] rfl (new_cells _ _ _) (by intro u hu; simp at hu; rcases hu with rfl | rfl | rfl | rfl <;> rfl) (by omega) (by omega) (by simp only [World.size_alloc]; omega) ?_
      intro A3 c3 w6 hown6 hb6 hg6 hap6
      have HK6 := Lib.hid (KSt.push (HK5.out.below hbb) (xs := xs) (news := [.int .i64 k2, .int .i64 x2, .int .i64 m2, .slice A2 n2 c2]) (c2 := r2.val .zero) hshp (fun b' e => ⟨(hrep b' e).1, (hrep b' e).2.only (S' := fun _ => False) (Only.of_below hbb) (fun _ h => h.elim), (HV5.out b' e).only (S' := fun _ => False) (Only.of_below hbb) (fun _ h => h.elim)⟩) (fun k hk => (hrow.lt k hk).1) hg6 hown6 hap6)
      clear hrow hshp hrep hbb hown6 hb6 hg6 hap6 HK5 HV5
      go_wp2_with (fail)
      go_roundg gk
      case measure => omega
      case rel => exact ⟨r2.st, _, m + 1, A3, c3, by omega, by omega, by omega, by omega, fun b' e => by rw [e] at hin2; have h1 : b + 1 ≤ b' := hin2.1; omega, rfl, HK6.out, HR2.out⟩
    | false =>
      rw [hB] at HC
      have HC := Lib.hid HC
      have HR2 := Lib.hid (HR.out.trans (joined_end T kOr 3 (pconj T f) (gk := gk) (F := F) hB))
      clear hB HR
      go_wp2_with (fail)
      refine HC.out.mono ?_
      rintro e w3 ⟨rfl, hb3⟩
      have HK3 := Lib.hid (HK.out.below hb3)
      clear hb3 HK
      obtain ⟨xs, hrow, hshp, hrep⟩ := HK3.out.row
      obtain ⟨k3, x3, m3, A3, n3, c3, zs, rfl⟩ := hshp
      have HROW := Lib.hid hrow
      have HREP := Lib.hid hrep
      have hR := own_rd hrow
      have hm0 : 0 < m := by
        have := hrow.1
        simp at this
        omega
      obtain ⟨bb, off, eA, hbb, hc⟩ := hR.cells hm0
      have eA' := Lib.hid eA
      subst eA
      have y0 : w3.cell? ⟨bb, off, none⟩ = some (.int .i64 k3) := hc 0 _ rfl
      have y1 : w3.cell? ⟨bb, off + 1, none⟩ = some (.int .i64 x3) := hc 1 _ rfl
      have y2 : w3.cell? ⟨bb, off + 2, none⟩ = some (.int .i64 m3) := hc 2 _ rfl
      have y3 : w3.cell? ⟨bb, off + 3, none⟩ = some (.slice A3 n3 c3) := hc 3 _ rfl
      clear hc hrow hrep hR
      by_cases h1 : m = 1
      · have hzs : zs = [] := by
          have := HROW.out.1
          rw [h1] at this
          simp at this
          exact this
        subst hzs
        have HREP1 := HREP.out
        clear HREP HROW
        subst h1
        go_wp2_with (fail)
        refine (zjoined_one 3 bb off c' k3 x3 m3 A3 n3 c3 w3 hbb y0 y1 y2 y3).mono ?_
        rintro e w4 ⟨rfl, hb4⟩
        have HB4 := Lib.hid hb4
        have HX4 := Lib.hid (HK3.out.box.below hb4 HK3.out.box.lt)
        clear hb4 y0 y1 y2 y3
        obtain ⟨u0, u1, u2, u3, f0, f1, f2, f3⟩ := HX4.out.four
        have lx := HX4.out.lt
        go_wp2_with (fail)
        first | (refine calls_named ?_; intro W hW) | (refine body_named ?_; intro W hW) | (refine wpList_named ?_; intro W hW) | (refine wp_named ?_; intro W hW)
        obtain ⟨hk, hO⟩ : Blk W w.heap.size 35 #[.int .i64 k3, .int .i64 x3, .int .i64 m3, .slice A3 n3 c3] ∧ Only (· = w.heap.size) w4 W := by rw [← hW]; exact HX4.out.set4
        clear hW u0 u1 u2 u3 f0 f1 f2 f3
        obtain ⟨y0, y1, y2, y3, _⟩ := hk.four
        refine bodyPost_ret (by simp [results, Tryz.results33, go_sem, y0, y1, y2, y3]; try rfl) rfl ?_
        refine ⟨(HK3.out.only.trans (Only.of_below HB4.out)).new hO (fun k e => by rw [e]; exact Nat.le_refl _), ?_, _, rfl, ⟨_, _, _, _, _, _, rfl⟩, fun y j e => ?_⟩
        · rw [HR2.out, st_map, st_unit]; exact (HK3.out.st.below HB4.out).only hO (by omega) (fun k e => by rw [e]; have := HK3.out.st.lb; omega)
        · rw [HR2.out] at e
          obtain ⟨u, e1, rfl⟩ := Res.map_ok e
          obtain ⟨hl, hF⟩ := HREP1 j e1
          obtain ⟨q1, q2, q3, qs, rfl⟩ := len_one hl
          obtain ⟨A4, m4, c4, zs, e4, hH, _⟩ := RepF.uncons hF
          simp only [List.cons.injEq, Value.int.injEq, Value.slice.injEq, true_and, vi] at e4
          obtain ⟨rfl, rfl, rfl, ⟨rfl, rfl, rfl⟩, _⟩ := e4
          exact ⟨_, _, _, rfl, ((hH.only (S' := fun _ => False) (Only.of_below HB4.out) (fun _ h => h.elim)).only hO (fun k e => .inl (by rw [e]; exact Nat.le_refl _))).sub (fun k hk => .inl (Nat.le_of_lt hk))⟩
      · clear y0 y1 y2 y3
        go_wp2_with (fail)
        refine (zjoined_more 3 (some ⟨bb, off, none⟩) m c' h1 w3).mono ?_
        rintro e w4 ⟨rfl, hb4⟩
        have HB4 := Lib.hid hb4
        have HX4 := Lib.hid (HK3.out.box.below hb4 HK3.out.box.lt)
        clear hb4
        obtain ⟨u0, u1, u2, u3, f0, f1, f2, f3⟩ := HX4.out.four
        have lx := HX4.out.lt
        go_wp2_with (fail)
        first | (refine calls_named ?_; intro W hW) | (refine body_named ?_; intro W hW) | (refine wpList_named ?_; intro W hW) | (refine wp_named ?_; intro W hW)
        obtain ⟨hk, hO⟩ : Blk W w.heap.size 35 #[.int .i64 3, .int .i64 0, .int .i64 0, .slice (some ⟨bb, off, none⟩) m c'] ∧ Only (· = w.heap.size) w4 W := by rw [← hW]; exact HX4.out.set4
        clear hW u0 u1 u2 u3 f0 f1 f2 f3
        obtain ⟨y0, y1, y2, y3, _⟩ := hk.four
        refine bodyPost_ret (by simp [results, Tryz.results33, go_sem, y0, y1, y2, y3]; try rfl) rfl ?_
        refine ⟨(HK3.out.only.trans (Only.of_below HB4.out)).new hO (fun k e => by rw [e]; exact Nat.le_refl _), ?_, _, rfl, ⟨_, _, _, _, _, _, rfl⟩, fun y j e => ?_⟩
        · rw [HR2.out, st_map, st_unit]; exact (HK3.out.st.below HB4.out).only hO (by omega) (fun k e => by rw [e]; have := HK3.out.st.lb; omega)
        · rw [HR2.out] at e
          obtain ⟨u, e1, rfl⟩ := Res.map_ok e
          obtain ⟨hl, hF⟩ := HREP.out j e1
          rw [joinAll_many (by omega) (by omega)]
          refine ⟨some ⟨bb, off, none⟩, m, c', rfl, .int .i64 k3 :: .int .i64 x3 :: .int .i64 m3 :: .slice A3 n3 c3 :: zs, ?_, ?_, ?_⟩
          · exact own_rd (own_only (own_only HROW.out (S := fun _ => False) (Only.of_below HB4.out) (fun _ _ h => h)) hO (fun k hk e => by have := (HROW.out.lt k hk).1; omega))
          · intro _ p hp hS
            have h5 := (HROW.out.lt p.block (by rw [hp]; rfl)).1
            have hS' : p.block < w.heap.size := hS
            omega
          · exact ((hF.only (S' := fun _ => False) (Only.of_below HB4.out) (fun _ h => h.elim)).only hO (fun k e => .inl (by rw [e]; exact Nat.le_refl _))).sub (fun k hk => .inl (Nat.le_of_lt hk))
theorem qu_all : ∀ f, QU f
  | 0 => qu_all_zero
  | f + 1 => fun B g A n c T s w h hT ha hf => by
    refine zunit_walk B g A n c T s _ (punit T f (posA s + 1)) (pcond T f (posA s + 1)) w h hT ha (fun a e e2 w' h' => ?_) (fun a e e2 w' h' => ?_) ?_ ?_
    · subst e
      have h1 := isB_lt T e2
      have h2 := hT.len
      have h3 : T.length ≤ a + (f + 1) := hf
      exact qu_all f B g A n c T (.ok () (a + 1)) w' h' hT (by show a + 1 ≤ 65537; omega) (by show T.length ≤ a + 1 + f; omega)
    · subst e
      have h1 := isB_lt T e2
      have h2 := hT.len
      have h3 : T.length ≤ a + (f + 1) := hf
      exact zcond_of f (qu_all f) B g A n c T (.ok () (a + 1)) w' h' hT (by show a + 1 ≤ 65537; omega) (by show T.length ≤ a + 1 + f; omega)
    · have h1 := (pcond_in T f (posA s + 1)).pos
      have h2 := hT.len
      omega
    · cases s with
      | bad _ => rfl
      | ok u a => rfl
/-- The reference parser's cond. -/
theorem zcond_any (B g : Nat) (A : Option Addr) (n c : Nat) (T : List Tok) (s : Res Unit) (w : World) (h : QSt w B g A n c T s) (hT : TOk T) (ha : posA s ≤ 65537) :
    Calls Tryz.prog 33 #[.pointer (some ⟨g, 0, none⟩)] w (QPost w B g A n c T (s.bind fun _ a => pcond T T.length a) (CV w) JC) :=
  zcond_of T.length (qu_all _) B g A n c T s w h hT ha (by omega)
end Go.Proofs.YtlgdmbdhffdenaaGreatDoor

/- The reference parser's steps by their contract. -/
namespace Go.Proofs.YtlgdmbdhffdenaaGreatDoor
set_option linter.unusedVariables false
set_option linter.unusedSimpArgs false
open Go.RowKit

/-- The row of steps that is being made: the steps F, where nothing stopped the parser. -/
structure QSS (w0 wr : World) (B g : Nat) (A : Option Addr) (n c : Nat) (T : List Tok) (q : Res Unit) (F : SF) (m : Nat) (A' : Option Addr) (c' : Nat) : Prop where
  st : QSt wr B g A n c T q
  only : Only (· = g) w0 wr
  glt : g < w0.heap.size
  row : ∃ xs, wr.ownsRow w0.heap.size 98 8 (.slice A' m c') m xs ∧ (∀ b, q = .ok () b → F.len = m ∧ RepS (fun k => k < w0.heap.size ∨ (Value.slice A' m c').ownBlock = some k) wr F xs)
section
variable {w0 wr w3 W w1 : World} {B g n c c' m : Nat} {A A' : Option Addr} {T : List Tok} {F : SF} {q q' : Res Unit}
theorem QSS.own (h : QSS w0 wr B g A n c T q F m A' c') : ∀ k, (Value.slice A' m c').ownBlock = some k → w0.heap.size ≤ k ∧ k < wr.heap.size := by
  obtain ⟨xs, h1, _⟩ := h.row
  exact fun k hk => h1.lt k hk
theorem QSS.go (h : QSS w0 wr B g A n c T q F m A' c') (hp : QSt W B g A n c T q') (ho : Only (· = g) wr W) (hq : ∀ b, q' = .ok () b → ∃ a, q = .ok () a) : QSS w0 W B g A n c T q' F m A' c' := by
  obtain ⟨xs, h1, h2⟩ := h.row
  refine ⟨hp, h.only.trans ho, h.glt, xs, own_only h1 ho (fun k hk => by have := (h1.lt k hk).1; have := h.glt; omega), fun b e => ?_⟩
  obtain ⟨a, e2⟩ := hq b e
  obtain ⟨h4, h5⟩ := h2 a e2
  exact ⟨h4, h5.only ho (fun k hk => .inl (by have := h.glt; omega))⟩
theorem QSS.below (h : QSS w0 wr B g A n c T q F m A' c') (hb : Below wr.heap.size wr W) : QSS w0 W B g A n c T q F m A' c' := h.go (h.st.below hb) (Only.of_below hb) (fun b e => ⟨b, e⟩)
/-- A step's box, made behind the row, was written in between. -/
theorem QSS.far (h : QSS w0 w3 B g A n c T q F m A' c') {zb : Nat} (hz : w3.heap.size ≤ zb) (ho : Only (fun k => k = g ∨ k = zb) w3 W) (hp : QSt W B g A n c T q') (hq : ∀ b, q' = .ok () b → ∃ a, q = .ok () a) : QSS w0 W B g A n c T q' F m A' c' := by
  obtain ⟨xs, h1, h2⟩ := h.row
  have hgl := h.glt
  have hsz := h.only.size
  refine ⟨hp, ⟨ho.os.trans h.only.os, ho.tape.trans h.only.tape, ho.output.trans h.only.output, Nat.le_trans hsz ho.size, fun i hi hn => ?_⟩, hgl, xs, own_only h1 ho (fun k hk hS => ?_), fun b e => ?_⟩
  · exact (ho.block i (Nat.lt_of_lt_of_le hi hsz) (fun hS => by rcases hS with e | e; exact hn e; omega)).trans (h.only.block i hi hn)
  · have := h1.lt k hk
    rcases hS with e | e <;> omega
  · obtain ⟨a, e2⟩ := hq b e
    obtain ⟨h4, h5⟩ := h2 a e2
    refine ⟨h4, (h5.new.only ho (fun k hk => ?_)).sub (fun k hk => .inl hk)⟩
    rcases hk with e | e
    · exact .inl (.inl (by omega))
    · exact .inr (by omega)
theorem QSS.push (h : QSS w0 W B g A n c T q F m A' c') {xs news : List Value} {k2 b2 ck cv cn : Int} {cps : CF} {th el : SF} {A2 : Option Addr} {cc : Nat}
    (hn : ∀ b, q = .ok () b → F.len = m ∧ RepS (fun k => k < w0.heap.size ∨ (Value.slice A' m c').ownBlock = some k) W F xs ∧ RepS (fun k => k < w0.heap.size ∨ (Value.slice A' m c').ownBlock = some k) W (.cons k2 b2 ck cv cn cps th el .nil) news)
    (hg : W.grownBy w1 (Value.slice A' m c').ownBlock) (hown : w1.ownsRow w0.heap.size 98 8 (.slice A2 (m + 1) cc) (m + 1) (xs ++ news))
    (hap : ∀ k, (Value.slice A2 (m + 1) cc).ownBlock = some k → (Value.slice A' m c').ownBlock = some k ∨ W.heap.size ≤ k) : QSS w0 w1 B g A n c T q (F.app (.cons k2 b2 ck cv cn cps th el .nil)) (m + 1) A2 cc := by
  have ho : Only (fun k => (Value.slice A' m c').ownBlock = some k) W w1 := Only.of_grown hg (fun k hk => hk)
  have hl := fun k hk => (h.own k hk).1
  have hgl := h.glt
  refine ⟨h.st.only ho (fun e => by have := hl _ e; omega) (fun k hk => by have := hl k hk; have := h.st.lb; omega), h.only.new ho (fun k hk => hl k hk), hgl, xs ++ news, hown, fun b e => ?_⟩
  obtain ⟨e1, h2, h3⟩ := hn b e
  refine ⟨by rw [SF.len_app, e1]; rfl, ?_⟩
  have hr2 := ((RepS.app h2 h3).new).only ho (fun k hk => .inl (.inr hk))
  refine hr2.sub fun k hk => ?_
  rcases hk with hk | hk
  · exact .inl (.inl hk)
  · rcases hap k hk with e | e
    · exact .inl (.inr e)
    · exact .inr e
theorem QSS.sv (h : QSS w0 wr B g A n c T q F m A' c') {b : Nat} (e : q = .ok () b) : SV w0 F wr (.slice A' m c') := by
  obtain ⟨xs, h1, h2⟩ := h.row
  exact ⟨_, _, _, rfl, xs, own_rd h1, fun _ p hp hS => by subst hp; have := (h1.lt p.block rfl).1; omega, (h2 b e).2.sub fun k hk => .inl hk⟩
end
/-- A row's value in any case. -/
def JS (_ : World) (v : Value) : Prop := ∃ (A : Option Addr) (m c : Nat), v = .slice A m c
/-- The contract of steps with fuel f. -/
def QC (f : Nat) : Prop := ∀ (B g : Nat) (A : Option Addr) (n c : Nat) (T : List Tok) (s : Res Unit) (w : World), QSt w B g A n c T s → TOk T → posA s ≤ 65537 → T.length ≤ f + posA s →
  Calls Tryz.prog 64 #[.pointer (some ⟨g, 0, none⟩)] w (QPost w B g A n c T (s.bind fun _ a => shut (psteps T f a)) (SV w) JS)
theorem sv_read {w w' : World} {F : SF} {A : Option Addr} {m c : Nat} (h : SV w F w' (.slice A m c)) : RepT (fun k => k < w.heap.size) w' F A m c := by
  obtain ⟨A', m', c', e, hr⟩ := h
  injection e with e1 e2 e3
  subst e1; subst e2; subst e3
  exact hr
set_option maxHeartbeats 8000000 in
set_option maxRecDepth 100000 in
theorem zsteps_of (f : Nat) (ih : ∀ f', f' < f → QC f') : QC f := by
  intro B g A n c T s w h hT ha hf
  have HI := Lib.hid ih
  have H := Lib.hid h
  have HT := Lib.hid hT
  have hTl := hT.len
  have hgw := h.lt
  obtain ⟨R, eR⟩ : ∃ R, R = s.bind fun _ a => shut (psteps T f a) := ⟨_, rfl⟩
  have ER := Lib.hid eR
  rw [← eR]
  clear h hT ih eR
  go_enter Tryz.func64, Tryz.ntmps64
  go_wp2_with (fail)
  first | (refine calls_named ?_; intro W0 hW0) | (refine body_named ?_; intro W0 hW0) | (refine wpList_named ?_; intro W0 hW0) | (refine wp_named ?_; intro W0 hW0)
  have hJ0 : QSS w W0 B g A n c T s .nil 0 (some ⟨w.heap.size, 0, none⟩) 0 := by
    rw [← hW0]
    have hb : Below w.heap.size w (w.alloc (.cells #[] 98)) := (Below.refl _ _).alloc (Nat.le_refl _) _
    exact ⟨H.out.below hb, Only.of_below hb, hgw, [], own_of_blk (m := 0) (xs := []) (Blk.new w _ _) rfl (Nat.le_refl _) (by decide), fun b e => ⟨rfl, rfl⟩⟩
  have HJ0 := Lib.hid hJ0
  clear hW0 hJ0
  go_loopg [3] (T.length + 1) (fun gk sv wr => ∃ (q : Res Unit) (F : SF) (m : Nat) (A' : Option Addr) (c' fu : Nat), Hid (∀ b, q = .ok () b → 1 ≤ gk ∧ T.length + 1 ≤ gk + b ∧ T.length ≤ fu + b ∧ m ≤ b) ∧ posA s ≤ posA q ∧ posA q ≤ 65537 ∧ m ≤ 65540 ∧ fu ≤ f ∧ sv = .slice A' m c' ∧ Hid (QSS w wr B g A n c T q F m A' c') ∧
    Hid (R = q.bind fun _ b => (shut (psteps T fu b)).map (F.app ·)))
  case atStart =>
    refine ⟨s, .nil, 0, _, 0, f, fun b e => ⟨by omega, by omega, ?_, by omega⟩, Nat.le_refl _, ha, by omega, Nat.le_refl _, rfl, HJ0.out, ?_⟩
    · subst e; exact hf
    · rw [ER.out]
      cases s with
      | bad n => rfl
      | ok u a =>
        show shut (psteps T f a) = (shut (psteps T f a)).map (SF.nil.app ·)
        cases shut (psteps T f a) <;> rfl
  case round =>
    obtain ⟨q, F, m, A', c', fu, HG, hsq, hq65, hm, hfu, rfl, HZ, HR⟩ := hrel
    clear HJ0 ER
    cases q with
    | bad p =>
      have HR2 := Lib.hid (show R = .bad p from HR.out)
      have c2 : wr.cell? ⟨g, 2, none⟩ = some (.bool true) := HZ.out.st.bad
      have hgl := HZ.out.st.lt
      clear HR HG
      go_wp2_with (fail)
      go_ret
      refine ⟨HZ.out.only, ?_, _, rfl, ⟨_, _, _, rfl⟩, fun x j e => ?_⟩
      · rw [HR2.out]; exact HZ.out.st
      · rw [HR2.out] at e; cases e
    | ok u b =>
      obtain ⟨hg1, hg2, hg3, hg4⟩ := HG.out b rfl
      have hb65 : b ≤ 65537 := hq65
      have hsb : posA s ≤ b := hsq
      have c2 : wr.cell? ⟨g, 2, none⟩ = some (.bool false) := HZ.out.st.bad
      have hgl := HZ.out.st.lt
      have HR' : R = (shut (psteps T fu b)).map (F.app ·) := HR.out
      have HC := zis_any B g A n c T (.ok u b) kRB wr HZ.out.st (by show b ≤ 70000; omega)
      clear HG hsq hq65 HR
      cases hB : isB T b kRB with
      | true =>
        rw [show qis T (.ok u b) kRB = true from hB] at HC
        have HC := Lib.hid HC
        have HR2 := Lib.hid (show R = .ok F b by
          rw [HR', psteps_step hg3, if_pos hB]
          show Res.ok (F.app .nil) (b + 1 - 1) = _
          rw [SF.app_nil]
          rfl)
        clear hB HR'
        go_wp2_with (fail)
        refine HC.out.mono ?_
        rintro e w1 ⟨rfl, hb1⟩
        have HZ1 := Lib.hid (HZ.out.below hb1)
        clear hb1 c2
        go_wp2_with (fail)
        go_ret
        refine ⟨HZ1.out.only, ?_, _, rfl, ⟨_, _, _, rfl⟩, fun x j e => ?_⟩
        · rw [HR2.out]; exact HZ1.out.st
        · rw [HR2.out] at e
          cases e
          exact HZ1.out.sv rfl
      | false =>
        rw [show qis T (.ok u b) kRB = false from hB] at HC
        have HC := Lib.hid HC
        have HC2 := fun w' hs => zis_any B g A n c T (.ok u b) kIf w' hs (by show b ≤ 70000; omega)
        cases hB2 : isB T b kIf with
        | false =>
          rw [show qis T (.ok u b) kIf = false from hB2] at HC2
          have HC2 := Lib.hid HC2
          obtain ⟨r1, e1⟩ : ∃ r1, r1 = pcrit T b := ⟨_, rfl⟩
          obtain ⟨r2, e2⟩ : ∃ r2, r2 = r1.st.bind fun _ n => pwant T [kSemi] n := ⟨_, rfl⟩
          have HR2 := Lib.hid (HR'.trans (step_by (F := F) hg3 hB hB2 e1 e2))
          have i1 := (pcrit_in T b).pos
          have i1' : ∀ b', r1.st = .ok () b' → b < b' := fun b' e => by
            have := pcrit_in T b
            rw [← e1] at this
            obtain ⟨x, rfl⟩ := st_ok e
            exact this.1
          rw [← e1] at i1
          have i2 := bind_in0 (L := T.length) (s := r1.st) (p := fun a => pwant T [kSemi] a) (fun a => pwant_in0 T _ a)
          rw [← e2, st_unit] at i2
          have E1 := Lib.hid e1
          have E2 := Lib.hid e2
          clear hB hB2 HR' e1 e2
          go_wp2_with (fail)
          refine HC.out.mono ?_
          rintro e w1 ⟨rfl, hb1⟩
          have HZ1 := Lib.hid (HZ.out.below hb1)
          clear hb1 c2
          go_wp2_with (fail)
          refine (HC2.out w1 HZ1.out.st).mono ?_
          rintro e w2 ⟨rfl, hb2⟩
          have HZ2 := Lib.hid (HZ1.out.below hb2)
          clear hb2
          go_wp2_with (fail)
          have C3 := zby_any B g A n c T (.ok u b) w2 HZ2.out.st (by show b ≤ 65590; omega)
          rw [show ((Res.ok u b : Res Unit).bind fun _ a => pcrit T a) = r1 from E1.out.symm] at C3
          refine C3.mono ?_
          clear C3
          rintro e w3 ⟨ho3, hq3, _, rfl, ⟨x, rfl⟩, hv3⟩
          have HZ3 := Lib.hid (HZ2.out.go hq3 ho3 (fun _ _ => ⟨b, rfl⟩))
          have HV3 := Lib.hid hv3
          clear ho3 hq3 hv3
          go_wp2_with (fail)
          first | (refine calls_named ?_; intro W4 hW4) | (refine body_named ?_; intro W4 hW4) | (refine wpList_named ?_; intro W4 hW4) | (refine wp_named ?_; intro W4 hW4)
          have hbx4 : Blk W4 w3.heap.size 98 #[.int .i64 1, .int .i64 x, .int .i64 0, .int .i64 0, .int .i64 0, .slice none 0 0, .slice none 0 0, .slice none 0 0] := by rw [← hW4]; exact (Blk.new w3 _ _).alloc _
          have hk4 : Blk W4 (w3.heap.size + 1) 9 #[.string (bs kSemi)] := by rw [← hW4, ← World.size_alloc]; exact Blk.new _ _ _
          have hb4 : Below w3.heap.size w3 W4 := by rw [← hW4]; exact ((Below.refl _ _).alloc (Nat.le_refl _) _).alloc (by simp) _
          have HZ4 := Lib.hid (HZ3.out.below hb4)
          have hg3 : g < w3.heap.size := HZ3.out.st.lt
          have hw3 : w.heap.size ≤ w3.heap.size := HZ3.out.only.size
          clear hW4 hb4
          generalize w3.heap.size = zb at *
          have C5 := zwant_any B g A n c T r1.st (some ⟨zb + 1, 0, none⟩) 1 1 W4.heap.size [kSemi] W4 HZ4.out.st (by omega) (rd_texts (ws := [kSemi]) hk4 (by decide)) (Nat.le_refl _) (fun p hp => by injection hp with hp; rw [← hp]; show zb + 1 ≠ g; omega) (by omega)
          rw [← E2.out] at C5
          refine C5.mono ?_
          clear C5
          rintro e w5 ⟨ho5, hq5, _, rfl, rfl, _⟩
          rw [st_unit] at hq5
          have hE : ∀ b', r2 = .ok () b' → ∃ a, r1.st = .ok () a := fun b' e => by
            cases h : r1.st with
            | ok u a => exact ⟨a, rfl⟩
            | bad p => rw [E2.out, h] at e; cases e
          have HZ5 := Lib.hid (HZ4.out.go hq5 ho5 hE)
          have HE := Lib.hid hE
          have hbx5 := hbx4.only ho5 (by omega)
          have z0 : w5.cell? ⟨zb, 0, none⟩ = some (.int .i64 1) := by rw [hbx5.cell]; rfl
          have z1 : w5.cell? ⟨zb, 1, none⟩ = some (.int .i64 x) := by rw [hbx5.cell]; rfl
          have z2 : w5.cell? ⟨zb, 2, none⟩ = some (.int .i64 0) := by rw [hbx5.cell]; rfl
          have z3 : w5.cell? ⟨zb, 3, none⟩ = some (.int .i64 0) := by rw [hbx5.cell]; rfl
          have z4 : w5.cell? ⟨zb, 4, none⟩ = some (.int .i64 0) := by rw [hbx5.cell]; rfl
          have z5 : w5.cell? ⟨zb, 5, none⟩ = some (.slice none 0 0) := by rw [hbx5.cell]; rfl
          have z6 : w5.cell? ⟨zb, 6, none⟩ = some (.slice none 0 0) := by rw [hbx5.cell]; rfl
          have z7 : w5.cell? ⟨zb, 7, none⟩ = some (.slice none 0 0) := by rw [hbx5.cell]; rfl
          clear hbx4 hk4 ho5 hq5 hE hbx5
          go_wp2_with (at_builtin; refine Hid.out ?_)
          refine Lib.hid ?_
          clear z0 z1 z2 z3 z4 z5 z6 z7
          have hbb : Below w5.heap.size w5 (w5.alloc (.cells #[.int .i64 1, .int .i64 x, .int .i64 0, .int .i64 0, .int .i64 0, .slice none 0 0, .slice none 0 0, .slice none 0 0] 98)) := (Below.refl _ _).alloc (Nat.le_refl _) _
          obtain ⟨xs, hrow, hrep⟩ := HZ5.out.row
          refine wpList_push_apart elemStep rfl (.tmp 26) (.tmp 28) rfl w.heap.size A' m c' xs rfl (own_below_all hrow hbb) w5.heap.size rfl [.int .i64 1, .int .i64 x, .int .i64 0, .int .i64 0, .int .i64 0, .slice none 0 0, .slice none 0 0, .slice none 0 0] rfl (new_cells _ _ _) (by intro u hu; simp at hu; rcases hu with rfl | rfl | rfl | rfl | rfl | rfl | rfl | rfl <;> rfl) (by omega) (by omega) (by have := HZ5.out.only.size; simp only [World.size_alloc]; omega) ?_
          intro AX cX wX hownX hbX hgX hapX
          have HX := Lib.hid (QSS.push (HZ5.out.below hbb) (xs := xs) (news := [.int .i64 1, .int .i64 x, .int .i64 0, .int .i64 0, .int .i64 0, .slice none 0 0, .slice none 0 0, .slice none 0 0]) (k2 := 1) (b2 := r1.val 0) (ck := 0) (cv := 0) (cn := 0) (cps := .nil) (th := .nil) (el := .nil) (fun b' e => by
            refine ⟨(hrep b' e).1, (hrep b' e).2.only (S' := fun _ => False) (Only.of_below hbb) (fun _ h => h.elim), ?_⟩
            obtain ⟨n1, e1⟩ := HE.out b' e
            obtain ⟨y, e3⟩ := st_ok e1
            have e4 := HV3.out y n1 e3
            injection e4 with _ e4
            rw [e3]
            show RepS _ _ (.cons 1 y 0 0 0 .nil .nil .nil .nil) _
            rw [← e4]
            exact RepS.cons RepH.nil RepT.nil RepT.nil rfl) hgX hownX hapX)
          clear hrow hrep hbb hownX hbX hgX hapX
          go_wp2_with (fail)
          go_roundg (gk - 1)
          case measure => omega
          case rel =>
            refine ⟨r2, _, m + 1, AX, cX, fu - 1, fun b' e => ?_, by omega, by omega, by omega, by omega, rfl, HX.out, HR2.out⟩
            obtain ⟨n1, e1⟩ := HE.out b' e
            have j1 := i1' n1 e1
            rw [e1] at i1 i2
            rw [e] at i2
            have k1 : n1 ≤ T.length ∨ n1 = b := i1.2
            have k2 : n1 ≤ b' := i2.1
            have k3 : b' ≤ T.length ∨ b' = n1 := i2.2
            omega
        | true =>
          rw [show qis T (.ok u b) kIf = true from hB2] at HC2
          have HC2 := Lib.hid HC2
          have hlt := isB_lt T hB2
          have hfu1 : fu - 1 < f := by omega
          obtain ⟨r1, e1⟩ : ∃ r1, r1 = pcond T T.length (b + 1) := ⟨_, rfl⟩
          obtain ⟨r2, e2⟩ : ∃ r2, r2 = r1.st.bind fun _ n => pwant T [kLB] n := ⟨_, rfl⟩
          obtain ⟨r3, e3⟩ : ∃ r3, r3 = r2.bind fun _ n => shut (psteps T (fu - 1) n) := ⟨_, rfl⟩
          obtain ⟨r4, e4⟩ : ∃ r4, r4 = r3.st.bind fun _ n => pwant T [kRB] n := ⟨_, rfl⟩
          have HNO := Lib.hid (fun hq => HR'.trans (step_no (F := F) hg3 hB hB2 e1 e2 e3 e4 hq))
          have HEL := Lib.hid (fun (a : Nat) (r5 r7 : Res Unit) (r6 : Res SF) ea hq e5 e6 e7 => HR'.trans (step_else (F := F) (a := a) (r5 := r5) (r6 := r6) (r7 := r7) hg3 hB hB2 e1 e2 e3 e4 ea hq e5 e6 e7))
          have i1 := (pcond_in T T.length (b + 1)).pos
          rw [← e1] at i1
          have i2 := bind_in0 (L := T.length) (s := r1.st) (p := fun a => pwant T [kLB] a) (fun a => pwant_in0 T _ a)
          rw [← e2, st_unit] at i2
          have i3 := bind_in0 (L := T.length) (s := r2) (p := fun a => shut (psteps T (fu - 1) a)) (fun a => shut_in (psteps_in T _ a))
          rw [← e3] at i3
          have i4 := bind_in0 (L := T.length) (s := r3.st) (p := fun a => pwant T [kRB] a) (fun a => pwant_in0 T _ a)
          rw [← e4, st_unit] at i4
          have o2 : ∀ b', r2 = .ok () b' → ∃ a, r1.st = .ok () a := fun b' e => by
            cases h : r1.st with
            | ok u a => exact ⟨a, rfl⟩
            | bad p => rw [e2, h] at e; cases e
          have o3 : ∀ b', r3.st = .ok () b' → ∃ a, r2 = .ok () a := fun b' e => by
            cases h : r2 with
            | ok u a => exact ⟨a, rfl⟩
            | bad p => rw [e3, h] at e; cases e
          have o4 : ∀ b', r4 = .ok () b' → ∃ a, r3.st = .ok () a := fun b' e => by
            cases h : r3.st with
            | ok u a => exact ⟨a, rfl⟩
            | bad p => rw [e4, h] at e; cases e
          have E1 := Lib.hid e1
          have E2 := Lib.hid e2
          have E3 := Lib.hid e3
          have E4 := Lib.hid e4
          have O2 := Lib.hid o2
          have O3 := Lib.hid o3
          have O4 := Lib.hid o4
          clear hB hB2 HR' e1 e2 e3 e4 o2 o3 o4
          go_wp2_with (fail)
          refine HC.out.mono ?_
          rintro e w1 ⟨rfl, hb1⟩
          have HZ1 := Lib.hid (HZ.out.below hb1)
          clear hb1 c2
          go_wp2_with (fail)
          refine (HC2.out w1 HZ1.out.st).mono ?_
          rintro e w2 ⟨rfl, hb2⟩
          have HZ2 := HZ1.out.below hb2
          have g2 := HZ2.st
          have y1 : w2.cell? ⟨g, 1, none⟩ = some (.int .i64 (b : Int)) := g2.at_
          have fz := g2.free 1
          have hgl2 := g2.lt
          have HZ2' := Lib.hid (HZ2.go (QSt.move g2 (s' := .ok () (b + 1)) rfl) (Only.set (S := (· = g)) w2 (p := ⟨g, 1, none⟩) rfl (.int .i64 (posA (.ok () (b + 1)) : Int))) (fun _ _ => ⟨b, rfl⟩))
          clear hb2 HZ2 g2
          go_wp2_with (fail)
          have C3 := zcond_any B g A n c T (.ok () (b + 1)) _ HZ2'.out.st HT.out (by show b + 1 ≤ 65537; omega)
          rw [show ((Res.ok () (b + 1) : Res Unit).bind fun _ a => pcond T T.length a) = r1 from E1.out.symm] at C3
          refine C3.mono ?_
          clear C3
          rintro e w3 ⟨ho3, hq3, _, rfl, ⟨k, x, mm, A1, n1, c1, rfl⟩, hv3⟩
          have Hown2 := Lib.hid (fun k hk => (HZ2'.out.own k hk).2)
          have hw2 : w.heap.size ≤ (w2.setCell ⟨g, 1, none⟩ (.int .i64 (posA (.ok () (b + 1)) : Int))).heap.size := HZ2'.out.only.size
          have hg2 : g < (w2.setCell ⟨g, 1, none⟩ (.int .i64 (posA (.ok () (b + 1)) : Int))).heap.size := HZ2'.out.st.lt
          have HZ3 := Lib.hid (HZ2'.out.go hq3 ho3 (fun _ _ => ⟨b + 1, rfl⟩))
          have HV3 := Lib.hid (fun y j e => (cv_read (hv3 y j e)).imp id RepH.new)
          have hsz3 := ho3.size
          clear ho3 hq3 hv3 y1 fz HZ2'
          generalize w2.setCell ⟨g, 1, none⟩ (.int .i64 (posA (.ok () (b + 1)) : Int)) = v2 at *
          go_wp2_with (fail)
          first | (refine calls_named ?_; intro W4 hW4) | (refine body_named ?_; intro W4 hW4) | (refine wpList_named ?_; intro W4 hW4) | (refine wp_named ?_; intro W4 hW4)
          have hbx4 : Blk W4 w3.heap.size 98 #[.int .i64 2, .int .i64 0, .int .i64 k, .int .i64 x, .int .i64 mm, .slice A1 n1 c1, .slice none 0 0, .slice none 0 0] := by rw [← hW4]; exact (Blk.new w3 _ _).alloc _
          have hk4 : Blk W4 (w3.heap.size + 1) 9 #[.string (bs kLB)] := by rw [← hW4, ← World.size_alloc]; exact Blk.new _ _ _
          have hb4 : Below w3.heap.size w3 W4 := by rw [← hW4]; exact ((Below.refl _ _).alloc (Nat.le_refl _) _).alloc (by simp) _
          have Q4 := Lib.hid (HZ3.out.st.below hb4)
          have hg3 : g < w3.heap.size := HZ3.out.st.lt
          have hw3 : w.heap.size ≤ w3.heap.size := HZ3.out.only.size
          have OZ4 := Lib.hid (Only.of_below (S := fun k => k = g ∨ k = w3.heap.size) hb4)
          clear hW4 hb4
          generalize hzb : w3.heap.size = zb at *
          have HZB := Lib.hid (Nat.le_of_eq hzb)
          have wk : ∀ (u v : World), Only (· = g) u v → Only (fun k => k = g ∨ k = zb) u v := fun _ _ ho => ⟨ho.os, ho.tape, ho.output, ho.size, fun k hk hn => ho.block k hk (fun e => hn (.inl e))⟩
          have WK := Lib.hid wk
          clear hzb wk
          have C5 := zwant_any B g A n c T r1.st (some ⟨zb + 1, 0, none⟩) 1 1 W4.heap.size [kLB] W4 Q4.out (by omega) (rd_texts (ws := [kLB]) hk4 (by decide)) (Nat.le_refl _) (fun p hp => by injection hp with hp; rw [← hp]; show zb + 1 ≠ g; omega) (by omega)
          rw [← E2.out] at C5
          refine C5.mono ?_
          clear C5
          rintro e w5 ⟨ho5, hq5, _, rfl, rfl, _⟩
          rw [st_unit] at hq5
          have Q5 := Lib.hid hq5
          have hbx5 := hbx4.only ho5 (by omega)
          have OZ5 := Lib.hid (OZ4.out.trans (WK.out _ _ ho5))
          have hz5 : zb < w5.heap.size := hbx5.lt
          have hg5 : g < w5.heap.size := hq5.lt
          clear ho5 hq5 hk4 hbx4
          go_wp2_with (fail)
          have C6 := HI.out (fu - 1) hfu1 B g A n c T r2 w5 Q5.out HT.out (by omega) (by omega)
          rw [← E3.out] at C6
          refine C6.mono ?_
          clear C6
          rintro e w6 ⟨ho6, hq6, _, rfl, ⟨A2, n2, c2, rfl⟩, hv6⟩
          have Q6 := Lib.hid hq6
          have hbx6 := hbx5.only ho6 (by omega)
          have OZ6 := Lib.hid (OZ5.out.trans (WK.out _ _ ho6))
          have HV6 := Lib.hid (fun y j e => sv_read (hv6 y j e))
          have c6 : w6.cell? ⟨zb, 6, none⟩ = some (.slice none 0 0) := by rw [hbx6.cell]; rfl
          have f6 := hbx6.frozen 6
          have hl6 := hbx6.lt
          have hg6 : g < w6.heap.size := hq6.lt
          clear ho6 hq6 hv6 hbx5
          go_wp2_with (fail)
          first | (refine calls_named ?_; intro W7 hW7) | (refine body_named ?_; intro W7 hW7) | (refine wpList_named ?_; intro W7 hW7) | (refine wp_named ?_; intro W7 hW7)
          have ho7 : Only (· = zb) w6 (w6.setCell ⟨zb, 6, none⟩ (.slice A2 n2 c2)) := Only.set (S := (· = zb)) w6 (p := ⟨zb, 6, none⟩) rfl _
          have hbx7' := hbx6.set 6 (.slice A2 n2 c2)
          have q7' := Q6.out.only ho7 (by omega) (fun k e => by rw [e]; have := Q6.out.lb; omega)
          have hs7 : (w6.setCell ⟨zb, 6, none⟩ (.slice A2 n2 c2)).heap.size = w6.heap.size := World.size_setCell _ _ _
          have wk7 : Only (fun k => k = g ∨ k = zb) w6 (w6.setCell ⟨zb, 6, none⟩ (.slice A2 n2 c2)) := ⟨ho7.os, ho7.tape, ho7.output, ho7.size, fun k hk hn => ho7.block k hk (fun e => hn (.inr e))⟩
          generalize w6.setCell ⟨zb, 6, none⟩ (.slice A2 n2 c2) = v7 at *
          have hb7 : Below v7.heap.size v7 W7 := by rw [← hW7]; exact (Below.refl _ _).alloc (Nat.le_refl _) _
          have hk7 : Blk W7 w6.heap.size 9 #[.string (bs kRB)] := by rw [← hW7, ← hs7]; exact Blk.new _ _ _
          have hbx7 : Blk W7 zb 98 #[.int .i64 2, .int .i64 0, .int .i64 k, .int .i64 x, .int .i64 mm, .slice A1 n1 c1, .slice A2 n2 c2, .slice none 0 0] := Blk.below hbx7' hb7 (by omega)
          have Q7 := Lib.hid (q7'.below hb7)
          have OT7 := Lib.hid (wk7.trans (Only.of_below hb7))
          have OZ7 := Lib.hid (OZ6.out.trans OT7.out)
          clear hW7 ho7 hbx7' q7' wk7 hb7 hbx6 c6 f6 hl6 hs7
          generalize w6.heap.size = s6 at *
          have C8 := zwant_any B g A n c T r3.st (some ⟨s6, 0, none⟩) 1 1 W7.heap.size [kRB] W7 Q7.out (by omega) (rd_texts (ws := [kRB]) hk7 (by decide)) (Nat.le_refl _) (fun p hp => by injection hp with hp; rw [← hp]; show s6 ≠ g; omega) (by omega)
          rw [← E4.out] at C8
          refine C8.mono ?_
          clear C8
          rintro e w8 ⟨ho8, hq8, _, rfl, rfl, _⟩
          rw [st_unit] at hq8
          have Q8 := Lib.hid hq8
          have hbx8 := hbx7.only ho8 (by omega)
          have OT8 := Lib.hid (OT7.out.trans (WK.out _ _ ho8))
          have OZ8 := Lib.hid (OZ7.out.trans (WK.out _ _ ho8))
          clear ho8 hq8 hk7 hbx7
          go_wp2_with (fail)
          have HC9 := zis_any B g A n c T r4 kElse w8 Q8.out (by omega)
          cases hB : qis T r4 kElse with
          | false =>
            rw [hB] at HC9
            have HR2 := Lib.hid (HNO.out hB)
            clear hB HNO HEL
            refine HC9.mono ?_
            rintro e w9 ⟨rfl, hb9⟩
            have HZ9 := Lib.hid (HZ3.out.far HZB.out (OZ8.out.trans (Only.of_below hb9)) (Q8.out.below hb9) (fun b' e => by obtain ⟨_, e⟩ := O4.out b' e; obtain ⟨_, e⟩ := O3.out _ e; exact O2.out _ e))
            have OZ9 := Lib.hid (OZ8.out.trans (Only.of_below hb9))
            have OT9 := Lib.hid (OT8.out.trans (Only.of_below hb9))
            have hbx9 := hbx8.below hb9 hbx8.lt
            have z0 : w9.cell? ⟨zb, 0, none⟩ = some (.int .i64 2) := by rw [hbx9.cell]; rfl
            have z1 : w9.cell? ⟨zb, 1, none⟩ = some (.int .i64 0) := by rw [hbx9.cell]; rfl
            have z2 : w9.cell? ⟨zb, 2, none⟩ = some (.int .i64 k) := by rw [hbx9.cell]; rfl
            have z3 : w9.cell? ⟨zb, 3, none⟩ = some (.int .i64 x) := by rw [hbx9.cell]; rfl
            have z4 : w9.cell? ⟨zb, 4, none⟩ = some (.int .i64 mm) := by rw [hbx9.cell]; rfl
            have z5 : w9.cell? ⟨zb, 5, none⟩ = some (.slice A1 n1 c1) := by rw [hbx9.cell]; rfl
            have z6 : w9.cell? ⟨zb, 6, none⟩ = some (.slice A2 n2 c2) := by rw [hbx9.cell]; rfl
            have z7 : w9.cell? ⟨zb, 7, none⟩ = some (.slice none 0 0) := by rw [hbx9.cell]; rfl
            clear hb9 hbx8 hbx9 OZ8 OT8
            go_wp2_with (at_builtin; refine Hid.out ?_)
            refine Lib.hid ?_
            clear z0 z1 z2 z3 z4 z5 z6 z7
            have hbb : Below w9.heap.size w9 (w9.alloc (.cells #[.int .i64 2, .int .i64 0, .int .i64 k, .int .i64 x, .int .i64 mm, .slice A1 n1 c1, .slice A2 n2 c2, .slice none 0 0] 98)) := (Below.refl _ _).alloc (Nat.le_refl _) _
            obtain ⟨xs, hrow, hrep⟩ := HZ9.out.row
            refine wpList_push_apart elemStep rfl (.tmp 67) (.tmp 69) rfl w.heap.size A' m c' xs rfl (own_below_all hrow hbb) w9.heap.size rfl [.int .i64 2, .int .i64 0, .int .i64 k, .int .i64 x, .int .i64 mm, .slice A1 n1 c1, .slice A2 n2 c2, .slice none 0 0] rfl (new_cells _ _ _) (by intro u hu; simp at hu; rcases hu with rfl | rfl | rfl | rfl | rfl | rfl | rfl | rfl <;> rfl) (by omega) (by omega) (by have := HZ9.out.only.size; simp only [World.size_alloc]; omega) ?_
            intro AX cX wX hownX hbX hgX hapX
            have HX := Lib.hid (QSS.push (HZ9.out.below hbb) (xs := xs) (news := [.int .i64 2, .int .i64 0, .int .i64 k, .int .i64 x, .int .i64 mm, .slice A1 n1 c1, .slice A2 n2 c2, .slice none 0 0]) (k2 := 2) (b2 := 0) (ck := (r1.val .zero).k) (cv := (r1.val .zero).v) (cn := (r1.val .zero).n) (cps := (r1.val .zero).ps) (th := r3.val .nil) (el := .nil) (fun b' e => by
              refine ⟨(hrep b' e).1, (hrep b' e).2.only (S' := fun _ => False) (Only.of_below hbb) (fun _ h => h.elim), ?_⟩
              obtain ⟨p3, e3⟩ := O4.out b' e
              obtain ⟨p2, e2⟩ := O3.out _ e3
              obtain ⟨p1, e1⟩ := O2.out _ e2
              obtain ⟨y, e1⟩ := st_ok e1
              obtain ⟨t, e3⟩ := st_ok e3
              obtain ⟨ey, hry⟩ := HV3.out y p1 e1
              have hrt := HV6.out t p3 e3
              rw [e1, e3]
              show RepS _ _ (.cons 2 0 y.k y.v y.n y.ps t .nil .nil) _
              rw [ey]
              refine RepS.cons ?_ ?_ RepT.nil rfl
              · exact ((hry.only (OZ9.out.trans (Only.of_below hbb)) (fun k hk => by rcases hk with e | e; exact .inl (by omega); exact .inr (by omega))).sub (fun k hk => by rcases hk with e | e; exact .inl (by omega); exact .inl (Hown2.out k e)))
              · exact ((hrt.only (OT9.out.trans (Only.of_below hbb)) (fun k hk => by rcases hk with e | e <;> omega)).sub (fun k hk => by rcases hk with e | e; exact (by omega : k < w5.heap.size); exact Nat.lt_trans (Nat.lt_of_lt_of_le (Hown2.out k e) (by omega)) hz5))) hgX hownX hapX)
            clear hrow hrep hbb hownX hbX hgX hapX
            go_wp2_with (fail)
            go_roundg (gk - 1)
            case measure => omega
            case rel =>
              refine ⟨r4, _, m + 1, AX, cX, fu - 1, fun b' e => ?_, by omega, by omega, by omega, by omega, rfl, HX.out, HR2.out⟩
              rw [e] at i4
              have k3 : posA r3.st ≤ b' := i4.1
              have k4 : b' ≤ T.length ∨ b' = posA r3.st := i4.2
              omega
          | true =>
            rw [hB] at HC9
            obtain ⟨a4, e4, hi4⟩ : ∃ a, r4 = .ok () a ∧ isB T a kElse = true := by
              cases r4 with
              | ok u a => exact ⟨a, rfl, hB⟩
              | bad _ => cases hB
            have hlt4 := isB_lt T hi4
            obtain ⟨r5, e5⟩ : ∃ r5, r5 = pwant T [kLB] (a4 + 1) := ⟨_, rfl⟩
            obtain ⟨r6, e6⟩ : ∃ r6, r6 = r5.bind fun _ n => shut (psteps T (fu - 1) n) := ⟨_, rfl⟩
            obtain ⟨r7, e7⟩ : ∃ r7, r7 = r6.st.bind fun _ n => pwant T [kRB] n := ⟨_, rfl⟩
            have HR2 := Lib.hid (HEL.out a4 r5 r7 r6 e4 hi4 e5 e6 e7)
            have i5 := (pwant_in0 T [kLB] (a4 + 1)).pos
            rw [← e5, st_unit] at i5
            have i6 := bind_in0 (L := T.length) (s := r5) (p := fun a => shut (psteps T (fu - 1) a)) (fun a => shut_in (psteps_in T _ a))
            rw [← e6] at i6
            have i7 := bind_in0 (L := T.length) (s := r6.st) (p := fun a => pwant T [kRB] a) (fun a => pwant_in0 T _ a)
            rw [← e7, st_unit] at i7
            have o6 : ∀ b', r6.st = .ok () b' → ∃ a, r5 = .ok () a := fun b' e => by
              cases h : r5 with
              | ok u a => exact ⟨a, rfl⟩
              | bad p => rw [e6, h] at e; cases e
            have o7 : ∀ b', r7 = .ok () b' → ∃ a, r6.st = .ok () a := fun b' e => by
              cases h : r6.st with
              | ok u a => exact ⟨a, rfl⟩
              | bad p => rw [e7, h] at e; cases e
            have R4 := Lib.hid e4
            have E5 := Lib.hid e5
            have E6 := Lib.hid e6
            have E7 := Lib.hid e7
            have O6 := Lib.hid o6
            have O7 := Lib.hid o7
            have j4 : b + 1 ≤ a4 := by
              have h1 : posA r4 = a4 := by rw [e4]; rfl
              omega
            clear hB hi4 HNO HEL e5 e6 e7 o6 o7
            refine HC9.mono ?_
            clear HC9
            rintro e w9 ⟨rfl, hb9⟩
            have q9 := Q8.out.below hb9
            rw [e4] at q9
            have y1 : w9.cell? ⟨g, 1, none⟩ = some (.int .i64 (a4 : Int)) := q9.at_
            have fz := q9.free 1
            have hgl9 := q9.lt
            have ha4 : a4 ≤ 65537 := by omega
            have hmv := QSt.move q9 (s' := .ok () (a4 + 1)) rfl
            have ho9 : Only (· = g) w9 (w9.setCell ⟨g, 1, none⟩ (.int .i64 (posA (.ok () (a4 + 1)) : Int))) := Only.set (S := (· = g)) w9 (p := ⟨g, 1, none⟩) rfl _
            have hbx9 := (hbx8.below hb9 hbx8.lt).only ho9 (by omega)
            have OT9 := Lib.hid ((OT8.out.trans (Only.of_below hb9)).trans (WK.out _ _ ho9))
            have OZ9 := Lib.hid ((OZ8.out.trans (Only.of_below hb9)).trans (WK.out _ _ ho9))
            clear hb9 q9 ho9 hbx8 e4
            go_wp2_with (fail)
            first | (refine calls_named ?_; intro W10 hW10) | (refine body_named ?_; intro W10 hW10) | (refine wpList_named ?_; intro W10 hW10) | (refine wp_named ?_; intro W10 hW10)
            have hs9 : (w9.setCell ⟨g, 1, none⟩ (.int .i64 (posA (.ok () (a4 + 1)) : Int))).heap.size = w9.heap.size := World.size_setCell _ _ _
            clear y1 fz
            have hWe : (w9.setCell ⟨g, 1, none⟩ (.int .i64 (posA (.ok () (a4 + 1)) : Int))) = (w9.setCell ⟨g, 1, none⟩ (.int .i64 ((a4 : Int) + 1))) := rfl
            rw [hWe] at hmv hbx9 OT9 OZ9 hs9
            clear hWe
            generalize w9.setCell ⟨g, 1, none⟩ (.int .i64 ((a4 : Int) + 1)) = v9 at *
            have hb10 : Below v9.heap.size v9 W10 := by rw [← hW10]; exact (Below.refl _ _).alloc (Nat.le_refl _) _
            have hk10 : Blk W10 w9.heap.size 9 #[.string (bs kLB)] := by rw [← hW10, ← hs9]; exact Blk.new _ _ _
            have hbx10 := hbx9.below hb10 hbx9.lt
            have Q10 := Lib.hid (hmv.below hb10)
            have OT10 := Lib.hid (OT9.out.trans (Only.of_below hb10))
            have OZ10 := Lib.hid (OZ9.out.trans (Only.of_below hb10))
            have hz9 : zb < w9.heap.size := by rw [← hs9]; exact hbx9.lt
            clear hW10 hb10 hbx9 hs9 hmv
            generalize w9.heap.size = s9 at *
            have C11 := zwant_any B g A n c T (.ok () (a4 + 1)) (some ⟨s9, 0, none⟩) 1 1 W10.heap.size [kLB] W10 Q10.out (by show a4 + 1 ≤ 65600; omega) (rd_texts (ws := [kLB]) hk10 (by decide)) (Nat.le_refl _) (fun p hp => by injection hp with hp; rw [← hp]; show s9 ≠ g; omega) (by omega)
            rw [show ((Res.ok () (a4 + 1) : Res Unit).bind fun _ a => pwant T [kLB] a) = r5 from E5.out.symm] at C11
            refine C11.mono ?_
            clear C11
            rintro e w11 ⟨ho11, hq11, _, rfl, rfl, _⟩
            rw [st_unit] at hq11
            have Q11 := Lib.hid hq11
            have hbx11 := hbx10.only ho11 (by omega)
            have OT11 := Lib.hid (OT10.out.trans (WK.out _ _ ho11))
            have OZ11 := Lib.hid (OZ10.out.trans (WK.out _ _ ho11))
            have hz11 : zb < w11.heap.size := hbx11.lt
            have hg11 : g < w11.heap.size := hq11.lt
            clear ho11 hq11 hk10 hbx10
            go_wp2_with (fail)
            have C12 := HI.out (fu - 1) hfu1 B g A n c T r5 w11 Q11.out HT.out (by omega) (by omega)
            rw [← E6.out] at C12
            refine C12.mono ?_
            clear C12
            rintro e w12 ⟨ho12, hq12, _, rfl, ⟨A3, n3, c3, rfl⟩, hv12⟩
            have Q12 := Lib.hid hq12
            have hbx12 := hbx11.only ho12 (by omega)
            have OT12 := Lib.hid (OT11.out.trans (WK.out _ _ ho12))
            have OZ12 := Lib.hid (OZ11.out.trans (WK.out _ _ ho12))
            have HV12 := Lib.hid (fun y j e => sv_read (hv12 y j e))
            have c7 : w12.cell? ⟨zb, 7, none⟩ = some (.slice none 0 0) := by rw [hbx12.cell]; rfl
            have f7 := hbx12.frozen 7
            have hl12 := hbx12.lt
            have hg12 : g < w12.heap.size := hq12.lt
            clear ho12 hq12 hv12 hbx11
            go_wp2_with (fail)
            first | (refine calls_named ?_; intro W13 hW13) | (refine body_named ?_; intro W13 hW13) | (refine wpList_named ?_; intro W13 hW13) | (refine wp_named ?_; intro W13 hW13)
            have ho13 : Only (· = zb) w12 (w12.setCell ⟨zb, 7, none⟩ (.slice A3 n3 c3)) := Only.set (S := (· = zb)) w12 (p := ⟨zb, 7, none⟩) rfl _
            have hbx13' := hbx12.set 7 (.slice A3 n3 c3)
            have q13' := Q12.out.only ho13 (by omega) (fun k e => by rw [e]; have := Q12.out.lb; omega)
            have hs13 : (w12.setCell ⟨zb, 7, none⟩ (.slice A3 n3 c3)).heap.size = w12.heap.size := World.size_setCell _ _ _
            have wk13 : Only (fun k => k = g ∨ k = zb) w12 (w12.setCell ⟨zb, 7, none⟩ (.slice A3 n3 c3)) := ⟨ho13.os, ho13.tape, ho13.output, ho13.size, fun k hk hn => ho13.block k hk (fun e => hn (.inr e))⟩
            generalize w12.setCell ⟨zb, 7, none⟩ (.slice A3 n3 c3) = v13 at *
            have hb13 : Below v13.heap.size v13 W13 := by rw [← hW13]; exact (Below.refl _ _).alloc (Nat.le_refl _) _
            have hk13 : Blk W13 w12.heap.size 9 #[.string (bs kRB)] := by rw [← hW13, ← hs13]; exact Blk.new _ _ _
            have hbx13 : Blk W13 zb 98 #[.int .i64 2, .int .i64 0, .int .i64 k, .int .i64 x, .int .i64 mm, .slice A1 n1 c1, .slice A2 n2 c2, .slice A3 n3 c3] := Blk.below hbx13' hb13 (by omega)
            have Q13 := Lib.hid (q13'.below hb13)
            have OE13 := Lib.hid (wk13.trans (Only.of_below hb13))
            have OT13 := Lib.hid (OT12.out.trans OE13.out)
            have OZ13 := Lib.hid (OZ12.out.trans OE13.out)
            clear hW13 ho13 hbx13' q13' wk13 hb13 hbx12 c7 f7 hl12 hs13
            generalize w12.heap.size = s12 at *
            have C14 := zwant_any B g A n c T r6.st (some ⟨s12, 0, none⟩) 1 1 W13.heap.size [kRB] W13 Q13.out (by omega) (rd_texts (ws := [kRB]) hk13 (by decide)) (Nat.le_refl _) (fun p hp => by injection hp with hp; rw [← hp]; show s12 ≠ g; omega) (by omega)
            rw [← E7.out] at C14
            refine C14.mono ?_
            clear C14
            rintro e w14 ⟨ho14, hq14, _, rfl, rfl, _⟩
            rw [st_unit] at hq14
            have hbx14 := hbx13.only ho14 (by omega)
            have OE14 := Lib.hid (OE13.out.trans (WK.out _ _ ho14))
            have OT14 := Lib.hid (OT13.out.trans (WK.out _ _ ho14))
            have OZ14 := Lib.hid (OZ13.out.trans (WK.out _ _ ho14))
            have HZ14 := Lib.hid (HZ3.out.far HZB.out OZ14.out hq14 (fun b' _ => by obtain ⟨_, e⟩ := O4.out _ R4.out; obtain ⟨_, e⟩ := O3.out _ e; exact O2.out _ e))
            clear ho14 hq14 hk13 hbx13
            have z0 : w14.cell? ⟨zb, 0, none⟩ = some (.int .i64 2) := by rw [hbx14.cell]; rfl
            have z1 : w14.cell? ⟨zb, 1, none⟩ = some (.int .i64 0) := by rw [hbx14.cell]; rfl
            have z2 : w14.cell? ⟨zb, 2, none⟩ = some (.int .i64 k) := by rw [hbx14.cell]; rfl
            have z3 : w14.cell? ⟨zb, 3, none⟩ = some (.int .i64 x) := by rw [hbx14.cell]; rfl
            have z4 : w14.cell? ⟨zb, 4, none⟩ = some (.int .i64 mm) := by rw [hbx14.cell]; rfl
            have z5 : w14.cell? ⟨zb, 5, none⟩ = some (.slice A1 n1 c1) := by rw [hbx14.cell]; rfl
            have z6 : w14.cell? ⟨zb, 6, none⟩ = some (.slice A2 n2 c2) := by rw [hbx14.cell]; rfl
            have z7 : w14.cell? ⟨zb, 7, none⟩ = some (.slice A3 n3 c3) := by rw [hbx14.cell]; rfl
            clear hbx14
            go_wp2_with (at_builtin; refine Hid.out ?_)
            refine Lib.hid ?_
            clear z0 z1 z2 z3 z4 z5 z6 z7
            have hbb : Below w14.heap.size w14 (w14.alloc (.cells #[.int .i64 2, .int .i64 0, .int .i64 k, .int .i64 x, .int .i64 mm, .slice A1 n1 c1, .slice A2 n2 c2, .slice A3 n3 c3] 98)) := (Below.refl _ _).alloc (Nat.le_refl _) _
            obtain ⟨xs, hrow, hrep⟩ := HZ14.out.row
            refine wpList_push_apart elemStep rfl (.tmp 67) (.tmp 69) rfl w.heap.size A' m c' xs rfl (own_below_all hrow hbb) w14.heap.size rfl [.int .i64 2, .int .i64 0, .int .i64 k, .int .i64 x, .int .i64 mm, .slice A1 n1 c1, .slice A2 n2 c2, .slice A3 n3 c3] rfl (new_cells _ _ _) (by intro u hu; simp at hu; rcases hu with rfl | rfl | rfl | rfl | rfl | rfl | rfl | rfl <;> rfl) (by omega) (by omega) (by have := HZ14.out.only.size; simp only [World.size_alloc]; omega) ?_
            intro AX cX wX hownX hbX hgX hapX
            have HX := Lib.hid (QSS.push (HZ14.out.below hbb) (xs := xs) (news := [.int .i64 2, .int .i64 0, .int .i64 k, .int .i64 x, .int .i64 mm, .slice A1 n1 c1, .slice A2 n2 c2, .slice A3 n3 c3]) (k2 := 2) (b2 := 0) (ck := (r1.val .zero).k) (cv := (r1.val .zero).v) (cn := (r1.val .zero).n) (cps := (r1.val .zero).ps) (th := r3.val .nil) (el := r6.val .nil) (fun b' e => by
              refine ⟨(hrep b' e).1, (hrep b' e).2.only (S' := fun _ => False) (Only.of_below hbb) (fun _ h => h.elim), ?_⟩
              obtain ⟨p6, e6⟩ := O7.out b' e
              obtain ⟨p3, e3⟩ := O4.out _ R4.out
              obtain ⟨p2, e2⟩ := O3.out _ e3
              obtain ⟨p1, e1⟩ := O2.out _ e2
              obtain ⟨y, e1⟩ := st_ok e1
              obtain ⟨t, e3⟩ := st_ok e3
              obtain ⟨el, e6⟩ := st_ok e6
              obtain ⟨ey, hry⟩ := HV3.out y p1 e1
              have hrt := HV6.out t p3 e3
              have hre := HV12.out el p6 e6
              rw [e1, e3, e6]
              show RepS _ _ (.cons 2 0 y.k y.v y.n y.ps t el .nil) _
              rw [ey]
              refine RepS.cons ?_ ?_ ?_ rfl
              · exact ((hry.only (OZ14.out.trans (Only.of_below hbb)) (fun k hk => by rcases hk with e | e; exact .inl (by omega); exact .inr (by omega))).sub (fun k hk => by rcases hk with e | e; exact .inl (by omega); exact .inl (Hown2.out k e)))
              · exact ((hrt.only (OT14.out.trans (Only.of_below hbb)) (fun k hk => by rcases hk with e | e <;> omega)).sub (fun k hk => by rcases hk with e | e; exact (by omega : k < w5.heap.size); exact Nat.lt_trans (Nat.lt_of_lt_of_le (Hown2.out k e) (by omega)) hz5))
              · exact ((hre.only (OE14.out.trans (Only.of_below hbb)) (fun k hk => by rcases hk with e | e <;> omega)).sub (fun k hk => by rcases hk with e | e; exact (by omega : k < w11.heap.size); exact Nat.lt_trans (Nat.lt_of_lt_of_le (Hown2.out k e) (by omega)) hz11))) hgX hownX hapX)
            clear hrow hrep hbb hownX hbX hgX hapX
            go_wp2_with (fail)
            go_roundg (gk - 1)
            case measure => omega
            case rel =>
              refine ⟨r7, _, m + 1, AX, cX, fu - 1, fun b' e => ?_, by omega, by omega, by omega, by omega, rfl, HX.out, HR2.out⟩
              rw [e] at i7
              have k3 : posA r6.st ≤ b' := i7.1
              have k4 : b' ≤ T.length ∨ b' = posA r6.st := i7.2
              omega
theorem qc_all (f : Nat) : QC f := by
  induction f using Nat.strongRecOn with
  | _ f ih => exact zsteps_of f ih
/-- The reference parser's steps. -/
theorem zsteps_any (B g : Nat) (A : Option Addr) (n c : Nat) (T : List Tok) (s : Res Unit) (w : World) (h : QSt w B g A n c T s) (hT : TOk T) (ha : posA s ≤ 65537) :
    Calls Tryz.prog 64 #[.pointer (some ⟨g, 0, none⟩)] w (QPost w B g A n c T (s.bind fun _ a => shut (psteps T T.length a)) (SV w) JS) := qc_all _ B g A n c T s w h hT ha (by omega)
end Go.Proofs.YtlgdmbdhffdenaaGreatDoor
