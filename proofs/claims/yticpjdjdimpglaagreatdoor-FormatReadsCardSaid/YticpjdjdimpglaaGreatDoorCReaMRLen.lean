/- The reference's Same by its contract. -/
import Derived.Test.YticpjdjdimpglaaGreatDoorCReaMRSam
import Derived.Test.YticpjdjdimpglaaGreatDoorCReaMWText3
import Derived.Test.YticpjdjdimpglaaGreatDoorCReaMKeyword
import Derived.Test.YticpjdjdimpglaaGreatDoorCReaMCmp2
import Derived.Test.YticpjdjdimpglaaGreatDoorCReaMSnB
namespace Go.Proofs.YticpjdjdimpglaaGreatDoor
set_option linter.unusedVariables false
set_option linter.unusedSimpArgs false
open Go.RowKit
set_option maxHeartbeats 8000000 in
set_option maxRecDepth 100000 in
theorem rsameR_any (S S' : Nat → Prop) (x y : RT) (A : Option Addr) (m d : Nat) (C : Option Addr) (i j : Nat) (A' : Option Addr) (m' d' : Nat) (C' : Option Addr) (i' j' : Nat) (w : World)
    (h1 : RepT S w x.order A m d) (h2 : RepZ S w x.zones C i j) (h3 : RepT S' w y.order A' m' d') (h4 : RepZ S' w y.zones C' i' j') :
    Calls Tryz.prog 18 #[rV x A m d C i j, rV y A' m' d' C' i' j'] w fun e w' => e = .returned (.bool (sameR x y)) ∧ Below w.heap.size w w' := by
  have HT := Lib.hid (fun W (hW : Below w.heap.size w W) => rsame_all (x.order.sz + 1) S S' x.order y.order A m d A' m' d' W (Nat.lt_succ_self _) (h1.below hW) (h3.below hW))
  have HZ1 := Lib.hid h2
  have HZ2 := Lib.hid h4
  have HL1 := Lib.hid h2.len
  have HL2 := Lib.hid h4.len
  have hc1 := h2.1.cap
  have hb1 := h2.1.big
  have hc2 := h4.1.cap
  have hb2 := h4.1.big
  have HR := Lib.hid (show sameR x y = (decide (x.name = y.name) && (x.win == y.win && (x.draw == y.draw && (x.loss == y.loss && (decide (x.order = y.order) && decide (x.zones = y.zones)))))) from rfl)
  clear h1 h2 h3 h4
  generalize sameR x y = r at HR ⊢
  unfold rV
  obtain ⟨nm, w1, w2, w3, od, zs⟩ := x
  obtain ⟨nm', w1', w2', w3', od', zs'⟩ := y
  dsimp only at HT HZ1 HZ2 HL1 HL2 HR ⊢
  generalize decide (od = od') = rt at HT HR
  go_enter Tryz.func18, Tryz.ntmps18
  by_cases hn : nm = nm'
  case neg =>
    rw [decide_eq_false hn] at HR
    go_wp2_with (fail)
    first | (refine calls_named ?_; intro W hW) | (refine body_named ?_; intro W hW) | (refine wpList_named ?_; intro W hW) | (refine wp_named ?_; intro W hW)
    have hb : Below w.heap.size w W := by rw [← hW]; exact ((Below.refl _ _).alloc (Nat.le_refl _) _).alloc (by simp) _
    clear hW
    go_ret
    exact ⟨ret_bool (by rw [HR.out]; rfl), hb⟩
  subst hn
  rw [decide_eq_true rfl] at HR
  cases q1 : (w1 != w1')
  case true =>
    have q1' : (w1 == w1') = false := by simpa using q1
    rw [q1'] at HR
    clear q1'
    go_wp2_with (fail)
    first | (refine calls_named ?_; intro W hW) | (refine body_named ?_; intro W hW) | (refine wpList_named ?_; intro W hW) | (refine wp_named ?_; intro W hW)
    have hb : Below w.heap.size w W := by rw [← hW]; exact ((Below.refl _ _).alloc (Nat.le_refl _) _).alloc (by simp) _
    clear hW
    go_ret
    exact ⟨ret_bool (by rw [HR.out]; rfl), hb⟩
  cases q2 : (w2 != w2')
  case true =>
    have q2' : (w2 == w2') = false := by simpa using q2
    rw [q2'] at HR
    clear q2'
    go_wp2_with (fail)
    first | (refine calls_named ?_; intro W hW) | (refine body_named ?_; intro W hW) | (refine wpList_named ?_; intro W hW) | (refine wp_named ?_; intro W hW)
    have hb : Below w.heap.size w W := by rw [← hW]; exact ((Below.refl _ _).alloc (Nat.le_refl _) _).alloc (by simp) _
    clear hW
    go_ret
    exact ⟨ret_bool (by rw [HR.out]; simp), hb⟩
  cases q3 : (w3 != w3')
  case true =>
    have q3' : (w3 == w3') = false := by simpa using q3
    rw [q3'] at HR
    clear q3'
    go_wp2_with (fail)
    first | (refine calls_named ?_; intro W hW) | (refine body_named ?_; intro W hW) | (refine wpList_named ?_; intro W hW) | (refine wp_named ?_; intro W hW)
    have hb : Below w.heap.size w W := by rw [← hW]; exact ((Below.refl _ _).alloc (Nat.le_refl _) _).alloc (by simp) _
    clear hW
    go_ret
    exact ⟨ret_bool (by rw [HR.out]; simp), hb⟩
  have HR2 := Lib.hid (show r = (rt && decide (zs = zs')) by
    have e1 : (w1 == w1') = true := by simpa using q1
    have e2 : (w2 == w2') = true := by simpa using q2
    have e3 : (w3 == w3') = true := by simpa using q3
    rw [HR.out, e1, e2, e3]
    simp)
  clear HR
  go_wp2_with (fail)
  first | (refine calls_named ?_; intro W hW) | (refine body_named ?_; intro W hW) | (refine wpList_named ?_; intro W hW) | (refine wp_named ?_; intro W hW)
  have hb : Below w.heap.size w W := by rw [← hW]; exact ((Below.refl _ _).alloc (Nat.le_refl _) _).alloc (by simp) _
  have hx : Blk W w.heap.size 28 #[.string (bs nm), .int .i64 w1, .int .i64 w2, .int .i64 w3, .slice A m d, .slice C i j] := by rw [← hW]; exact (Blk.new w _ _).alloc _
  have hy : Blk W (w.heap.size + 1) 28 #[.string (bs nm), .int .i64 w1', .int .i64 w2', .int .i64 w3', .slice A' m' d', .slice C' i' j'] := by
    rw [← hW, ← World.size_alloc w]
    exact Blk.new _ _ _
  clear hW
  have HB := Lib.hid hb
  have HX := Lib.hid hx
  have HY := Lib.hid hy
  clear hb hx hy q1 q2 q3
  refine (HT.out W HB.out).mono ?_
  rintro e' w4 ⟨rfl, hb3⟩
  have HB3 := Lib.hid (HB.out.trans (hb3.mono HB.out.size))
  have HX3 := Lib.hid (HX.out.below hb3 HX.out.lt)
  have HY3 := Lib.hid (HY.out.below hb3 HY.out.lt)
  clear hb3
  have xl := HX3.out.lt
  have yl := HY3.out.lt
  have x5 := HX3.out.cell 5
  have y5 := HY3.out.cell 5
  cases rt
  · go_wp2_with (fail)
    go_ret
    exact ⟨ret_bool (by rw [HR2.out]; rfl), HB3.out⟩
  rw [Bool.true_and] at HR2
  by_cases hmn : i = i'
  · have hmn2 : ((i : Int) != (i' : Int)) = false := by rw [hmn]; simp
    have HMN := Lib.hid hmn
    have HE := Lib.hid (show r = true ↔ zs.drop 0 = zs'.drop 0 by
      rw [HR2.out, decide_eq_true_eq]
      exact ⟨fun h => by rw [h], fun h => by simpa using h⟩)
    clear hmn HR2
    go_wp2_with (fail)
    clear x5 y5
    go_loopw [5] (fun q wr => ∃ k : Nat, k ≤ i ∧ q = .int .i64 k ∧ Hid (Below w4.heap.size w4 wr) ∧ Hid (r = true ↔ zs.drop k = zs'.drop k)) (fun q _ => i - (intOf q).toNat)
    case atStart => exact ⟨0, Nat.zero_le _, rfl, Below.refl _ _, HE.out⟩
    case round =>
      obtain ⟨k, hki, rfl, HBk, HC⟩ := hrel
      have HBw := Lib.hid (HB3.out.trans (HBk.out.mono HB3.out.size))
      have hx := HX3.out.below HBk.out xl
      have hy := HY3.out.below HBk.out yl
      have x5 := hx.cell 5
      have y5 := hy.cell 5
      have xl2 := hx.lt
      have yl2 := hy.lt
      clear hx hy
      by_cases hlt : k < i
      · have hltn : k < i' := by have := HMN.out; omega
        obtain ⟨b, off, x, rfl, hb, hS, hx, g0, g1, g2⟩ := HZ1.out.elem hlt
        obtain ⟨b', off', y, rfl, hb', hS', hy, z0, z1, z2⟩ := HZ2.out.elem hltn
        rw [← HBw.out.cell (p := ⟨b, _, none⟩) hb] at g0 g1 g2
        rw [← HBw.out.cell (p := ⟨b', _, none⟩) hb'] at z0 z1 z2
        have hbl : b < wr.heap.size := Nat.lt_of_lt_of_le hb HBw.out.size
        have hbl' : b' < wr.heap.size := Nat.lt_of_lt_of_le hb' HBw.out.size
        have HC2 := Lib.hid (show r = true ↔ x = y ∧ zs.drop (k + 1) = zs'.drop (k + 1) by
          obtain ⟨a1, a2⟩ := List.getElem?_eq_some_iff.1 hx
          obtain ⟨a3, a4⟩ := List.getElem?_eq_some_iff.1 hy
          rw [HC.out, List.drop_eq_getElem_cons a1, List.drop_eq_getElem_cons a3, a2, a4, List.cons.injEq])
        have hne := zone_ne x y
        unfold zV at hne
        have HXY := Lib.hid (show decide (x ≠ y) = true ↔ ¬ x = y by simp)
        generalize decide (x ≠ y) = q at hne HXY
        clear hx hy hS hS'
        have hlt2 : (k : Int) < (i : Int) := by omega
        have hlt3 : (k : Int) < (i' : Int) := by omega
        cases q
        · go_wp2_with (fail)
          go_quiet (fail)
          go_wp2_with (fail)
          go_roundw
          case rel => exact ⟨k + 1, hlt, by go_num, below_drewN HBk.out nq, by
            refine Lib.hid ?_
            have h1 : x = y := Classical.not_not.1 fun h => absurd (HXY.out.2 h) (by decide)
            rw [HC2.out]
            simp [h1]⟩
          case measure => simp [intOf]; omega
        · go_wp2_with (fail)
          go_quiet (fail)
          go_wp2_with (fail)
          go_ret
          exact ⟨ret_bool (by
            have h1 : ¬ x = y := by simpa using HXY.out
            cases r
            · rfl
            · exact absurd (HC2.out.1 rfl).1 h1), below_drewN HBw.out nq⟩
      · have HC2 := Lib.hid (show r = true by
          have h := HC.out
          rw [List.drop_eq_nil_of_le (by rw [← HL1.out]; omega), List.drop_eq_nil_of_le (by rw [← HL2.out, ← HMN.out]; omega)] at h
          exact h.2 rfl)
        go_wp2_with (fail)
        go_ret
        exact ⟨ret_bool HC2.out.symm, HBw.out⟩
  · have hmn2 : ((i : Int) != (i' : Int)) = true := bne_iff_ne.2 fun h => hmn (Int.ofNat.inj h)
    have HC2 := Lib.hid (show r = false by
      rw [HR2.out, decide_eq_false_iff_not]
      intro h
      exact hmn (HL1.out.trans ((congrArg List.length h).trans HL2.out.symm)))
    clear hmn
    go_wp2_with (fail)
    go_ret
    exact ⟨ret_bool HC2.out.symm, HB3.out⟩
end Go.Proofs.YticpjdjdimpglaaGreatDoor
/- Plain law: FormatReads: parsed rules that are valid survive printing and parsing. No program. -/
namespace Go.Proofs.YticpjdjdimpglaaGreatDoor
set_option linter.unusedVariables false
set_option linter.unusedSimpArgs false
/-- A condition that is its own core, through and through. -/
def Cored (c : CT) : Prop := cores c = c
theorem corF_one (c : CT) (r : CF) : corF (.one c r) = .one (cores c) (corF r) := by unfold CF.one; rw [corF]; rfl
theorem cored_cnot {c : CT} (h : Cored c) : Cored (cnot c) := by
  unfold Cored cores cnot CF.one
  simp only
  rw [cor1, if_neg (by omega)]
  have e : cor1 c.ps c.k c.v c.n = c := h
  rw [e, corF]
  rfl
theorem cored_least (v n : Int) : Cored (least v n) := by
  unfold Cored cores least
  simp only
  rw [cor1]
theorem cored_two {kind : Int} {c : CT} {k v n : Int} {ps r : CF} (h : Cored c) (hr : corF (.cons k v n ps r) = .cons k v n ps r) : Cored ⟨kind, 0, 0, .one c (.cons k v n ps r)⟩ := by
  unfold Cored cores CF.one
  simp only
  rw [cor1, if_neg (by rintro ⟨_, e⟩; cases e)]
  have e : cor1 c.ps c.k c.v c.n = c := h
  rw [e, hr]
  rfl
theorem cored_compare (v op n : Int) : Cored (compare_ v op n) := by
  unfold compare_
  split
  · exact cored_least _ _
  · split
    · exact cored_least _ _
    · split
      · exact cored_cnot (cored_least _ _)
      · split
        · exact cored_cnot (cored_least _ _)
        · refine cored_two (cored_least _ _) ?_
          have := corF_one (cnot (least v (n + 1))) .nil
          rw [show cores (cnot (least v (n + 1))) = cnot (least v (n + 1)) from cored_cnot (cored_least _ _), corF] at this
          exact this
section
variable {T : List Tok}
theorem pmore_cored {kw : List UInt8} {p : Nat → Res CT} (hp : ∀ a c n, p a = .ok c n → Cored c) : ∀ (g a : Nat) (cs : CF) (n : Nat), pmore T kw p g a = .ok cs n → corF cs = cs
  | 0, a, cs, n, h => by cases h; rw [corF]
  | g + 1, a, cs, n, h => by
    rw [pmore_succ2] at h
    split at h
    · obtain ⟨c, m, h1, h2⟩ := Res.bind_ok h
      obtain ⟨ds, h3, rfl⟩ := Res.map_ok h2
      rw [corF_one, show cores c = c from hp _ _ _ h1, pmore_cored hp g m ds n h3]
    · cases h; rw [corF]
theorem pjoined_cored {kw : List UInt8} {kind : Int} {p : Nat → Res CT} (hp : ∀ a c n, p a = .ok c n → Cored c) {a n : Nat} {c : CT} (h : pjoined T kw kind p a = .ok c n) : Cored c := by
  unfold pjoined at h
  obtain ⟨d, m, h1, h2⟩ := Res.bind_ok h
  obtain ⟨cs, h3, rfl⟩ := Res.map_ok h2
  have hc := hp _ _ _ h1
  have hcs := pmore_cored hp _ _ _ _ h3
  cases cs with
  | nil => exact hc
  | cons k v n' ps r => exact cored_two hc hcs
theorem punit_cored : ∀ (f a : Nat) (c : CT) (n : Nat), punit T f a = .ok c n → Cored c
  | 0, a, c, n, h => by cases h
  | f + 1, a, c, n, h => by
    rw [punit_succ] at h
    split at h
    · obtain ⟨d, h1, rfl⟩ := Res.map_ok h
      exact cored_cnot (punit_cored f _ _ _ h1)
    · split at h
      · obtain ⟨d, m, h1, h2⟩ := Res.bind_ok h
        obtain ⟨_, _, rfl⟩ := Res.map_ok h2
        exact pjoined_cored (fun a c n h => pjoined_cored (punit_cored f) h) h1
      · unfold pcomp at h
        obtain ⟨v, m, _, h2⟩ := Res.bind_ok h
        obtain ⟨o, m2, _, h3⟩ := Res.bind_ok h2
        obtain ⟨i, m3, _, h4⟩ := Res.bind_ok h3
        cases h4
        exact cored_compare _ _ _
theorem pcond_cored {f a n : Nat} {c : CT} (h : pcond T f a = .ok c n) : Cored c := pjoined_cored (fun _ _ _ h => pjoined_cored (punit_cored f) h) h
theorem psteps_cored : ∀ (f a : Nat) (l : SF) (n : Nat), psteps T f a = .ok l n → coreS l = l
  | 0, a, l, n, h => by cases h
  | f + 1, a, l, n, h => by
    have ih := psteps_cored f
    rw [psteps_succ] at h
    split at h
    · cases h; rfl
    · split at h
      · obtain ⟨c, m, h1, h2⟩ := Res.bind_ok h
        obtain ⟨_, m2, _, h3⟩ := Res.bind_ok h2
        obtain ⟨t, m3, h4, h5⟩ := Res.bind_ok h3
        have hc : cores c = c := pcond_cored h1
        split at h5
        · obtain ⟨_, m4, _, h6⟩ := Res.bind_ok h5
          obtain ⟨e, m5, h7, h8⟩ := Res.bind_ok h6
          obtain ⟨r, h9, rfl⟩ := Res.map_ok h8
          show (if (2 : Int) = 2 then SF.one 2 0 (cores c) (coreS t) (coreS e) (coreS r) else _) = _
          rw [if_pos rfl, hc, ih _ _ _ h4, ih _ _ _ h7, ih _ _ _ h9]
        · obtain ⟨r, h9, rfl⟩ := Res.map_ok h5
          show (if (2 : Int) = 2 then SF.one 2 0 (cores c) (coreS t) (coreS .nil) (coreS r) else _) = _
          rw [if_pos rfl, hc, ih _ _ _ h4, ih _ _ _ h9]
          rfl
      · obtain ⟨b, m, _, h2⟩ := Res.bind_ok h
        obtain ⟨_, m2, _, h3⟩ := Res.bind_ok h2
        obtain ⟨r, h9, rfl⟩ := Res.map_ok h3
        show (if (1 : Int) = 2 then _ else SF.cons 1 b _ _ _ _ _ _ (coreS r)) = _
        rw [if_neg (by decide), ih _ _ _ h9]
        rfl
theorem pname_kw {a n : Nat} {s : List UInt8} (h : pname T a = .ok s n) : kwB s = false := by
  unfold pname at h
  split at h
  · next h1 => cases h; exact h1.2
  · cases h
theorem pzones_kw : ∀ (f a : Nat) (l : List ZT) (n : Nat), pzones T f a = .ok l n → ∀ z ∈ l, kwB z.name = false
  | 0, a, l, n, h => by cases h
  | f + 1, a, l, n, h => by
    rw [pzones_succ] at h
    split at h
    · cases h
      intro z hz
      cases hz
    · obtain ⟨y, m, h1, h2⟩ := Res.bind_ok h
      obtain ⟨r, h3, rfl⟩ := Res.map_ok h2
      intro z hz
      rcases List.mem_cons.1 hz with rfl | hz
      · unfold pzone at h1
        obtain ⟨s, m1, g1, g2⟩ := Res.bind_ok h1
        obtain ⟨i, m2, _, g3⟩ := Res.bind_ok g2
        have hk := pname_kw g1
        split at g3
        · obtain ⟨j, m3, _, g4⟩ := Res.bind_ok g3
          obtain ⟨_, _, rfl⟩ := Res.map_ok g4
          exact hk
        · obtain ⟨_, _, rfl⟩ := Res.map_ok g3
          exact hk
      · exact pzones_kw f m r n h3 z hz
/-- Parsed rules. -/
theorem prules_cored {a n : Nat} {r : RT} (h : prules T a = .ok r n) : coreS r.order = r.order ∧ kwB r.name = false ∧ ∀ z ∈ r.zones, kwB z.name = false := by
  unfold prules at h
  obtain ⟨_, m1, _, h⟩ := Res.bind_ok h
  obtain ⟨s, m2, hs, h⟩ := Res.bind_ok h
  obtain ⟨_, m3, _, h⟩ := Res.bind_ok h
  obtain ⟨i, m4, _, h⟩ := Res.bind_ok h
  obtain ⟨_, m5, _, h⟩ := Res.bind_ok h
  obtain ⟨j, m6, _, h⟩ := Res.bind_ok h
  obtain ⟨_, m7, _, h⟩ := Res.bind_ok h
  obtain ⟨k, m8, _, h⟩ := Res.bind_ok h
  obtain ⟨_, m9, _, h⟩ := Res.bind_ok h
  obtain ⟨o, m10, ho, h⟩ := Res.bind_ok h
  obtain ⟨_, m11, _, h⟩ := Res.bind_ok h
  obtain ⟨z, m12, hz, h⟩ := Res.bind_ok h
  obtain ⟨_, _, rfl⟩ := Res.map_ok h
  exact ⟨psteps_cored _ _ _ _ ho, pname_kw hs, pzones_kw _ _ _ _ hz⟩
end
/-- FormatReads, in plain Lean. -/
theorem law_reads {l : List UInt8} {r : RT} {a : Int} (h : topRules l = (r, a, 0)) (ht : trules r = 0) : ∃ s, frules r = (s, 0) ∧ topRules s = (r, 0, 0) := by
  obtain ⟨_, _, n, hp, _⟩ := topOf_ok h (lex_code l)
  obtain ⟨h1, h2, h3⟩ := prules_cored hp
  have hf : frules r = (rtext r, 0) := by
    rw [frules_def, if_neg (by simp [ht]), if_neg]
    simp only [Bool.or_eq_true, not_or, Bool.not_eq_true, List.any_eq_false]
    exact ⟨h2, fun z hz => by simp [h3 z hz]⟩
  obtain ⟨s, hs⟩ : ∃ s, s = rtext r := ⟨_, rfl⟩
  rw [← hs] at hf
  refine ⟨s, hf, ?_⟩
  have := (law_parses hf).1
  rw [h1] at this
  exact this
end Go.Proofs.YticpjdjdimpglaaGreatDoor
/- Plain laws: how great parsed rules are. No program. -/
namespace Go.Proofs.YticpjdjdimpglaaGreatDoor
set_option linter.unusedVariables false
set_option linter.unusedSimpArgs false
/-- What is parsed is bounded by four times the tokens taken. -/
def Bd {α : Type} (μ : α → Nat) (a : Nat) (r : Res α) : Prop := ∀ x n, r = .ok x n → μ x + 4 * a ≤ 4 * n
def cμ (c : CT) : Nat := c.ps.cnt + 1
section
variable {T : List Tok}
theorem in_ok {α : Type} {L a n : Nat} {r : Res α} {x : α} (h : r.In L a) (e : r = .ok x n) : a < n := by rw [e] at h; exact h.1
theorem in0_ok {α : Type} {L a n : Nat} {r : Res α} {x : α} (h : r.In0 L a) (e : r = .ok x n) : a ≤ n := by rw [e] at h; exact h.1
theorem pcomp_bd (a : Nat) : Bd cμ a (pcomp T a) := by
  intro x n h
  obtain ⟨v, m, h1, h⟩ := Res.bind_ok h
  obtain ⟨op, k, h2, h⟩ := Res.bind_ok h
  obtain ⟨i, j, h3, h⟩ := Res.bind_ok h
  injection h with e1 e2
  subst e1 e2
  have a1 := in_ok (pchoose_in T _ _) h1
  have a2 := in_ok (pchoose_in T _ _) h2
  have a3 := in_ok (pint_in T _) h3
  have : cμ (compare_ v op i) ≤ 5 := by
    unfold cμ compare_ least cnot
    repeat' split
    all_goals simp [CF.one, CF.cnt]
  omega
theorem pmore_bd {kw : List UInt8} {p : Nat → Res CT} (hp : ∀ a, Bd cμ a (p a)) : ∀ g a, Bd (fun F : CF => F.cnt + 4 * F.len) a (pmore T kw p g a)
  | 0, a => fun x n h => by injection h with e1 e2; subst e1 e2; simp [CF.cnt, CF.len]
  | g + 1, a => fun x n h => by
    unfold pmore at h
    split at h
    · obtain ⟨c, m, h1, h⟩ := Res.bind_ok h
      obtain ⟨F, h2, rfl⟩ := Res.map_ok h
      have b1 := hp _ _ _ h1
      have b2 := pmore_bd hp g m F n h2
      unfold cμ at b1
      simp only [CF.one, CF.cnt, CF.len] at b2 ⊢
      omega
    · injection h with e1 e2; subst e1 e2; simp [CF.cnt, CF.len]
theorem pjoined_bd {kw : List UInt8} {kind : Int} {p : Nat → Res CT} (hp : ∀ a, Bd cμ a (p a)) (a : Nat) : Bd cμ a (pjoined T kw kind p a) := by
  intro x n h
  obtain ⟨c, m, h1, h⟩ := Res.bind_ok h
  obtain ⟨F, h2, rfl⟩ := Res.map_ok h
  have b1 := hp _ _ _ h1
  have b2 := pmore_bd hp _ _ _ _ h2
  unfold cμ at *
  cases F with
  | nil => simp only [join_, CF.cnt, CF.len] at *; omega
  | cons k v nn ps r => simp only [join_, CF.one, CF.cnt, CF.len] at *; omega
theorem punit_bd : ∀ f a, Bd cμ a (punit T f a)
  | 0, a => fun x n h => by cases h
  | f + 1, a => fun x n h => by
    unfold punit at h
    split at h
    · obtain ⟨c, h1, rfl⟩ := Res.map_ok h
      have b1 := punit_bd f _ _ _ h1
      unfold cμ at *
      simp only [cnot, CF.one, CF.cnt]
      omega
    · split at h
      · obtain ⟨c, m, h1, h⟩ := Res.bind_ok h
        obtain ⟨_, h2, rfl⟩ := Res.map_ok h
        have b1 := pjoined_bd (pjoined_bd (punit_bd f)) _ _ _ h1
        have b2 := in0_ok (pwant_in0 T _ _) h2
        omega
      · exact pcomp_bd a x n h
theorem pcond_bd (f a : Nat) : Bd cμ a (pcond T f a) := pjoined_bd (pjoined_bd (punit_bd f)) a
theorem psteps_bd : ∀ f a, Bd SF.sz a (psteps T f a)
  | 0, a => fun x n h => by cases h
  | f + 1, a => fun x n h => by
    unfold psteps at h
    split at h
    · injection h with e1 e2; subst e1 e2; simp only [SF.sz]; omega
    · split at h
      · obtain ⟨c, m1, h1, h⟩ := Res.bind_ok h
        obtain ⟨_, m2, h2, h⟩ := Res.bind_ok h
        obtain ⟨t, m3, h3, h⟩ := Res.bind_ok h
        have b1 := pcond_bd _ _ _ _ h1
        have b2 := in0_ok (pwant_in0 T _ _) h2
        have b3 := psteps_bd f _ _ _ h3
        unfold cμ at b1
        split at h
        · obtain ⟨_, m4, h4, h⟩ := Res.bind_ok h
          obtain ⟨e, m5, h5, h⟩ := Res.bind_ok h
          obtain ⟨r, h6, rfl⟩ := Res.map_ok h
          have b4 := in0_ok (pwant_in0 T _ _) h4
          have b5 := psteps_bd f _ _ _ h5
          have b6 := psteps_bd f _ _ _ h6
          simp only [SF.one, SF.sz]
          omega
        · obtain ⟨r, h6, rfl⟩ := Res.map_ok h
          have b6 := psteps_bd f _ _ _ h6
          simp only [SF.one, SF.sz]
          omega
      · obtain ⟨b, m1, h1, h⟩ := Res.bind_ok h
        obtain ⟨_, m2, h2, h⟩ := Res.bind_ok h
        obtain ⟨r, h6, rfl⟩ := Res.map_ok h
        have b1 := in_ok (pcrit_in T _) h1
        have b2 := in0_ok (pwant_in0 T _ _) h2
        have b6 := psteps_bd f _ _ _ h6
        simp only [SF.one, SF.sz, CT.zero, CF.cnt]
        omega
theorem pname_text {a n : Nat} {s : List UInt8} (h : pname T a = .ok s n) : ∃ t ∈ T, t.text = s := by
  unfold pname at h
  split at h
  · next hk =>
    injection h with e1 e2
    have hl := nx_kind T (a := a) (by rw [hk.1]; decide)
    refine ⟨T[a], List.getElem_mem hl, ?_⟩
    rw [← e1]
    unfold nx
    rw [List.getElem?_eq_getElem hl]
    rfl
  · cases h
theorem pzones_text : ∀ (f a : Nat) (l : List ZT) (n : Nat), pzones T f a = .ok l n → ∀ z ∈ l, ∃ t ∈ T, t.text = z.name
  | 0, _, _, _, h => by cases h
  | f + 1, a, l, n, h => by
    unfold pzones at h
    split at h
    · injection h with e1 e2; subst e1; intro z hz; cases hz
    · obtain ⟨z0, m, h1, h⟩ := Res.bind_ok h
      obtain ⟨l', h2, rfl⟩ := Res.map_ok h
      intro z hz
      rcases List.mem_cons.1 hz with rfl | hz
      · obtain ⟨s, m1, h3, h1⟩ := Res.bind_ok h1
        obtain ⟨i, m2, h4, h1⟩ := Res.bind_ok h1
        obtain ⟨t, ht, e⟩ := pname_text h3
        split at h1
        · obtain ⟨j, m3, h5, h1⟩ := Res.bind_ok h1
          obtain ⟨_, _, rfl⟩ := Res.map_ok h1
          exact ⟨t, ht, e⟩
        · obtain ⟨_, _, rfl⟩ := Res.map_ok h1
          exact ⟨t, ht, e⟩
      · exact pzones_text f m l' n h2 z hz
end
/-- How great parsed rules are. -/
theorem parsed_bd {l : List UInt8} {r : RT} {a : Int} (h : topRules l = (r, a, 0)) : r.order.sz ≤ 4 * (lex l).1.length ∧ (∃ t ∈ (lex l).1, t.text = r.name) ∧ ∀ z ∈ r.zones, ∃ t ∈ (lex l).1, t.text = z.name := by
  obtain ⟨_, _, n, hp, _⟩ := topOf_ok h (lex_code l)
  unfold prules at hp
  obtain ⟨_, m1, _, hp⟩ := Res.bind_ok hp
  obtain ⟨s, m2, hs, hp⟩ := Res.bind_ok hp
  obtain ⟨_, m3, _, hp⟩ := Res.bind_ok hp
  obtain ⟨_, m4, _, hp⟩ := Res.bind_ok hp
  obtain ⟨_, m5, _, hp⟩ := Res.bind_ok hp
  obtain ⟨_, m6, _, hp⟩ := Res.bind_ok hp
  obtain ⟨_, m7, _, hp⟩ := Res.bind_ok hp
  obtain ⟨_, m8, _, hp⟩ := Res.bind_ok hp
  obtain ⟨_, m9, _, hp⟩ := Res.bind_ok hp
  obtain ⟨o, m10, ho, hp⟩ := Res.bind_ok hp
  obtain ⟨_, m11, _, hp⟩ := Res.bind_ok hp
  obtain ⟨z, m12, hz, hp⟩ := Res.bind_ok hp
  obtain ⟨_, _, rfl⟩ := Res.map_ok hp
  refine ⟨?_, pname_text hs, pzones_text _ _ _ _ hz⟩
  have b := psteps_bd _ _ _ _ ho
  have hi := psteps_in (lex l).1 (lex l).1.length m9
  rw [ho] at hi
  have := hi.2
  show o.sz ≤ _
  omega
end Go.Proofs.YticpjdjdimpglaaGreatDoor
/- Plain law: the text of valid rules is short. -/
namespace Go.Proofs.YticpjdjdimpglaaGreatDoor
set_option linter.unusedVariables false
set_option linter.unusedSimpArgs false
theorem flines_len2 : ∀ (l : SF) (ind : List UInt8) (M : Nat), l.okB = true → 3 * ind.length + 6 * l.dep + 60 ≤ M → (flines ind l).length ≤ 50 * l.cntC + l.cntS * M
  | .nil, ind, M, _, _ => by rw [flines]; exact Nat.zero_le _
  | .cons k b ck cv cn cps th el r, ind, M, hok, hM => by
    obtain ⟨h1, h2⟩ := okS_cons hok
    rw [SF.dep] at hM
    have ir := flines_len2 r ind M h2 (by omega)
    rw [SF.cntC, SF.cntS, flines, List.length_append]
    have e : (th.cntS + el.cntS + 1 + r.cntS) * M = th.cntS * M + el.cntS * M + M + r.cntS * M := by
      simp only [Nat.add_mul, Nat.one_mul]
    rw [e]
    rcases h1 with h1 | h1
    · rw [if_pos h1.1]
      have hc := critW_len b
      simp only [List.length_append, List.length_cons, List.length_nil]
      omega
    · rw [if_neg (show ¬ k = 1 by omega), (isZ_cores h1.2.2.1).2]
      have it := flines_len2 th (ind ++ [32, 32]) M h1.2.2.2.2.1 (by simp only [List.length_append, List.length_cons, List.length_nil]; omega)
      have ie := flines_len2 el (ind ++ [32, 32]) M h1.2.2.2.2.2 (by simp only [List.length_append, List.length_cons, List.length_nil]; omega)
      have ht := (text_len 100 ⟨ck, cv, cn, cps⟩).1
      dsimp only at ht
      simp only [Bool.false_eq_true, if_false]
      by_cases hel : 0 < el.num
      · rw [if_pos hel]
        simp only [List.length_append, List.length_cons, List.length_nil] at *
        omega
      · rw [if_neg hel]
        simp only [List.length_append, List.length_cons, List.length_nil] at *
        omega
theorem fzones_len : ∀ l : List ZT, (∀ z ∈ l, z.name.length ≤ 24) → (l.flatMap fzone).length ≤ l.length * 100
  | [], _ => Nat.le_refl _
  | z :: l, h => by
    have ih := fzones_len l fun z hz => h z (by simp [hz])
    have h1 := h z (by simp)
    have h2 := dec_len22 z.fr
    have h3 := dec_len22 z.to
    rw [List.flatMap_cons, List.length_append, List.length_cons]
    have : (fzone z).length ≤ 100 := by
      unfold fzone
      split
      · simp only [List.length_append, List.length_cons, List.length_nil]; omega
      · simp only [List.length_append, List.length_cons, List.length_nil]; omega
    omega
theorem frules_len {r : RT} {s : List UInt8} (h : frules r = (s, 0)) : s.length ≤ 30000 := by
  rw [frules_def] at h
  by_cases ht : trules r = 0
  · rw [if_neg (by simpa using ht)] at h
    obtain ⟨h1, _, _, _, _, h6, h7, h8⟩ := trules_zero ht
    split at h
    · simp only [Prod.mk.injEq] at h
      exact absurd h.2 (by decide)
    · simp only [Prod.mk.injEq, and_true] at h
      rw [← h]
      have hn := ((nameB_iff _).1 h1).2.1
      have hz := fzones_len r.zones fun z hz => ((nameB_iff _).1 (zoneB_parts (List.all_eq_true.1 h8 z hz)).2.2).2.1
      have hk : r.order.okB = true ∧ r.order.cntS ≤ 64 ∧ r.order.cntC ≤ 256 ∧ r.order.dep ≤ 17 := by
        unfold torder at h6
        split at h6
        · omega
        · split at h6
          · omega
          · next h9 h10 => exact ⟨by cases hl : r.order.okB <;> simp_all, by omega, by omega, by omega⟩
      have hf := flines_len2 r.order [32, 32, 32, 32] 180 hk.1 (by simp only [List.length_cons, List.length_nil]; omega)
      have h2 := dec_len22 r.win
      have h3 := dec_len22 r.draw
      have h4 := dec_len22 r.loss
      have hm := Nat.mul_le_mul_right 180 hk.2.1
      unfold rtext
      simp only [List.length_append, List.length_cons, List.length_nil]
      omega
  · rw [if_pos (by simpa using ht)] at h
    simp only [Prod.mk.injEq] at h
    exact absurd h.2 ht
end Go.Proofs.YticpjdjdimpglaaGreatDoor
