/- typing.valid and what it leans on, by their contracts; check, Cond, Order. -/
import Derived.Test.YticpjdjdimpglaaGreatDoorCTisMTWin
namespace Go.Proofs.YticpjdjdimpglaaGreatDoor
set_option linter.unusedVariables false
set_option linter.unusedSimpArgs false
open Go.RowKit
theorem all_c : ∀ F : CF, (F.toL.map Fo.cd).all Fo.ok = F.okB
  | .nil => rfl
  | .cons k v n ps r => by
    rw [CF.toL, List.map_cons, List.all_cons, all_c r]
    exact (okB_cons ⟨k, v, n, ps⟩ r).symm
theorem okS_one (x : ST) (r : SF) : (SF.one x.k x.b x.c x.th x.el r).okB = ((Fo.st x).ok && r.okB) := by
  show (_ && r.okB) = ((_ && true) && r.okB)
  rw [Bool.and_true]
theorem all_s : ∀ F : SF, (F.toL.map Fo.st).all Fo.ok = F.okB
  | .nil => rfl
  | .cons k b ck cv cn cps th el r => by
    rw [SF.toL, List.map_cons, List.all_cons, all_s r]
    exact (okS_one ⟨k, b, ⟨ck, cv, cn, cps⟩, th, el⟩ r).symm
theorem parts_ok (f : Fo) : f.parts.all Fo.ok = match f with | .cd c => c.ps.okB | .st x => x.th.okB && x.el.okB := by
  cases f with
  | cd c => exact all_c c.ps
  | st x =>
    show ((x.th.toL ++ x.el.toL).map Fo.st).all Fo.ok = _
    rw [List.map_append, List.all_append, all_s, all_s]
theorem ok_cd (c : CT) (m : Nat) (hm : m = c.ps.len) : (Fo.cd c).ok = if c.k = 1 then decide (1 ≤ c.v) && (decide (c.v ≤ 4) && (decide (0 ≤ c.n) && (decide (c.n ≤ 64) && ((m : Int) == 0))))
    else if c.k = 4 then (c.v == 0) && ((c.n == 0) && (((m : Int) == 1) && (Fo.cd c).parts.all Fo.ok))
    else if c.k = 2 ∨ c.k = 3 then (c.v == 0) && ((c.n == 0) && (decide (0 < m) && (decide (m ≤ 16) && (Fo.cd c).parts.all Fo.ok))) else false := by
  rw [parts_ok]
  obtain ⟨k, v, n, ps⟩ := c
  show okC ⟨k, v, n, ps⟩ = _
  rw [okC_def, num_len]
  dsimp only at hm ⊢
  rw [← hm, Bool.eq_iff_iff]
  split
  · simp [and_assoc]
  · split
    · simp [and_assoc]; omega
    · split
      · simp [and_assoc]; omega
      · simp
theorem ok_st (x : ST) : (Fo.st x).ok = if x.k = 1 then decide (1 ≤ x.b) && (decide (x.b ≤ 12) && (x.c.isZ && decide ((Fo.st x).parts.length = 0)))
    else if x.k = 2 then (x.b == 0) && ((Fo.cd x.c).ok && (decide (0 < x.th.len) && (Fo.st x).parts.all Fo.ok)) else false := by
  rw [parts_ok]
  obtain ⟨k, b, c, th, el⟩ := x
  show (SF.cons k b c.k c.v c.n c.ps th el .nil).okB = _
  rw [SF.okB, SF.okB, Bool.and_true, Bool.eq_iff_iff, snum_len, snum_len]
  have hl : ((Fo.st ⟨k, b, c, th, el⟩).parts.length = 0) ↔ (th.len = 0 ∧ el.len = 0) := by
    simp only [Fo.parts, List.length_map, List.length_append, stoL_len]
    omega
  dsimp only
  split
  · simp only [Bool.and_eq_true, decide_eq_true_eq, beq_iff_eq, hl, and_assoc]
  · split
    · simp only [Bool.and_eq_true, decide_eq_true_eq, beq_iff_eq, and_assoc]
      rfl
    · simp
/-- The contract of valid for forms of a size. -/
def VAL (N : Nat) : Prop := ∀ (S : Nat → Prop) (f : Fo) (v : Value) (w : World), f.Z < N → f.Z ≤ 1000000 → FoV S w f v → Calls Tryz.prog 164 #[v] w fun e w' => e = .returned (.bool f.ok) ∧ Below w.heap.size w w'
set_option maxHeartbeats 4000000 in
set_option maxRecDepth 100000 in
theorem invalid_of (N : Nat) (hV : VAL N) (S : Nat → Prop) (f : Fo) (v : Value) (w : World) (hN : f.Z < N ∧ f.Z ≤ 1000000) (h : FoV S w f v) : Calls Tryz.prog 121 #[v] w fun e w' => e = .returned (.bool (!f.ok)) ∧ Below w.heap.size w w' := by
  have HC := Lib.hid (hV S f v w hN.1 hN.2 h)
  clear hV hN h
  go_enter Tryz.func121, Tryz.ntmps121
  go_wp2_with (fail)
  refine HC.out.mono ?_
  rintro e w1 ⟨rfl, hb⟩
  have HB := Lib.hid hb
  clear hb
  go_wp2
  go_ret
  exact ⟨rfl, HB.out⟩
set_option maxHeartbeats 4000000 in
set_option maxRecDepth 100000 in
theorem idx_forms (N : Nat) (hV : VAL N) (S : Nat → Prop) (fs : List Fo) (A : Option Addr) (m c : Nat) (w : World) (hN : ∀ f ∈ fs, f.Z < N ∧ f.Z ≤ 1000000) (h : FoH S w fs A m c) (hm : m ≤ 1000000) :
    Calls Tryz.prog 163 #[.slice A m c, .func (.func 121) #[] #[]] w fun e w' => (∃ n : Int, e = .returned (.int .i64 n) ∧ decide (n ≥ 0) = !(fs.all Fo.ok)) ∧ Below w.heap.size w w' := by
  have HV := Lib.hid hV
  have HN := Lib.hid hN
  have HR := Lib.hid h
  have HL := Lib.hid h.len
  clear hV hN h
  go_enter Tryz.func163, Tryz.ntmps163
  go_wp2_with (fail)
  go_loopw [8] (fun s wr => ∃ i : Nat, i ≤ m ∧ s = .int .i64 i ∧ Hid (Below w.heap.size w wr) ∧ Hid ((fs.take i).all Fo.ok = true)) (fun s _ => m - (intOf s).toNat)
  case atStart => exact ⟨0, Nat.zero_le _, rfl, Below.refl _ _, by simp [Hid]⟩
  case round =>
    obtain ⟨i, him, rfl, HB, HA⟩ := hrel
    by_cases hlt : i < m
    · obtain ⟨q, off, f, v, rfl, hq, hf, hc, hv⟩ := HR.out.elem hlt
      rw [← HB.out.cell hq] at hc
      have HF := Lib.hid hf
      have HFV := Lib.hid (hv.below HB.out)
      have HNf := Lib.hid (HN.out f (by obtain ⟨h1, h2⟩ := List.getElem?_eq_some_iff.1 hf; rw [← h2]; exact List.getElem_mem h1))
      clear hf hv
      go_wp2_with (fail)
      refine (invalid_of N HV.out S f v wr HNf.out HFV.out).mono ?_
      rintro e w1 ⟨rfl, hb⟩
      have HB1 := Lib.hid (HB.out.trans (hb.mono HB.out.size))
      clear hb
      cases ho : f.ok with
      | true =>
        have HA1 := Lib.hid (show (fs.take (i + 1)).all Fo.ok = true by
          obtain ⟨h1, h2⟩ := List.getElem?_eq_some_iff.1 HF.out
          rw [List.take_succ_eq_append_getElem h1, h2, List.all_append, HA.out, List.all_cons, ho]
          rfl)
        clear ho
        go_wp2_with (fail)
        go_roundw
        case rel => exact ⟨i + 1, hlt, by go_num, HB1.out, HA1.out⟩
        case measure => simp [intOf]; omega
      | false =>
        have HA1 := Lib.hid (show fs.all Fo.ok = false by
          obtain ⟨h1, h2⟩ := List.getElem?_eq_some_iff.1 HF.out
          rw [List.all_eq_false]
          exact ⟨f, by rw [← h2]; exact List.getElem_mem h1, by rw [ho]; decide⟩)
        clear ho
        go_wp2_with (fail)
        go_ret
        exact ⟨⟨i, rfl, by rw [HA1.out]; simp⟩, HB1.out⟩
    · have HA1 := Lib.hid (show fs.all Fo.ok = true by
        have h1 := HA.out
        rw [List.take_of_length_le (by rw [← HL.out]; omega)] at h1
        exact h1)
      go_wp2_with (fail)
      go_ret
      exact ⟨⟨-1, rfl, by rw [HA1.out]; rfl⟩, HB.out⟩
set_option maxHeartbeats 4000000 in
set_option maxRecDepth 100000 in
theorem contains_forms (N : Nat) (hV : VAL N) (S : Nat → Prop) (fs : List Fo) (A : Option Addr) (m c : Nat) (w : World) (hN : ∀ f ∈ fs, f.Z < N ∧ f.Z ≤ 1000000) (h : FoH S w fs A m c) (hm : m ≤ 1000000) :
    Calls Tryz.prog 120 #[.slice A m c, .func (.func 121) #[] #[]] w fun e w' => e = .returned (.bool (!(fs.all Fo.ok))) ∧ Below w.heap.size w w' := by
  have HC := Lib.hid (idx_forms N hV S fs A m c w hN h hm)
  clear hV hN h
  go_enter Tryz.func120, Tryz.ntmps120
  go_wp2_with (fail)
  refine HC.out.mono ?_
  rintro e w1 ⟨⟨n, rfl, hn⟩, hb⟩
  have HB := Lib.hid hb
  have HN := Lib.hid hn
  clear hb hn
  go_wp2
  go_ret
  exact ⟨congrArg (fun b => Ending.returned (Value.bool b)) HN.out, HB.out⟩
set_option maxHeartbeats 8000000 in
set_option maxRecDepth 100000 in
theorem val_cd (N : Nat) (hV : VAL N) (S : Nat → Prop) (c : CT) (A : Option Addr) (m d : Nat) (w : World) (hN : (Fo.cd c).Z < N + 1) (hz : (Fo.cd c).Z ≤ 1000000) (hr : RepH S w c.ps A m d) (hS : ∀ k, S k → k < w.heap.size) :
    Calls Tryz.prog 164 #[.iface 104 (cV c A m d)] w fun e w' => e = .returned (.bool (Fo.cd c).ok) ∧ Below w.heap.size w w' := by
    have HE := Lib.hid (ok_cd c m hr.len)
    generalize (Fo.cd c).ok = r at HE ⊢
    have HR := Lib.hid hr
    have HV := Lib.hid hV
    have HS := Lib.hid hS
    have HN := Lib.hid (show ∀ f ∈ (Fo.cd c).parts, f.Z < N ∧ f.Z ≤ 1000000 from fun f hf => by
      obtain ⟨i, hi, e⟩ := List.mem_iff_getElem.1 hf
      have h1 := fo_mem (List.getElem?_eq_some_iff.2 ⟨hi, e⟩)
      have h2 := ((fo_parts (.cd c)).2.1 c rfl).2.2.2
      omega)
    have hm6 : m ≤ 1000000 := by
      have h1 := hr.len
      have h2 := len_cnt c.ps
      simp only [Fo.Z] at hz
      omega
    have tcc := as_cc
    unfold cV
    obtain ⟨k, v, n, ps⟩ := c
    dsimp only [vi] at HE HR HN hz ⊢
    clear hr hV hN hS
    -- GEN-BEGIN
    by_cases hk1 : k = 1
    · subst hk1
      replace HE := Lib.hid (HE.out.trans (if_pos rfl))
      by_cases h1 : 1 ≤ v
      · have _t := trivial
        by_cases h2 : v ≤ 4
        · have _t := trivial
          by_cases h3 : 0 ≤ n
          · have _t := trivial
            by_cases h4 : n ≤ 64
            · have _t := trivial
              by_cases h5 : m = 0
              · have _t := trivial
                subst h5
                have HL := Lib.hid (HE.out.trans (show _ = true by rw [decide_eq_true h1, decide_eq_true h2, decide_eq_true h3, decide_eq_true h4]; rfl))
                clear HE
                go_enter Tryz.func164, Tryz.ntmps164
                go_wp2_with (fail)
                all_goals (go_ret; exact ⟨congrArg (fun b => Ending.returned (Value.bool b)) HL.out.symm, (Below.refl _ _).alloc (Nat.le_refl _) _⟩)
              · have _t := trivial
                have h5b : (((m : Int) == 0)) = false := beq_eq_false_iff_ne.2 (by omega)
                have HL := Lib.hid (HE.out.trans (show _ = false by rw [decide_eq_true h1, decide_eq_true h2, decide_eq_true h3, decide_eq_true h4, h5b]; rfl))
                clear HE
                go_enter Tryz.func164, Tryz.ntmps164
                go_wp2_with (fail)
                all_goals (go_ret; exact ⟨congrArg (fun b => Ending.returned (Value.bool b)) HL.out.symm, (Below.refl _ _).alloc (Nat.le_refl _) _⟩)
            · have _t := trivial
              have HL := Lib.hid (HE.out.trans (show _ = false by rw [decide_eq_true h1, decide_eq_true h2, decide_eq_true h3, decide_eq_false h4]; rfl))
              clear HE
              go_enter Tryz.func164, Tryz.ntmps164
              go_wp2_with (fail)
              all_goals (go_ret; exact ⟨congrArg (fun b => Ending.returned (Value.bool b)) HL.out.symm, (Below.refl _ _).alloc (Nat.le_refl _) _⟩)
          · have _t := trivial
            have HL := Lib.hid (HE.out.trans (show _ = false by rw [decide_eq_true h1, decide_eq_true h2, decide_eq_false h3]; rfl))
            clear HE
            go_enter Tryz.func164, Tryz.ntmps164
            go_wp2_with (fail)
            all_goals (go_ret; exact ⟨congrArg (fun b => Ending.returned (Value.bool b)) HL.out.symm, (Below.refl _ _).alloc (Nat.le_refl _) _⟩)
        · have _t := trivial
          have HL := Lib.hid (HE.out.trans (show _ = false by rw [decide_eq_true h1, decide_eq_false h2]; rfl))
          clear HE
          go_enter Tryz.func164, Tryz.ntmps164
          go_wp2_with (fail)
          all_goals (go_ret; exact ⟨congrArg (fun b => Ending.returned (Value.bool b)) HL.out.symm, (Below.refl _ _).alloc (Nat.le_refl _) _⟩)
      · have _t := trivial
        have HL := Lib.hid (HE.out.trans (show _ = false by rw [decide_eq_false h1]; rfl))
        clear HE
        go_enter Tryz.func164, Tryz.ntmps164
        go_wp2_with (fail)
        all_goals (go_ret; exact ⟨congrArg (fun b => Ending.returned (Value.bool b)) HL.out.symm, (Below.refl _ _).alloc (Nat.le_refl _) _⟩)
    · have k1 : (k == 1) = false := by simpa using hk1
      by_cases hk4 : k = 4
      · subst hk4
        clear hk1 k1
        replace HE := Lib.hid (HE.out.trans ((if_neg (by decide)).trans (if_pos rfl)))
        by_cases g1 : v = 0
        · have _t := trivial
          subst g1
          by_cases g2 : n = 0
          · have _t := trivial
            subst g2
            by_cases g3 : m = 1
            · have _t := trivial
              subst g3
              have HE2 := Lib.hid (HE.out.trans (show _ = (Fo.cd ⟨4, 0, 0, ps⟩).parts.all Fo.ok by rfl))
              clear HE
              go_enter Tryz.func164, Tryz.ntmps164
              go_wp2_with (fail)
              first | (refine calls_named ?_; intro W hW) | (refine body_named ?_; intro W hW) | (refine wpList_named ?_; intro W hW) | (refine wp_named ?_; intro W hW)
              have hb1 : Below w.heap.size w W := by rw [← hW]; exact (Below.refl _ _).alloc (Nat.le_refl _) _
              clear hW
              have hSW := Lib.hid (show ∀ k, S k → k < W.heap.size from fun k hk => Nat.lt_of_lt_of_le (HS.out k hk) hb1.size)
              have HB1 := Lib.hid hb1
              refine (cparts_any (x := ⟨4, 0, 0, ps⟩) HR.out hb1 hm6).mono ?_
              rintro e w1 ⟨A1, m1, d1, xs1, rfl, ho1, hf1, hb2⟩
              have HH := Lib.hid (FoNew.foH (S := S) ho1 (hf1.below hb1) hb2 hSW.out)
              have HB2 := Lib.hid (hb1.trans (hb2.mono hb1.size))
              have hm1 : m1 ≤ 1000000 := by
                have := HH.out.len
                have := fo_len (Fo.cd ⟨4, 0, 0, ps⟩).parts
                have := ((fo_parts (.cd ⟨4, 0, 0, ps⟩)).2.1 _ rfl).2.2.2
                omega
              clear hb1 ho1 hf1 hb2 HB1
              go_wp2_with (fail)
              refine (contains_forms N HV.out S _ A1 m1 d1 w1 HN.out HH.out hm1).mono ?_
              rintro e w2 ⟨rfl, hb3⟩
              have HB3 := Lib.hid (HB2.out.trans (hb3.mono HB2.out.size))
              clear hb3
              go_wp2_with (fail)
              go_ret
              exact ⟨congrArg (fun b => Ending.returned (Value.bool b)) HE2.out.symm, HB3.out⟩
            · have _t := trivial
              have g3b : (((m : Int) == 1)) = false := beq_eq_false_iff_ne.2 (by omega)
              have HL := Lib.hid (HE.out.trans (show _ = false by rw [g3b]; rfl))
              clear HE
              go_enter Tryz.func164, Tryz.ntmps164
              go_wp2_with (fail)
              all_goals (go_ret; exact ⟨congrArg (fun b => Ending.returned (Value.bool b)) HL.out.symm, (Below.refl _ _).alloc (Nat.le_refl _) _⟩)
          · have _t := trivial
            have g2b : ((n == 0)) = false := beq_eq_false_iff_ne.2 (by omega)
            have HL := Lib.hid (HE.out.trans (show _ = false by rw [g2b]; rfl))
            clear HE
            go_enter Tryz.func164, Tryz.ntmps164
            go_wp2_with (fail)
            all_goals (go_ret; exact ⟨congrArg (fun b => Ending.returned (Value.bool b)) HL.out.symm, (Below.refl _ _).alloc (Nat.le_refl _) _⟩)
        · have _t := trivial
          have g1b : ((v == 0)) = false := beq_eq_false_iff_ne.2 (by omega)
          have HL := Lib.hid (HE.out.trans (show _ = false by rw [g1b]; rfl))
          clear HE
          go_enter Tryz.func164, Tryz.ntmps164
          go_wp2_with (fail)
          all_goals (go_ret; exact ⟨congrArg (fun b => Ending.returned (Value.bool b)) HL.out.symm, (Below.refl _ _).alloc (Nat.le_refl _) _⟩)
      · have k4 : (k == 4) = false := by simpa using hk4
        by_cases hk2 : k = 2
        · subst hk2
          clear hk1 k1 hk4 k4
          replace HE := Lib.hid (HE.out.trans ((if_neg (by decide)).trans ((if_neg (by decide)).trans (if_pos (by decide)))))
          by_cases g1 : v = 0
          · have _t := trivial
            subst g1
            by_cases g2 : n = 0
            · have _t := trivial
              subst g2
              by_cases g4 : 0 < m
              · have _t := trivial
                by_cases g5 : m ≤ 16
                · have _t := trivial
                  have HE2 := Lib.hid (HE.out.trans (show _ = (Fo.cd ⟨2, 0, 0, ps⟩).parts.all Fo.ok by rw [decide_eq_true g4, decide_eq_true g5]; rfl))
                  clear HE
                  go_enter Tryz.func164, Tryz.ntmps164
                  go_wp2_with (fail)
                  first | (refine calls_named ?_; intro W hW) | (refine body_named ?_; intro W hW) | (refine wpList_named ?_; intro W hW) | (refine wp_named ?_; intro W hW)
                  have hb1 : Below w.heap.size w W := by rw [← hW]; exact (Below.refl _ _).alloc (Nat.le_refl _) _
                  clear hW
                  have hSW := Lib.hid (show ∀ k, S k → k < W.heap.size from fun k hk => Nat.lt_of_lt_of_le (HS.out k hk) hb1.size)
                  have HB1 := Lib.hid hb1
                  refine (cparts_any (x := ⟨2, 0, 0, ps⟩) HR.out hb1 hm6).mono ?_
                  rintro e w1 ⟨A1, m1, d1, xs1, rfl, ho1, hf1, hb2⟩
                  have HH := Lib.hid (FoNew.foH (S := S) ho1 (hf1.below hb1) hb2 hSW.out)
                  have HB2 := Lib.hid (hb1.trans (hb2.mono hb1.size))
                  have hm1 : m1 ≤ 1000000 := by
                    have := HH.out.len
                    have := fo_len (Fo.cd ⟨2, 0, 0, ps⟩).parts
                    have := ((fo_parts (.cd ⟨2, 0, 0, ps⟩)).2.1 _ rfl).2.2.2
                    omega
                  clear hb1 ho1 hf1 hb2 HB1
                  go_wp2_with (fail)
                  refine (contains_forms N HV.out S _ A1 m1 d1 w1 HN.out HH.out hm1).mono ?_
                  rintro e w2 ⟨rfl, hb3⟩
                  have HB3 := Lib.hid (HB2.out.trans (hb3.mono HB2.out.size))
                  clear hb3
                  go_wp2_with (fail)
                  go_ret
                  exact ⟨congrArg (fun b => Ending.returned (Value.bool b)) HE2.out.symm, HB3.out⟩
                · have _t := trivial
                  have HL := Lib.hid (HE.out.trans (show _ = false by rw [decide_eq_true g4, decide_eq_false g5]; rfl))
                  clear HE
                  go_enter Tryz.func164, Tryz.ntmps164
                  go_wp2_with (fail)
                  all_goals (go_ret; exact ⟨congrArg (fun b => Ending.returned (Value.bool b)) HL.out.symm, (Below.refl _ _).alloc (Nat.le_refl _) _⟩)
              · have _t := trivial
                have HL := Lib.hid (HE.out.trans (show _ = false by rw [decide_eq_false g4]; rfl))
                clear HE
                go_enter Tryz.func164, Tryz.ntmps164
                go_wp2_with (fail)
                all_goals (go_ret; exact ⟨congrArg (fun b => Ending.returned (Value.bool b)) HL.out.symm, (Below.refl _ _).alloc (Nat.le_refl _) _⟩)
            · have _t := trivial
              have g2b : ((n == 0)) = false := beq_eq_false_iff_ne.2 (by omega)
              have HL := Lib.hid (HE.out.trans (show _ = false by rw [g2b]; rfl))
              clear HE
              go_enter Tryz.func164, Tryz.ntmps164
              go_wp2_with (fail)
              all_goals (go_ret; exact ⟨congrArg (fun b => Ending.returned (Value.bool b)) HL.out.symm, (Below.refl _ _).alloc (Nat.le_refl _) _⟩)
          · have _t := trivial
            have g1b : ((v == 0)) = false := beq_eq_false_iff_ne.2 (by omega)
            have HL := Lib.hid (HE.out.trans (show _ = false by rw [g1b]; rfl))
            clear HE
            go_enter Tryz.func164, Tryz.ntmps164
            go_wp2_with (fail)
            all_goals (go_ret; exact ⟨congrArg (fun b => Ending.returned (Value.bool b)) HL.out.symm, (Below.refl _ _).alloc (Nat.le_refl _) _⟩)
        · have k2 : (k == 2) = false := by simpa using hk2
          by_cases hk3 : k = 3
          · subst hk3
            clear hk1 k1 hk4 k4 hk2 k2
            replace HE := Lib.hid (HE.out.trans ((if_neg (by decide)).trans ((if_neg (by decide)).trans (if_pos (by decide)))))
            by_cases g1 : v = 0
            · have _t := trivial
              subst g1
              by_cases g2 : n = 0
              · have _t := trivial
                subst g2
                by_cases g4 : 0 < m
                · have _t := trivial
                  by_cases g5 : m ≤ 16
                  · have _t := trivial
                    have HE2 := Lib.hid (HE.out.trans (show _ = (Fo.cd ⟨3, 0, 0, ps⟩).parts.all Fo.ok by rw [decide_eq_true g4, decide_eq_true g5]; rfl))
                    clear HE
                    go_enter Tryz.func164, Tryz.ntmps164
                    go_wp2_with (fail)
                    first | (refine calls_named ?_; intro W hW) | (refine body_named ?_; intro W hW) | (refine wpList_named ?_; intro W hW) | (refine wp_named ?_; intro W hW)
                    have hb1 : Below w.heap.size w W := by rw [← hW]; exact (Below.refl _ _).alloc (Nat.le_refl _) _
                    clear hW
                    have hSW := Lib.hid (show ∀ k, S k → k < W.heap.size from fun k hk => Nat.lt_of_lt_of_le (HS.out k hk) hb1.size)
                    have HB1 := Lib.hid hb1
                    refine (cparts_any (x := ⟨3, 0, 0, ps⟩) HR.out hb1 hm6).mono ?_
                    rintro e w1 ⟨A1, m1, d1, xs1, rfl, ho1, hf1, hb2⟩
                    have HH := Lib.hid (FoNew.foH (S := S) ho1 (hf1.below hb1) hb2 hSW.out)
                    have HB2 := Lib.hid (hb1.trans (hb2.mono hb1.size))
                    have hm1 : m1 ≤ 1000000 := by
                      have := HH.out.len
                      have := fo_len (Fo.cd ⟨3, 0, 0, ps⟩).parts
                      have := ((fo_parts (.cd ⟨3, 0, 0, ps⟩)).2.1 _ rfl).2.2.2
                      omega
                    clear hb1 ho1 hf1 hb2 HB1
                    go_wp2_with (fail)
                    refine (contains_forms N HV.out S _ A1 m1 d1 w1 HN.out HH.out hm1).mono ?_
                    rintro e w2 ⟨rfl, hb3⟩
                    have HB3 := Lib.hid (HB2.out.trans (hb3.mono HB2.out.size))
                    clear hb3
                    go_wp2_with (fail)
                    go_ret
                    exact ⟨congrArg (fun b => Ending.returned (Value.bool b)) HE2.out.symm, HB3.out⟩
                  · have _t := trivial
                    have HL := Lib.hid (HE.out.trans (show _ = false by rw [decide_eq_true g4, decide_eq_false g5]; rfl))
                    clear HE
                    go_enter Tryz.func164, Tryz.ntmps164
                    go_wp2_with (fail)
                    all_goals (go_ret; exact ⟨congrArg (fun b => Ending.returned (Value.bool b)) HL.out.symm, (Below.refl _ _).alloc (Nat.le_refl _) _⟩)
                · have _t := trivial
                  have HL := Lib.hid (HE.out.trans (show _ = false by rw [decide_eq_false g4]; rfl))
                  clear HE
                  go_enter Tryz.func164, Tryz.ntmps164
                  go_wp2_with (fail)
                  all_goals (go_ret; exact ⟨congrArg (fun b => Ending.returned (Value.bool b)) HL.out.symm, (Below.refl _ _).alloc (Nat.le_refl _) _⟩)
              · have _t := trivial
                have g2b : ((n == 0)) = false := beq_eq_false_iff_ne.2 (by omega)
                have HL := Lib.hid (HE.out.trans (show _ = false by rw [g2b]; rfl))
                clear HE
                go_enter Tryz.func164, Tryz.ntmps164
                go_wp2_with (fail)
                all_goals (go_ret; exact ⟨congrArg (fun b => Ending.returned (Value.bool b)) HL.out.symm, (Below.refl _ _).alloc (Nat.le_refl _) _⟩)
            · have _t := trivial
              have g1b : ((v == 0)) = false := beq_eq_false_iff_ne.2 (by omega)
              have HL := Lib.hid (HE.out.trans (show _ = false by rw [g1b]; rfl))
              clear HE
              go_enter Tryz.func164, Tryz.ntmps164
              go_wp2_with (fail)
              all_goals (go_ret; exact ⟨congrArg (fun b => Ending.returned (Value.bool b)) HL.out.symm, (Below.refl _ _).alloc (Nat.le_refl _) _⟩)
          · have k3 : (k == 3) = false := by simpa using hk3
            have hk23 : ¬ (k = 2 ∨ k = 3) := fun e => e.elim hk2 hk3
            replace HE := Lib.hid (HE.out.trans ((if_neg hk1).trans ((if_neg hk4).trans (if_neg hk23))))
            clear hk23
            by_cases g1 : v = 0
            · subst g1
              have HL := Lib.hid (HE.out.trans (show _ = false by rfl))
              clear HE
              go_enter Tryz.func164, Tryz.ntmps164
              go_wp2_with (fail)
              all_goals (go_ret; exact ⟨congrArg (fun b => Ending.returned (Value.bool b)) HL.out.symm, (Below.refl _ _).alloc (Nat.le_refl _) _⟩)
            · have g1b : (v == 0) = false := by simpa using g1
              have HL := Lib.hid (HE.out.trans (show _ = false by rfl))
              clear HE
              go_enter Tryz.func164, Tryz.ntmps164
              go_wp2_with (fail)
              all_goals (go_ret; exact ⟨congrArg (fun b => Ending.returned (Value.bool b)) HL.out.symm, (Below.refl _ _).alloc (Nat.le_refl _) _⟩)
    -- GEN-END
set_option maxHeartbeats 8000000 in
set_option maxRecDepth 100000 in
theorem val_st (N : Nat) (hV : VAL N) (S : Nat → Prop) (x : ST) (A : Option Addr) (m d : Nat) (A1 : Option Addr) (m1 d1 : Nat) (A2 : Option Addr) (m2 d2 : Nat) (w : World) (hN : (Fo.st x).Z < N + 1) (hz : (Fo.st x).Z ≤ 1000000) (hr : RepH S w x.c.ps A m d) (hr1 : RepT S w x.th A1 m1 d1) (hr2 : RepT S w x.el A2 m2 d2) (hS : ∀ k, S k → k < w.heap.size) :
    Calls Tryz.prog 164 #[.iface 159 (stV x A m d A1 m1 d1 A2 m2 d2)] w fun e w' => e = .returned (.bool (Fo.st x).ok) ∧ Below w.heap.size w w' := by
    have HE := Lib.hid (ok_st x)
    generalize (Fo.st x).ok = r at HE ⊢
    have HR := Lib.hid hr
    have HT1 := Lib.hid hr1
    have HT2 := Lib.hid hr2
    have HM := Lib.hid hr.len
    have HM1 := Lib.hid hr1.len
    have hm1 : m1 ≤ 1000000 := by
      have h1 := hr1.len
      have h2 := slen_sz x.th
      simp only [Fo.Z] at hz
      omega
    have hm2 : m2 ≤ 1000000 := by
      have h1 := hr2.len
      have h2 := slen_sz x.el
      simp only [Fo.Z] at hz
      omega
    have HV := Lib.hid hV
    have HS := Lib.hid hS
    have HN := Lib.hid (show ∀ f ∈ (Fo.st x).parts, f.Z < N ∧ f.Z ≤ 1000000 from fun f hf => by
      obtain ⟨i, hi, e⟩ := List.mem_iff_getElem.1 hf
      have h1 := fo_mem (List.getElem?_eq_some_iff.2 ⟨hi, e⟩)
      have h2 := ((fo_parts (.st x)).2.2 x rfl).2.2.2
      omega)
    have tss := as_ss
    have tsc := as_sc
    unfold stV
    obtain ⟨k, b, c, th, el⟩ := x
    dsimp only [vi] at HE HR HT1 HT2 HM HM1 HN hN hz ⊢
    clear hr hr1 hr2 hV hS
    -- GEN2-BEGIN
    by_cases hk1 : k = 1
    · subst hk1
      replace HE := Lib.hid (HE.out.trans (if_pos rfl))
      by_cases h1 : 1 ≤ b
      · have _t := trivial
        by_cases h2 : b ≤ 12
        · have _t := trivial
          have HE1 := Lib.hid (HE.out.trans (show _ = (c.isZ && decide ((Fo.st ⟨1, b, c, th, el⟩).parts.length = 0)) by rw [decide_eq_true h1, decide_eq_true h2]; rfl))
          clear HE
          go_enter Tryz.func164, Tryz.ntmps164
          go_wp2_with (fail)
          first | (refine calls_named ?_; intro W hW) | (refine body_named ?_; intro W hW) | (refine wpList_named ?_; intro W hW) | (refine wp_named ?_; intro W hW)
          have hb1 : Below w.heap.size w W := by rw [← hW]; exact ((Below.refl _ _).alloc (Nat.le_refl _) _).alloc (by simp) _
          have hx1 : Blk W w.heap.size 159 #[.int .i64 1, .int .i64 b, .int .i64 c.k, .int .i64 c.v, .int .i64 c.n, .slice A m d, .slice A1 m1 d1, .slice A2 m2 d2] := by rw [← hW]; exact (Blk.new w _ _).alloc _
          clear hW
          have HB1 := Lib.hid hb1
          have HX1 := Lib.hid hx1
          clear hb1 hx1
          refine (iszero_any c A m d W HM.out).mono ?_
          rintro e w1 ⟨rfl, hb2⟩
          have HB2 := Lib.hid (HB1.out.trans (hb2.mono HB1.out.size))
          have HX2 := Lib.hid (HX1.out.below hb2 HX1.out.lt)
          clear hb2
          cases hz : c.isZ with
          | false =>
            have HL := Lib.hid (HE1.out.trans (show _ = false by rw [hz]; rfl))
            clear hz HE1
            go_wp2_with (fail)
            go_ret
            exact ⟨congrArg (fun b => Ending.returned (Value.bool b)) HL.out.symm, HB2.out⟩
          | true =>
            have HL := Lib.hid (HE1.out.trans (show _ = decide ((Fo.st ⟨1, b, c, th, el⟩).parts.length = 0) by rw [hz]; rfl))
            clear hz HE1
            have c0 := HX2.out.cell 0
            have c1 := HX2.out.cell 1
            have c2 := HX2.out.cell 2
            have c3 := HX2.out.cell 3
            have c4 := HX2.out.cell 4
            have c5 := HX2.out.cell 5
            have c6 := HX2.out.cell 6
            have c7 := HX2.out.cell 7
            go_wp2_with (fail)
            refine (sparts_any (x := ⟨1, b, c, th, el⟩) (A := A) (m := m) (d := d) HT1.out HT2.out HB2.out hm1 hm2).mono ?_
            rintro e w3 ⟨A3, m3, d3, xs3, rfl, ho3, hf3, hb3⟩
            have HB3 := Lib.hid (HB2.out.trans (hb3.mono HB2.out.size))
            have HL3 := Lib.hid (show m3 = (Fo.st ⟨1, b, c, th, el⟩).parts.length by have q1 := ho3.1; have q2 := hf3.len; omega)
            clear ho3 hf3 hb3 c0 c1 c2 c3 c4 c5 c6 c7 HX2 HX1
            by_cases hm3 : m3 = 0
            · have HF := Lib.hid (HL.out.trans (show _ = true from decide_eq_true (by rw [← HL3.out]; exact hm3)))
              clear HL HL3
              subst hm3
              go_wp2_with (fail)
              go_ret
              exact ⟨congrArg (fun b => Ending.returned (Value.bool b)) HF.out.symm, HB3.out⟩
            · have HF := Lib.hid (HL.out.trans (show _ = false from decide_eq_false (by rw [← HL3.out]; exact hm3)))
              have hm3b : ((m3 : Int) == 0) = false := beq_eq_false_iff_ne.2 (by omega)
              clear HL HL3
              go_wp2_with (fail)
              go_ret
              exact ⟨congrArg (fun b => Ending.returned (Value.bool b)) HF.out.symm, HB3.out⟩
        · have _t := trivial
          have HL := Lib.hid (HE.out.trans (show _ = false by rw [decide_eq_true h1, decide_eq_false h2]; rfl))
          clear HE
          go_enter Tryz.func164, Tryz.ntmps164
          go_wp2_with (fail)
          all_goals (go_ret; exact ⟨congrArg (fun b => Ending.returned (Value.bool b)) HL.out.symm, ((Below.refl _ _).alloc (Nat.le_refl _) _).alloc (by simp) _⟩)
      · have _t := trivial
        have HL := Lib.hid (HE.out.trans (show _ = false by rw [decide_eq_false h1]; rfl))
        clear HE
        go_enter Tryz.func164, Tryz.ntmps164
        go_wp2_with (fail)
        all_goals (go_ret; exact ⟨congrArg (fun b => Ending.returned (Value.bool b)) HL.out.symm, ((Below.refl _ _).alloc (Nat.le_refl _) _).alloc (by simp) _⟩)
    · have k1 : (k == 1) = false := by simpa using hk1
      by_cases hk2 : k = 2
      · subst hk2
        clear hk1 k1
        replace HE := Lib.hid (HE.out.trans ((if_neg (by decide)).trans (if_pos rfl)))
        by_cases b0 : b = 0
        · have _t := trivial
          subst b0
          have HE1 := Lib.hid (HE.out.trans (show _ = ((Fo.cd c).ok && (decide (0 < th.len) && (Fo.st ⟨2, 0, c, th, el⟩).parts.all Fo.ok)) from rfl))
          clear HE
          go_enter Tryz.func164, Tryz.ntmps164
          go_wp2_with (fail)
          first | (refine calls_named ?_; intro W hW) | (refine body_named ?_; intro W hW) | (refine wpList_named ?_; intro W hW) | (refine wp_named ?_; intro W hW)
          have hb1 : Below w.heap.size w W := by rw [← hW]; exact ((Below.refl _ _).alloc (Nat.le_refl _) _).alloc (by simp) _
          have hx1 : Blk W w.heap.size 159 #[.int .i64 2, .int .i64 0, .int .i64 c.k, .int .i64 c.v, .int .i64 c.n, .slice A m d, .slice A1 m1 d1, .slice A2 m2 d2] := by rw [← hW]; exact (Blk.new w _ _).alloc _
          clear hW
          have HB1 := Lib.hid hb1
          have HX1 := Lib.hid hx1
          clear hb1 hx1
          refine (HV.out S (.cd c) _ W (by simp only [Fo.Z] at hN ⊢; omega) (by simp only [Fo.Z] at hz ⊢; omega) (show FoV S W (.cd c) (.iface 104 (cV c A m d)) from ⟨A, m, d, rfl, HR.out.below HB1.out⟩)).mono ?_
          rintro e w1 ⟨rfl, hb2⟩
          have HB2 := Lib.hid (HB1.out.trans (hb2.mono HB1.out.size))
          have HX2 := Lib.hid (HX1.out.below hb2 HX1.out.lt)
          clear hb2
          have c0 := HX2.out.cell 0
          have c1 := HX2.out.cell 1
          have c2 := HX2.out.cell 2
          have c3 := HX2.out.cell 3
          have c4 := HX2.out.cell 4
          have c5 := HX2.out.cell 5
          have c6 := HX2.out.cell 6
          have c7 := HX2.out.cell 7
          cases hz2 : (Fo.cd c).ok with
          | false =>
            have HL := Lib.hid (HE1.out.trans (show _ = false by rw [hz2]; rfl))
            clear hz2 HE1
            go_wp2_with (fail)
            go_ret
            exact ⟨congrArg (fun b => Ending.returned (Value.bool b)) HL.out.symm, HB2.out⟩
          | true =>
            by_cases hlt : 0 < m1
            · have HL := Lib.hid (HE1.out.trans (show _ = (Fo.st ⟨2, 0, c, th, el⟩).parts.all Fo.ok by rw [hz2, decide_eq_true (show 0 < th.len by rw [← HM1.out]; exact hlt)]; rfl))
              clear hz2 HE1
              go_wp2_with (fail)
              refine (sparts_any (x := ⟨2, 0, c, th, el⟩) (A := A) (m := m) (d := d) HT1.out HT2.out HB2.out hm1 hm2).mono ?_
              rintro e w3 ⟨A3, m3, d3, xs3, rfl, ho3, hf3, hb3⟩
              have HB3 := Lib.hid (HB2.out.trans (hb3.mono HB2.out.size))
              have HH := Lib.hid (FoNew.foH (S := S) ho3 (hf3.below HB2.out) hb3 (fun k hk => Nat.lt_of_lt_of_le (HS.out k hk) HB2.out.size))
              have hm3 : m3 ≤ 1000000 := by
                have := HH.out.len
                have := fo_len (Fo.st ⟨2, 0, c, th, el⟩).parts
                have := ((fo_parts (.st ⟨2, 0, c, th, el⟩)).2.2 _ rfl).2.2.2
                omega
              clear ho3 hf3 hb3 c0 c1 c2 c3 c4 c5 c6 c7 HX2 HX1
              go_wp2_with (fail)
              refine (contains_forms N HV.out S _ A3 m3 d3 w3 HN.out HH.out hm3).mono ?_
              rintro e w4 ⟨rfl, hb4⟩
              have HB4 := Lib.hid (HB3.out.trans (hb4.mono HB3.out.size))
              clear hb4
              go_wp2_with (fail)
              go_ret
              exact ⟨congrArg (fun b => Ending.returned (Value.bool b)) HL.out.symm, HB4.out⟩
            · have HL := Lib.hid (HE1.out.trans (show _ = false by rw [hz2, decide_eq_false (show ¬ 0 < th.len by rw [← HM1.out]; exact hlt)]; rfl))
              clear hz2 HE1
              go_wp2_with (fail)
              go_ret
              exact ⟨congrArg (fun b => Ending.returned (Value.bool b)) HL.out.symm, HB2.out⟩
        · have _t := trivial
          have b0b : ((b == 0)) = false := beq_eq_false_iff_ne.2 (by omega)
          have HL := Lib.hid (HE.out.trans (show _ = false by rw [b0b]; rfl))
          clear HE
          go_enter Tryz.func164, Tryz.ntmps164
          go_wp2_with (fail)
          all_goals (go_ret; exact ⟨congrArg (fun b => Ending.returned (Value.bool b)) HL.out.symm, ((Below.refl _ _).alloc (Nat.le_refl _) _).alloc (by simp) _⟩)
      · have k2 : (k == 2) = false := by simpa using hk2
        replace HE := Lib.hid (HE.out.trans ((if_neg hk1).trans (if_neg hk2)))
        have HL := Lib.hid (HE.out.trans (show _ = false by rfl))
        clear HE
        go_enter Tryz.func164, Tryz.ntmps164
        go_wp2_with (fail)
        all_goals (go_ret; exact ⟨congrArg (fun b => Ending.returned (Value.bool b)) HL.out.symm, ((Below.refl _ _).alloc (Nat.le_refl _) _).alloc (by simp) _⟩)
    -- GEN2-END
end Go.Proofs.YticpjdjdimpglaaGreatDoor
