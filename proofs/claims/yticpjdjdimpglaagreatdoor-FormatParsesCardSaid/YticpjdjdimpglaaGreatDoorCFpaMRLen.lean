/- The reference's Same by its contract. -/
import Derived.Test.YticpjdjdimpglaaGreatDoorCFpaMRSam
import Derived.Test.YticpjdjdimpglaaGreatDoorCFpaMWText3
import Derived.Test.YticpjdjdimpglaaGreatDoorCFpaMKeyword
import Derived.Test.YticpjdjdimpglaaGreatDoorCFpaMCmp2
import Derived.Test.YticpjdjdimpglaaGreatDoorCFpaMSnB
namespace Go.Proofs.YticpjdjdimpglaaGreatDoor
set_option linter.unusedVariables false
set_option linter.unusedSimpArgs false
open Go.RowKit
set_option maxHeartbeats 8000000 in
set_option maxRecDepth 100000 in
theorem rsameR_any (S S' : Nat → Prop) (x y : RT) (A : Option Addr) (m d : Nat) (C : Option Addr) (i j : Nat) (A' : Option Addr) (m' d' : Nat) (C' : Option Addr) (i' j' : Nat) (w : World)
    (h1 : RepT S w x.order A m d) (h2 : RepZ S w x.zones C i j) (h3 : RepT S' w y.order A' m' d') (h4 : RepZ S' w y.zones C' i' j') :
    Calls Tryz.prog 18 #[rV x A m d C i j, rV y A' m' d' C' i' j'] w fun e w' => e = .returned (.bool (sameR x y)) ∧ Below w.heap.size w w' := by
  have HT := Lib.hid (fun W (hW : Below w.heap.size w W) => rsame_all (x.order.sz + 1) S S' x.order y.order A m d A' m' d' W (Nat.lt_succ_self _) (h1.below hW) (h3.below hW))
  have HZ1 := Lib.hid h2
  have HZ2 := Lib.hid h4
  have HL1 := Lib.hid h2.len
  have HL2 := Lib.hid h4.len
  have hc1 := h2.1.cap
  have hb1 := h2.1.big
  have hc2 := h4.1.cap
  have hb2 := h4.1.big
  have HR := Lib.hid (show sameR x y = (decide (x.name = y.name) && (x.win == y.win && (x.draw == y.draw && (x.loss == y.loss && (decide (x.order = y.order) && decide (x.zones = y.zones)))))) from rfl)
  clear h1 h2 h3 h4
  generalize sameR x y = r at HR ⊢
  unfold rV
  obtain ⟨nm, w1, w2, w3, od, zs⟩ := x
  obtain ⟨nm', w1', w2', w3', od', zs'⟩ := y
  dsimp only at HT HZ1 HZ2 HL1 HL2 HR ⊢
  generalize decide (od = od') = rt at HT HR
  go_enter Tryz.func18, Tryz.ntmps18
  by_cases hn : nm = nm'
  case neg =>
    rw [decide_eq_false hn] at HR
    go_wp2_with (fail)
    first | (refine calls_named ?_; intro W hW) | (refine body_named ?_; intro W hW) | (refine wpList_named ?_; intro W hW) | (refine wp_named ?_; intro W hW)
    have hb : Below w.heap.size w W := by rw [← hW]; exact ((Below.refl _ _).alloc (Nat.le_refl _) _).alloc (by simp) _
    clear hW
    go_ret
    exact ⟨ret_bool (by rw [HR.out]; rfl), hb⟩
  subst hn
  rw [decide_eq_true rfl] at HR
  cases q1 : (w1 != w1')
  case true =>
    have q1' : (w1 == w1') = false := by simpa using q1
    rw [q1'] at HR
    clear q1'
    go_wp2_with (fail)
    first | (refine calls_named ?_; intro W hW) | (refine body_named ?_; intro W hW) | (refine wpList_named ?_; intro W hW) | (refine wp_named ?_; intro W hW)
    have hb : Below w.heap.size w W := by rw [← hW]; exact ((Below.refl _ _).alloc (Nat.le_refl _) _).alloc (by simp) _
    clear hW
    go_ret
    exact ⟨ret_bool (by rw [HR.out]; rfl), hb⟩
  cases q2 : (w2 != w2')
  case true =>
    have q2' : (w2 == w2') = false := by simpa using q2
    rw [q2'] at HR
    clear q2'
    go_wp2_with (fail)
    first | (refine calls_named ?_; intro W hW) | (refine body_named ?_; intro W hW) | (refine wpList_named ?_; intro W hW) | (refine wp_named ?_; intro W hW)
    have hb : Below w.heap.size w W := by rw [← hW]; exact ((Below.refl _ _).alloc (Nat.le_refl _) _).alloc (by simp) _
    clear hW
    go_ret
    exact ⟨ret_bool (by rw [HR.out]; simp), hb⟩
  cases q3 : (w3 != w3')
  case true =>
    have q3' : (w3 == w3') = false := by simpa using q3
    rw [q3'] at HR
    clear q3'
    go_wp2_with (fail)
    first | (refine calls_named ?_; intro W hW) | (refine body_named ?_; intro W hW) | (refine wpList_named ?_; intro W hW) | (refine wp_named ?_; intro W hW)
    have hb : Below w.heap.size w W := by rw [← hW]; exact ((Below.refl _ _).alloc (Nat.le_refl _) _).alloc (by simp) _
    clear hW
    go_ret
    exact ⟨ret_bool (by rw [HR.out]; simp), hb⟩
  have HR2 := Lib.hid (show r = (rt && decide (zs = zs')) by
    have e1 : (w1 == w1') = true := by simpa using q1
    have e2 : (w2 == w2') = true := by simpa using q2
    have e3 : (w3 == w3') = true := by simpa using q3
    rw [HR.out, e1, e2, e3]
    simp)
  clear HR
  go_wp2_with (fail)
  first | (refine calls_named ?_; intro W hW) | (refine body_named ?_; intro W hW) | (refine wpList_named ?_; intro W hW) | (refine wp_named ?_; intro W hW)
  have hb : Below w.heap.size w W := by rw [← hW]; exact ((Below.refl _ _).alloc (Nat.le_refl _) _).alloc (by simp) _
  have hx : Blk W w.heap.size 28 #[.string (bs nm), .int .i64 w1, .int .i64 w2, .int .i64 w3, .slice A m d, .slice C i j] := by rw [← hW]; exact (Blk.new w _ _).alloc _
  have hy : Blk W (w.heap.size + 1) 28 #[.string (bs nm), .int .i64 w1', .int .i64 w2', .int .i64 w3', .slice A' m' d', .slice C' i' j'] := by
    rw [← hW, ← World.size_alloc w]
    exact Blk.new _ _ _
  clear hW
  have HB := Lib.hid hb
  have HX := Lib.hid hx
  have HY := Lib.hid hy
  clear hb hx hy q1 q2 q3
  refine (HT.out W HB.out).mono ?_
  rintro e' w4 ⟨rfl, hb3⟩
  have HB3 := Lib.hid (HB.out.trans (hb3.mono HB.out.size))
  have HX3 := Lib.hid (HX.out.below hb3 HX.out.lt)
  have HY3 := Lib.hid (HY.out.below hb3 HY.out.lt)
  clear hb3
  have xl := HX3.out.lt
  have yl := HY3.out.lt
  have x5 := HX3.out.cell 5
  have y5 := HY3.out.cell 5
  cases rt
  · go_wp2_with (fail)
    go_ret
    exact ⟨ret_bool (by rw [HR2.out]; rfl), HB3.out⟩
  rw [Bool.true_and] at HR2
  by_cases hmn : i = i'
  · have hmn2 : ((i : Int) != (i' : Int)) = false := by rw [hmn]; simp
    have HMN := Lib.hid hmn
    have HE := Lib.hid (show r = true ↔ zs.drop 0 = zs'.drop 0 by
      rw [HR2.out, decide_eq_true_eq]
      exact ⟨fun h => by rw [h], fun h => by simpa using h⟩)
    clear hmn HR2
    go_wp2_with (fail)
    clear x5 y5
    go_loopw [5] (fun q wr => ∃ k : Nat, k ≤ i ∧ q = .int .i64 k ∧ Hid (Below w4.heap.size w4 wr) ∧ Hid (r = true ↔ zs.drop k = zs'.drop k)) (fun q _ => i - (intOf q).toNat)
    case atStart => exact ⟨0, Nat.zero_le _, rfl, Below.refl _ _, HE.out⟩
    case round =>
      obtain ⟨k, hki, rfl, HBk, HC⟩ := hrel
      have HBw := Lib.hid (HB3.out.trans (HBk.out.mono HB3.out.size))
      have hx := HX3.out.below HBk.out xl
      have hy := HY3.out.below HBk.out yl
      have x5 := hx.cell 5
      have y5 := hy.cell 5
      have xl2 := hx.lt
      have yl2 := hy.lt
      clear hx hy
      by_cases hlt : k < i
      · have hltn : k < i' := by have := HMN.out; omega
        obtain ⟨b, off, x, rfl, hb, hS, hx, g0, g1, g2⟩ := HZ1.out.elem hlt
        obtain ⟨b', off', y, rfl, hb', hS', hy, z0, z1, z2⟩ := HZ2.out.elem hltn
        rw [← HBw.out.cell (p := ⟨b, _, none⟩) hb] at g0 g1 g2
        rw [← HBw.out.cell (p := ⟨b', _, none⟩) hb'] at z0 z1 z2
        have hbl : b < wr.heap.size := Nat.lt_of_lt_of_le hb HBw.out.size
        have hbl' : b' < wr.heap.size := Nat.lt_of_lt_of_le hb' HBw.out.size
        have HC2 := Lib.hid (show r = true ↔ x = y ∧ zs.drop (k + 1) = zs'.drop (k + 1) by
          obtain ⟨a1, a2⟩ := List.getElem?_eq_some_iff.1 hx
          obtain ⟨a3, a4⟩ := List.getElem?_eq_some_iff.1 hy
          rw [HC.out, List.drop_eq_getElem_cons a1, List.drop_eq_getElem_cons a3, a2, a4, List.cons.injEq])
        have hne := zone_ne x y
        unfold zV at hne
        have HXY := Lib.hid (show decide (x ≠ y) = true ↔ ¬ x = y by simp)
        generalize decide (x ≠ y) = q at hne HXY
        clear hx hy hS hS'
        have hlt2 : (k : Int) < (i : Int) := by omega
        have hlt3 : (k : Int) < (i' : Int) := by omega
        cases q
        · go_wp2_with (fail)
          go_quiet (fail)
          go_wp2_with (fail)
          go_roundw
          case rel => exact ⟨k + 1, hlt, by go_num, below_drewN HBk.out nq, by
            refine Lib.hid ?_
            have h1 : x = y := Classical.not_not.1 fun h => absurd (HXY.out.2 h) (by decide)
            rw [HC2.out]
            simp [h1]⟩
          case measure => simp [intOf]; omega
        · go_wp2_with (fail)
          go_quiet (fail)
          go_wp2_with (fail)
          go_ret
          exact ⟨ret_bool (by
            have h1 : ¬ x = y := by simpa using HXY.out
            cases r
            · rfl
            · exact absurd (HC2.out.1 rfl).1 h1), below_drewN HBw.out nq⟩
      · have HC2 := Lib.hid (show r = true by
          have h := HC.out
          rw [List.drop_eq_nil_of_le (by rw [← HL1.out]; omega), List.drop_eq_nil_of_le (by rw [← HL2.out, ← HMN.out]; omega)] at h
          exact h.2 rfl)
        go_wp2_with (fail)
        go_ret
        exact ⟨ret_bool HC2.out.symm, HBw.out⟩
  · have hmn2 : ((i : Int) != (i' : Int)) = true := bne_iff_ne.2 fun h => hmn (Int.ofNat.inj h)
    have HC2 := Lib.hid (show r = false by
      rw [HR2.out, decide_eq_false_iff_not]
      intro h
      exact hmn (HL1.out.trans ((congrArg List.length h).trans HL2.out.symm)))
    clear hmn
    go_wp2_with (fail)
    go_ret
    exact ⟨ret_bool HC2.out.symm, HB3.out⟩
end Go.Proofs.YticpjdjdimpglaaGreatDoor
/- Plain law: FormatReads: parsed rules that are valid survive printing and parsing. No program. -/
namespace Go.Proofs.YticpjdjdimpglaaGreatDoor
set_option linter.unusedVariables false
set_option linter.unusedSimpArgs false
section
variable {T : List Tok}
end
end Go.Proofs.YticpjdjdimpglaaGreatDoor
/- Plain laws: how great parsed rules are. No program. -/
namespace Go.Proofs.YticpjdjdimpglaaGreatDoor
set_option linter.unusedVariables false
set_option linter.unusedSimpArgs false
/-- What is parsed is bounded by four times the tokens taken. -/
def Bd {α : Type} (μ : α → Nat) (a : Nat) (r : Res α) : Prop := ∀ x n, r = .ok x n → μ x + 4 * a ≤ 4 * n
section
variable {T : List Tok}
end
end Go.Proofs.YticpjdjdimpglaaGreatDoor
/- Plain law: the text of valid rules is short. -/
namespace Go.Proofs.YticpjdjdimpglaaGreatDoor
set_option linter.unusedVariables false
set_option linter.unusedSimpArgs false
theorem flines_len2 : ∀ (l : SF) (ind : List UInt8) (M : Nat), l.okB = true → 3 * ind.length + 6 * l.dep + 60 ≤ M → (flines ind l).length ≤ 50 * l.cntC + l.cntS * M
  | .nil, ind, M, _, _ => by rw [flines]; exact Nat.zero_le _
  | .cons k b ck cv cn cps th el r, ind, M, hok, hM => by
    obtain ⟨h1, h2⟩ := okS_cons hok
    rw [SF.dep] at hM
    have ir := flines_len2 r ind M h2 (by omega)
    rw [SF.cntC, SF.cntS, flines, List.length_append]
    have e : (th.cntS + el.cntS + 1 + r.cntS) * M = th.cntS * M + el.cntS * M + M + r.cntS * M := by
      simp only [Nat.add_mul, Nat.one_mul]
    rw [e]
    rcases h1 with h1 | h1
    · rw [if_pos h1.1]
      have hc := critW_len b
      simp only [List.length_append, List.length_cons, List.length_nil]
      omega
    · rw [if_neg (show ¬ k = 1 by omega), (isZ_cores h1.2.2.1).2]
      have it := flines_len2 th (ind ++ [32, 32]) M h1.2.2.2.2.1 (by simp only [List.length_append, List.length_cons, List.length_nil]; omega)
      have ie := flines_len2 el (ind ++ [32, 32]) M h1.2.2.2.2.2 (by simp only [List.length_append, List.length_cons, List.length_nil]; omega)
      have ht := (text_len 100 ⟨ck, cv, cn, cps⟩).1
      dsimp only at ht
      simp only [Bool.false_eq_true, if_false]
      by_cases hel : 0 < el.num
      · rw [if_pos hel]
        simp only [List.length_append, List.length_cons, List.length_nil] at *
        omega
      · rw [if_neg hel]
        simp only [List.length_append, List.length_cons, List.length_nil] at *
        omega
theorem fzones_len : ∀ l : List ZT, (∀ z ∈ l, z.name.length ≤ 24) → (l.flatMap fzone).length ≤ l.length * 100
  | [], _ => Nat.le_refl _
  | z :: l, h => by
    have ih := fzones_len l fun z hz => h z (by simp [hz])
    have h1 := h z (by simp)
    have h2 := dec_len22 z.fr
    have h3 := dec_len22 z.to
    rw [List.flatMap_cons, List.length_append, List.length_cons]
    have : (fzone z).length ≤ 100 := by
      unfold fzone
      split
      · simp only [List.length_append, List.length_cons, List.length_nil]; omega
      · simp only [List.length_append, List.length_cons, List.length_nil]; omega
    omega
theorem frules_len {r : RT} {s : List UInt8} (h : frules r = (s, 0)) : s.length ≤ 30000 := by
  rw [frules_def] at h
  by_cases ht : trules r = 0
  · rw [if_neg (by simpa using ht)] at h
    obtain ⟨h1, _, _, _, _, h6, h7, h8⟩ := trules_zero ht
    split at h
    · simp only [Prod.mk.injEq] at h
      exact absurd h.2 (by decide)
    · simp only [Prod.mk.injEq, and_true] at h
      rw [← h]
      have hn := ((nameB_iff _).1 h1).2.1
      have hz := fzones_len r.zones fun z hz => ((nameB_iff _).1 (zoneB_parts (List.all_eq_true.1 h8 z hz)).2.2).2.1
      have hk : r.order.okB = true ∧ r.order.cntS ≤ 64 ∧ r.order.cntC ≤ 256 ∧ r.order.dep ≤ 17 := by
        unfold torder at h6
        split at h6
        · omega
        · split at h6
          · omega
          · next h9 h10 => exact ⟨by cases hl : r.order.okB <;> simp_all, by omega, by omega, by omega⟩
      have hf := flines_len2 r.order [32, 32, 32, 32] 180 hk.1 (by simp only [List.length_cons, List.length_nil]; omega)
      have h2 := dec_len22 r.win
      have h3 := dec_len22 r.draw
      have h4 := dec_len22 r.loss
      have hm := Nat.mul_le_mul_right 180 hk.2.1
      unfold rtext
      simp only [List.length_append, List.length_cons, List.length_nil]
      omega
  · rw [if_pos (by simpa using ht)] at h
    simp only [Prod.mk.injEq] at h
    exact absurd h.2 ht
end Go.Proofs.YticpjdjdimpglaaGreatDoor
