/- format.Rules by its contract. -/
import Derived.Test.YticpjdjdimpglaaGreatDoorCTisMKeyword
import Derived.Test.YticpjdjdimpglaaGreatDoorCTisMSnA
import Derived.Test.YticpjdjdimpglaaGreatDoorCTisMRSam
import Derived.Test.YticpjdjdimpglaaGreatDoorCTisMWText3
namespace Go.Proofs.YticpjdjdimpglaaGreatDoor
set_option linter.unusedVariables false
set_option linter.unusedSimpArgs false
open Go.RowKit
set_option maxHeartbeats 4000000 in
set_option maxRecDepth 100000 in
theorem fRules1_any (z : ZT) (w : World) (hg : FG w) (hl : z.name.length ≤ 1000) : Calls Tryz.prog 46 #[.agg #[.string (bs z.name), .int .i64 z.fr, .int .i64 z.to]] w fun e w' => e = .returned (.bool (kwB z.name)) ∧ Below w.heap.size w w' := by
  have HG := Lib.hid hg
  obtain ⟨nm, f, t⟩ := z
  dsimp only at hl ⊢
  clear hg
  go_enter Tryz.func46, Tryz.ntmps46
  go_wp2_with (fail)
  first | (refine calls_named ?_; intro W hW) | (refine body_named ?_; intro W hW) | (refine wpList_named ?_; intro W hW) | (refine wp_named ?_; intro W hW)
  have hb1 : Below w.heap.size w W := by rw [← hW]; exact (Below.refl _ _).alloc (Nat.le_refl _) _
  clear hW
  obtain ⟨mm, hmm⟩ := (HG.out.below hb1).now.len
  have HB1 := Lib.hid hb1
  have HC := Lib.hid (keyword_any nm mm W hmm (by omega))
  clear hb1 hmm
  refine HC.out.mono ?_
  rintro e w1 ⟨rfl, hb⟩
  have HB2 := Lib.hid (HB1.out.trans (hb.mono HB1.out.size))
  clear hb HC
  go_wp2_with (fail)
  go_ret
  exact ⟨rfl, HB2.out⟩
set_option maxHeartbeats 4000000 in
set_option maxRecDepth 100000 in
theorem idx_zones (S : Nat → Prop) (l : List ZT) (A : Option Addr) (m c : Nat) (w : World) (h : RepZ S w l A m c) (hm : m ≤ 1000) (hl : ∀ z ∈ l, z.name.length ≤ 1000) (hg : FG w) :
    Calls Tryz.prog 93 #[.slice A m c, .func (.func 46) #[] #[]] w fun e w' => (∃ n : Int, e = .returned (.int .i64 n) ∧ decide (n ≥ 0) = l.any (fun z => kwB z.name)) ∧ Below w.heap.size w w' := by
  have HG := Lib.hid hg
  have HN := Lib.hid hl
  have HR := Lib.hid h
  have HL := Lib.hid h.len
  clear hl h hg
  go_enter Tryz.func93, Tryz.ntmps93
  go_wp2_with (fail)
  go_loopw [8] (fun s wr => ∃ i : Nat, i ≤ m ∧ s = .int .i64 i ∧ Hid (Below w.heap.size w wr) ∧ Hid ((l.take i).any (fun z => kwB z.name) = false)) (fun s _ => m - (intOf s).toNat)
  case atStart => exact ⟨0, Nat.zero_le _, rfl, Below.refl _ _, by simp [Hid]⟩
  case round =>
    obtain ⟨i, him, rfl, HB, HA⟩ := hrel
    by_cases hlt : i < m
    · obtain ⟨q, off, z, rfl, hq, hS, hf, h0, h1, h2⟩ := HR.out.elem hlt
      rw [← HB.out.cell hq] at h0 h1 h2
      have HF := Lib.hid hf
      have HLz := Lib.hid (HN.out z (by obtain ⟨h1, h2⟩ := List.getElem?_eq_some_iff.1 hf; rw [← h2]; exact List.getElem_mem h1))
      clear hf
      go_wp2_with (fail)
      refine (fRules1_any z wr (HG.out.below HB.out) HLz.out).mono ?_
      rintro e w1 ⟨rfl, hb⟩
      have HB1 := Lib.hid (HB.out.trans (hb.mono HB.out.size))
      clear hb
      cases ho : kwB z.name with
      | false =>
        have HA1 := Lib.hid (show (l.take (i + 1)).any (fun z => kwB z.name) = false by
          obtain ⟨h1, h2⟩ := List.getElem?_eq_some_iff.1 HF.out
          rw [List.take_succ_eq_append_getElem h1, h2, List.any_append, HA.out, List.any_cons, ho]
          rfl)
        clear ho
        go_wp2_with (fail)
        go_roundw
        case rel => exact ⟨i + 1, hlt, by go_num, HB1.out, HA1.out⟩
        case measure => simp [intOf]; omega
      | true =>
        have HA1 := Lib.hid (show l.any (fun z => kwB z.name) = true by
          obtain ⟨h1, h2⟩ := List.getElem?_eq_some_iff.1 HF.out
          rw [List.any_eq_true]
          exact ⟨z, by rw [← h2]; exact List.getElem_mem h1, ho⟩)
        clear ho
        go_wp2_with (fail)
        go_ret
        exact ⟨⟨i, rfl, by rw [HA1.out]; simp⟩, HB1.out⟩
    · have HA1 := Lib.hid (show l.any (fun z => kwB z.name) = false by
        have h1 := HA.out
        rw [List.take_of_length_le (by rw [← HL.out]; omega)] at h1
        exact h1)
      go_wp2_with (fail)
      go_ret
      exact ⟨⟨-1, rfl, by rw [HA1.out]; rfl⟩, HB.out⟩
set_option maxHeartbeats 4000000 in
set_option maxRecDepth 100000 in
theorem contains_zones (S : Nat → Prop) (l : List ZT) (A : Option Addr) (m c : Nat) (w : World) (h : RepZ S w l A m c) (hm : m ≤ 1000) (hl : ∀ z ∈ l, z.name.length ≤ 1000) (hg : FG w) :
    Calls Tryz.prog 45 #[.slice A m c, .func (.func 46) #[] #[]] w fun e w' => e = .returned (.bool (l.any (fun z => kwB z.name))) ∧ Below w.heap.size w w' := by
  have HC := Lib.hid (idx_zones S l A m c w h hm hl hg)
  clear hl h hg
  go_enter Tryz.func45, Tryz.ntmps45
  go_wp2_with (fail)
  refine HC.out.mono ?_
  rintro e w1 ⟨⟨n, rfl, hn⟩, hb⟩
  have HB := Lib.hid hb
  have HN := Lib.hid hn
  clear hb hn
  go_wp2
  go_ret
  exact ⟨congrArg (fun b => Ending.returned (Value.bool b)) HN.out, HB.out⟩
set_option maxHeartbeats 4000000 in
set_option maxRecDepth 100000 in
theorem bytes_any {p k : Nat} {s : List UInt8} {w : World} (h : PS w p s k) (hs : s ≠ []) : Calls Tryz.prog 55 #[.pointer (some ⟨p, 0, none⟩)] w fun e w' => (∃ A n c, e = .returned (.slice A n c) ∧ Rd w' w'.heap.size 1 A n c (s.map vb)) ∧ Below w.heap.size w w' := by
  obtain ⟨hB, lr, hc | ⟨g, cap, cur, h3, hBg, hgg, hnc, hcm, hcs, htk, hgb⟩⟩ := LibA.IsBuffer.cases h
  · exact absurd hc.1 (by cases s with
      | nil => exact absurd rfl hs
      | cons a r => simp [Lib.byteCells])
  · have x0 := h3.c0
    have x1 := h3.c1
    have hl : (Lib.byteCells s).length = s.length := Lib.byteCells_length s
    rw [hl] at x0 hnc htk
    have hpos : 0 < s.length := List.length_pos_iff.2 hs
    have HR := Lib.hid (show ∀ q, Rd (w.drewN q) (w.drewN q).heap.size 1 (some ⟨g, 0, none⟩) s.length cap (s.map vb) from fun q =>
      ⟨by simp, hnc, by unfold maxLen at hcm; omega, fun _ => ⟨g, 0, rfl, (Array.getElem?_eq_some_iff.1 hgg).1, fun j u hj => by
        show w.cell? ⟨g, 0 + j, none⟩ = some u
        rw [Nat.zero_add]
        rw [cell_of_row w g j cur _ (0, 0) hgg]
        have e : s.map vb = Lib.byteCells s := rfl
        rw [e, ← htk] at hj
        rw [List.getElem?_take] at hj
        split at hj
        · simpa using hj
        · cases hj⟩⟩)
    have hcap0 : ¬ cap = 0 := by omega
    unfold maxLen at hcm
    clear h h3 hgg hcs htk hl
    go_enter Tryz.func55, Tryz.ntmps55
    go_wp2_with (fail)
    go_quiet (fail)
    go_wp2_with (fail)
    go_ret
    exact ⟨⟨_, _, _, rfl, HR.out nq⟩, ⟨rfl, rfl, rfl, Nat.le_refl _, fun _ _ => rfl⟩⟩
theorem sz_le : ∀ l : SF, l.okB = true → l.sz ≤ l.cntC + 2 * l.cntS
  | .nil, _ => Nat.le_refl _
  | .cons k b ck cv cn cps th el r, h => by
    obtain ⟨h1, h2⟩ := okS_cons h
    have ih := sz_le r h2
    rw [SF.sz, SF.cntC, SF.cntS]
    rcases h1 with h1 | h1
    · have e1 : th = .nil := by have := h1.2.2.2.2.1; cases th with | nil => rfl | cons => simp [SF.num] at this
      have e2 : el = .nil := by have := h1.2.2.2.2.2; cases el with | nil => rfl | cons => simp [SF.num] at this
      have e3 : cps = .nil := by
        have hz := h1.2.2.2.1
        unfold CT.isZ at hz
        rw [Bool.and_eq_true] at hz
        have h4 : cps.num = 0 := by simpa using hz.2
        cases cps with | nil => rfl | cons => simp [CF.num] at h4
      subst e1; subst e2; subst e3
      simp only [SF.sz, SF.cntC, SF.cntS, CF.cnt]
      omega
    · have i1 := sz_le th h1.2.2.2.2.1
      have i2 := sz_le el h1.2.2.2.2.2
      have hz : CT.isZ ⟨ck, cv, cn, cps⟩ = false := (isZ_cores h1.2.2.1).2
      rw [hz]
      simp only [Bool.false_eq_true, if_false]
      omega
theorem critW_len (b : Int) : (critW b).length ≤ 15 := by
  unfold critW
  repeat' split
  all_goals decide
theorem flines_len : ∀ (l : SF) (ind : List UInt8) (M : Nat), 3 * ind.length + 6 * l.dep + 100 ≤ M → (flines ind l).length ≤ l.sz * M
  | .nil, ind, M, _ => by rw [flines]; exact Nat.zero_le _
  | .cons k b ck cv cn cps th el r, ind, M, hM => by
    rw [SF.dep] at hM
    have ir := flines_len r ind M (by omega)
    have it := flines_len th (ind ++ [32, 32]) M (by simp only [List.length_append, List.length_cons, List.length_nil]; omega)
    have ie := flines_len el (ind ++ [32, 32]) M (by simp only [List.length_append, List.length_cons, List.length_nil]; omega)
    have hc := critW_len b
    have ht := (text_len 100 ⟨ck, cv, cn, cps⟩).1
    dsimp only at ht
    have hcm : cps.cnt * 100 ≤ cps.cnt * M := Nat.mul_le_mul_left _ (by omega)
    rw [SF.sz, flines]
    have e : (cps.cnt + 2 + th.sz + el.sz + r.sz) * M = cps.cnt * M + 2 * M + th.sz * M + el.sz * M + r.sz * M := by
      simp only [Nat.add_mul]
    rw [e, List.length_append]
    by_cases hk : k = 1
    · rw [if_pos hk]
      simp only [List.length_append, List.length_cons, List.length_nil]
      omega
    · rw [if_neg hk]
      by_cases hel : 0 < el.num
      · rw [if_pos hel]
        simp only [List.length_append, List.length_cons, List.length_nil] at *
        omega
      · rw [if_neg hel]
        simp only [List.length_append, List.length_cons, List.length_nil] at *
        omega
theorem zone_len : ∀ l : List ZT, (∀ z ∈ l, z.name.length ≤ 24) → (l.flatMap (fzoneI (sps 2))).length ≤ l.length * 100
  | [], _ => Nat.le_refl _
  | z :: l, h => by
    have ih := zone_len l fun z hz => h z (by simp [hz])
    have h1 := h z (by simp)
    have h2 := dec_len22 z.fr
    have h3 := dec_len22 z.to
    rw [List.flatMap_cons, List.length_append, List.length_cons]
    have : (fzoneI (sps 2) z).length ≤ 100 := by
      unfold fzoneI
      split
      · simp only [List.length_append, List.length_cons, List.length_nil, sps_len]; omega
      · simp only [List.length_append, List.length_cons, List.length_nil, sps_len]; omega
    omega
theorem fzone_I (z : ZT) : fzone z = fzoneI (sps 2) z := by
  unfold fzone fzoneI
  rfl
theorem rtext_body (r : RT) : [] ++ (sps 0 ++ ([114, 117, 108, 101, 115, 32] ++ r.name) ++ [32, 123, 10] ++ rbody r ++ sps 0 ++ [125, 10]) = rtext r := by
  unfold rtext rbody
  rw [show (fzone : ZT → List UInt8) = fzoneI (sps 2) from funext fzone_I]
  simp [sps, Lib.repeatL, List.append_assoc]
theorem rbody_len {r : RT} (ht : trules r = 0) : (rbody r).length ≤ 200000 ∧ r.order.sz ≤ 400 ∧ r.name.length ≤ 24 ∧ ∀ z ∈ r.zones, z.name.length ≤ 24 := by
  have h1 := trules_zero ht
  have h2 := torder_zero h1.2.2.2.2.2.1
  have h3 := sz_le _ h2.2.2.2.2.2
  have h4 := flines_len r.order (sps 2) 214 (by rw [sps_len]; omega)
  have hn := ((nameB_iff _).1 h1.1).2.1
  have hz : ∀ z ∈ r.zones, z.name.length ≤ 24 := fun z hz => ((nameB_iff _).1 (zoneB_parts (List.all_eq_true.1 h1.2.2.2.2.2.2.2 z hz)).2.2).2.1
  have h5 := zone_len r.zones hz
  have h6 := dec_len22 r.win
  have h7 := dec_len22 r.draw
  have h8 := dec_len22 r.loss
  have h9 := h1.2.2.2.2.2.2.1
  have h10 : r.order.sz * 214 ≤ 400 * 214 := Nat.mul_le_mul_right _ (by omega)
  have h11 : r.zones.length * 100 ≤ 16 * 100 := Nat.mul_le_mul_right _ h9
  refine ⟨?_, by omega, hn, hz⟩
  unfold rbody
  simp only [List.length_append, List.length_cons, List.length_nil, sps_len]
  omega
end Go.Proofs.YticpjdjdimpglaaGreatDoor
/- format.Rules by its contract. -/
namespace Go.Proofs.YticpjdjdimpglaaGreatDoor
set_option linter.unusedVariables false
set_option linter.unusedSimpArgs false
open Go.RowKit
/-- What a call of format.Rules leaves behind. -/
def FRP (r : RT) (w : World) (e : Ending) (w' : World) : Prop := ∃ A n c, e = .returned (.tuple #[.slice A n c, .int .i64 (frules r).2]) ∧ Rd w' w'.heap.size 1 A n c ((frules r).1.map vb) ∧ Below w.heap.size w w'
set_option maxHeartbeats 8000000 in
set_option maxRecDepth 100000 in
theorem frules_any (S S' : Nat → Prop) (r : RT) (A : Option Addr) (m d : Nat) (C : Option Addr) (n c : Nat) (w : World) (h1 : RepT S w r.order A m d) (h2 : RepZ S' w r.zones C n c) (hz : r.order.sz ≤ 1000000) (hl : r.name.length ≤ 1000000) (hlz : ∀ z ∈ r.zones, z.name.length ≤ 1000000) (hg : FG w) (hcp : 0 < w.heap.size) :
    Calls Tryz.prog 15 #[rV r A m d C n c] w (FRP r w) := by
  have HT := Lib.hid h1
  have HZ := Lib.hid h2
  have HG := Lib.hid hg
  have HLZ := Lib.hid hlz
  have HF := Lib.hid (frules_def r)
  have hcap := h2.1.cap
  have hbig := h2.1.big
  unfold rV
  clear h1 h2 hg hlz
  go_enter Tryz.func15, Tryz.ntmps15
  go_wp2_with (fail)
  first | (refine calls_named ?_; intro W hW) | (refine body_named ?_; intro W hW) | (refine wpList_named ?_; intro W hW) | (refine wp_named ?_; intro W hW)
  have hb1 : Below w.heap.size w W := by rw [← hW]; exact (Below.refl _ _).alloc (Nat.le_refl _) _
  have hx1 : Blk W w.heap.size 28 #[.string (bs r.name), .int .i64 r.win, .int .i64 r.draw, .int .i64 r.loss, .slice A m d, .slice C n c] := by rw [← hW]; exact Blk.new w _ _
  clear hW
  have HB1 := Lib.hid hb1
  have HX1 := Lib.hid hx1
  clear hb1 hx1
  refine (trules_any S S' r A m d C n c W (HT.out.below HB1.out) (HZ.out.only (Only.of_below (S := fun _ => False) HB1.out) (fun _ h => False.elim h)) hz hl HLZ.out).mono ?_
  rintro e w1 ⟨rfl, hb⟩
  have HB2 := Lib.hid (HB1.out.trans (hb.mono HB1.out.size))
  have HX2 := Lib.hid (HX1.out.below hb HX1.out.lt)
  clear hb HB1 HX1
  have c0 : w1.cell? ⟨w.heap.size, 0, none⟩ = some (.string (bs r.name)) := HX2.out.cell 0
  have c5 : w1.cell? ⟨w.heap.size, 5, none⟩ = some (.slice C n c) := HX2.out.cell 5
  by_cases ht : trules r = 0
  · have HTT := Lib.hid ht
    have HRB := Lib.hid (rbody_len ht)
    have hn16 : n ≤ 16 := by rw [HZ.out.len]; exact (trules_zero ht).2.2.2.2.2.2.1
    have HF2 := Lib.hid (HF.out.trans (if_neg (Classical.not_not.2 ht)))
    rw [ht]
    clear ht HF
    obtain ⟨mm, hmm⟩ := (HG.out.below HB2.out).now.len
    have HC := Lib.hid (keyword_any r.name mm w1 hmm (by have := HRB.out.2.2.1; omega))
    clear hmm
    go_wp2_with (fail)
    refine HC.out.mono ?_
    rintro e w2 ⟨rfl, hb⟩
    have HB3 := Lib.hid (HB2.out.trans (hb.mono HB2.out.size))
    have HX3 := Lib.hid (HX2.out.below hb HX2.out.lt)
    clear hb c0 c5 HC HX2
    have c0 : w2.cell? ⟨w.heap.size, 0, none⟩ = some (.string (bs r.name)) := HX3.out.cell 0
    have c5 : w2.cell? ⟨w.heap.size, 5, none⟩ = some (.slice C n c) := HX3.out.cell 5
    cases hk : kwB r.name with
    | true =>
      have HF3 := Lib.hid (HF2.out.trans (if_pos (by rw [hk]; rfl)))
      clear hk HF2
      go_wp2_with (fail)
      go_ret2
      exact ⟨none, 0, 0, by rw [HF3.out]; rfl, by rw [HF3.out]; exact Rd.nil, HB3.out⟩
    | false =>
      have HF3 := Lib.hid (show frules r = if r.zones.any (fun z => kwB z.name) = true then ([], 140) else (rtext r, 0) by rw [HF2.out, hk, Bool.false_or])
      clear hk HF2
      go_wp2_with (fail)
      refine (contains_zones S' r.zones C n c w2 (HZ.out.only (Only.of_below (S := fun _ => False) HB3.out) (fun _ h => False.elim h)) (by omega) (fun z hz => by have := HRB.out.2.2.2 z hz; omega) (HG.out.below HB3.out)).mono ?_
      rintro e w3 ⟨rfl, hb⟩
      have HB4 := Lib.hid (HB3.out.trans (hb.mono HB3.out.size))
      have HX4 := Lib.hid (HX3.out.below hb HX3.out.lt)
      clear hb c0 c5 HX3
      cases ha : r.zones.any (fun z => kwB z.name) with
      | true =>
        have HF4 := Lib.hid (HF3.out.trans (if_pos ha))
        clear ha HF3
        go_wp2_with (fail)
        go_ret2
        exact ⟨none, 0, 0, by rw [HF4.out]; rfl, by rw [HF4.out]; exact Rd.nil, HB4.out⟩
      | false =>
        have HF4 := Lib.hid (HF3.out.trans (if_neg (by rw [ha]; decide)))
        have x0 : w3.cell? ⟨w.heap.size, 0, none⟩ = some (.string (bs r.name)) := HX4.out.cell 0
        have xl := HX4.out.lt
        have hnl := HRB.out.2.2.1
        have hs1 : ¬ (9223372036854775807 < 6 + r.name.length) := by omega
        clear ha HF3 hnl
        go_wp2_with (fail)
        rw [show ({ data := #[114, 117, 108, 101, 115, 32] } : ByteArray) ++ bs r.name = bs ([114, 117, 108, 101, 115, 32] ++ r.name) by rw [show ({ data := #[114, 117, 108, 101, 115, 32] } : ByteArray) = bs [114, 117, 108, 101, 115, 32] from rfl, bs_addZ]]
        first | (refine calls_named ?_; intro W5 hW5) | (refine body_named ?_; intro W5 hW5) | (refine wpList_named ?_; intro W5 hW5) | (refine wp_named ?_; intro W5 hW5)
        obtain ⟨p, hp⟩ : ∃ p, p = w3.heap.size := ⟨_, rfl⟩
        rw [← hp]
        have hb5 : Below w3.heap.size w3 W5 := by rw [← hW5]; exact (Below.refl _ _).alloc (Nat.le_refl _) _
        have hx5 : Blk W5 p 86 #[.slice none 0 0, .int .i64 0, .int .i8 0, .int .i64 0] := by rw [← hW5, hp]; exact Blk.new w3 _ _
        have hwp : w.heap.size < p := by rw [hp]; exact xl
        have hB5 : Below w.heap.size w W5 := HB4.out.trans (hb5.mono HB4.out.size)
        have HB5 := Lib.hid hB5
        have HP5 := Lib.hid (show PS W5 p [] 0 from LibA.zero_isBuffer (Nat.le_refl _) (lr := 0) ⟨_, hx5, rfl, rfl, rfl, fun i hi => by
          have h3 : 3 ≤ i := by omega
          by_cases e : i = 3
          · subst e; rfl
          · show _ = (if i = 3 then _ else _)
            rw [if_neg e]
            exact Array.getElem?_eq_none (by show 4 ≤ i; omega)⟩)
        have HX5 := Lib.hid (HX4.out.below hb5 xl)
        have HG5 := Lib.hid (show FGb p W5 from FGb.more (FGb.below HG.out hB5) (Nat.le_of_lt hwp))
        have HT5 := Lib.hid (show RepT (fun j => p ≤ j) W5 r.order A m d from (HT.out.new.sub (S' := fun j => p ≤ j) (fun k hk => .inr (by omega))).below hB5)
        have HZ5 := Lib.hid (show RepZ (fun j => p ≤ j) W5 r.zones C n c from (HZ.out.new.sub (S' := fun j => p ≤ j) (fun k hk => .inr (by omega))).only (Only.of_below (S := fun _ => False) hB5) (fun _ h => False.elim h))
        clear hW5 hb5 hx5 hB5 hp
        refine (block_any ([114, 117, 108, 101, 115, 32] ++ r.name) 48 #[.pointer (some ⟨p, 0, none⟩), .pointer (some ⟨w.heap.size, 0, none⟩)] (rbody r) HP5.out (by omega) (enters_of Tryz.func48 (by kernel_rfl) rfl) (by
          have h1 := HRB.out.1
          have h2 := HRB.out.2.2.1
          simp only [List.length_append, List.length_cons, List.length_nil]
          omega) (fun w' hs' hk' => fRules2_any HTT.out (by have := HRB.out.2.1; omega) hs' (HG5.out.below hk'.below) (by omega) hwp ((hk'.below.block _ hwp).trans HX5.out) (HT5.out.only hk'.only (fun _ h => h)) (HZ5.out.only hk'.only (fun _ h => h)) (by
          have h1 := HRB.out.1
          have h2 := HRB.out.2.2.1
          simp only [List.length_append, List.length_cons, List.length_nil, sps_len]
          omega))).mono ?_
        rintro e w6 ⟨rfl, hps, hpk⟩
        have HP6 := Lib.hid (show PS w6 p (rtext r) 0 by rw [← rtext_body]; exact hps)
        have HB6 := Lib.hid (HB5.out.trans (hpk.below.mono (Nat.le_of_lt hwp)))
        clear hps hpk x0
        go_wp2_with (fail)
        refine (bytes_any HP6.out (by unfold rtext; simp)).mono ?_
        rintro e w7 ⟨⟨A7, n7, c7, rfl, hr7⟩, hb7⟩
        have HR7 := Lib.hid hr7
        have HB7 := Lib.hid (HB6.out.trans (hb7.mono HB6.out.size))
        clear hr7 hb7
        go_wp2_with (fail)
        go_ret2
        exact ⟨A7, n7, c7, by rw [HF4.out]; rfl, by rw [HF4.out]; exact HR7.out, HB7.out⟩
  · have htb : (trules r != 0) = true := bne_iff_ne.2 ht
    have HF2 := Lib.hid (HF.out.trans (if_pos ht))
    clear ht HF
    generalize trules r = tq at htb HF2 ⊢
    go_wp2_with (fail)
    go_ret2
    exact ⟨none, 0, 0, by rw [HF2.out]; rfl, by rw [HF2.out]; exact Rd.nil, HB2.out⟩
end Go.Proofs.YticpjdjdimpglaaGreatDoor
/- What sane's literals look like in memory. -/
namespace Go.Proofs.YticpjdjdimpglaaGreatDoor
set_option linter.unusedVariables false
set_option linter.unusedSimpArgs false
open Go.RowKit
theorem two_new {w : World} {b : Nat} {x y : CT} {A B : Option Addr} {m d n e : Nat} (hx : Blk w b 24 #[.int .i64 x.k, .int .i64 x.v, .int .i64 x.n, .slice A m d, .int .i64 y.k, .int .i64 y.v, .int .i64 y.n, .slice B n e])
    (h1 : RepH N0 w x.ps A m d) (h2 : RepH N0 w y.ps B n e) : RepH N0 w (.one x (.one y .nil)) (some ⟨b, 0, none⟩) 2 2 :=
  ⟨[vi x.k, vi x.v, vi x.n, .slice A m d, vi y.k, vi y.v, vi y.n, .slice B n e], own_rd (own_of_blk2 (base := 0) (m := 2) hx rfl (Nat.zero_le _) (by omega)), fun _ _ _ h => h, by
    have := RepF.app (RepF.one1 (x := x) h1) (RepF.one1 (x := y) h2)
    exact this⟩
theorem step_new {w : World} {b : Nat} {n : Int} (hx : Blk w b 56 #[.int .i64 1, .int .i64 n, .int .i64 0, .int .i64 0, .int .i64 0, .slice none 0 0, .slice none 0 0, .slice none 0 0]) : RepT N0 w (.one 1 n .zero .nil .nil .nil) (some ⟨b, 0, none⟩) 1 1 :=
  ⟨_, own_rd (own_of_blk2 (xs := [.int .i64 1, .int .i64 n, .int .i64 0, .int .i64 0, .int .i64 0, .slice none 0 0, .slice none 0 0, .slice none 0 0]) (base := 0) (m := 1) hx rfl (Nat.zero_le _) (by omega)), fun _ _ _ h => h,
    none, 0, 0, none, 0, 0, none, 0, 0, [], rfl, RepH.nil, RepT.nil, RepT.nil, rfl⟩
theorem exF_new {w : World} {b g : Nat} (hx : Blk w b 56 #[.int .i64 1, .int .i64 1, .int .i64 0, .int .i64 0, .int .i64 0, .slice none 0 0, .slice none 0 0, .slice none 0 0, .int .i64 2, .int .i64 0, .int .i64 1, .int .i64 1, .int .i64 3, .slice none 0 0, .slice (some ⟨g, 0, none⟩) 1 1, .slice none 0 0, .int .i64 1, .int .i64 4, .int .i64 0, .int .i64 0, .int .i64 0, .slice none 0 0, .slice none 0 0, .slice none 0 0])
    (h : RepT N0 w (.one 1 1 .zero .nil .nil .nil) (some ⟨g, 0, none⟩) 1 1) : RepT N0 w exF (some ⟨b, 0, none⟩) 3 3 :=
  ⟨_, own_rd (own_of_blk2 (xs := [.int .i64 1, .int .i64 1, .int .i64 0, .int .i64 0, .int .i64 0, .slice none 0 0, .slice none 0 0, .slice none 0 0, .int .i64 2, .int .i64 0, .int .i64 1, .int .i64 1, .int .i64 3, .slice none 0 0, .slice (some ⟨g, 0, none⟩) 1 1, .slice none 0 0, .int .i64 1, .int .i64 4, .int .i64 0, .int .i64 0, .int .i64 0, .slice none 0 0, .slice none 0 0, .slice none 0 0]) (base := 0) (m := 3) hx rfl (Nat.zero_le _) (by omega)), fun _ _ _ h => h,
    none, 0, 0, none, 0, 0, none, 0, 0, _, rfl, RepH.nil, RepT.nil, RepT.nil, none, 0, 0, some ⟨g, 0, none⟩, 1, 1, none, 0, 0, _, rfl, RepH.nil, h, RepT.nil, none, 0, 0, none, 0, 0, none, 0, 0, _, rfl, RepH.nil, RepT.nil, RepT.nil, rfl⟩
theorem twoS_new {w : World} {b : Nat} (hx : Blk w b 56 #[.int .i64 1, .int .i64 1, .int .i64 0, .int .i64 0, .int .i64 0, .slice none 0 0, .slice none 0 0, .slice none 0 0, .int .i64 1, .int .i64 4, .int .i64 0, .int .i64 0, .int .i64 0, .slice none 0 0, .slice none 0 0, .slice none 0 0]) :
    RepT N0 w (.one 1 1 .zero .nil .nil (.one 1 4 .zero .nil .nil .nil)) (some ⟨b, 0, none⟩) 2 2 :=
  ⟨_, own_rd (own_of_blk2 (xs := [.int .i64 1, .int .i64 1, .int .i64 0, .int .i64 0, .int .i64 0, .slice none 0 0, .slice none 0 0, .slice none 0 0, .int .i64 1, .int .i64 4, .int .i64 0, .int .i64 0, .int .i64 0, .slice none 0 0, .slice none 0 0, .slice none 0 0]) (base := 0) (m := 2) hx rfl (Nat.zero_le _) (by omega)), fun _ _ _ h => h,
    none, 0, 0, none, 0, 0, none, 0, 0, _, rfl, RepH.nil, RepT.nil, RepT.nil, none, 0, 0, none, 0, 0, none, 0, 0, _, rfl, RepH.nil, RepT.nil, RepT.nil, rfl⟩
theorem zone_new {w : World} {b : Nat} (hx : Blk w b 73 #[.string (bs [117, 112]), .int .i64 1, .int .i64 2]) : RepZ N0 w exR.zones (some ⟨b, 0, none⟩) 1 1 :=
  ⟨own_rd (own_of_blk2 (xs := [.string (bs [117, 112]), .int .i64 1, .int .i64 2]) (base := 0) (m := 1) hx rfl (Nat.zero_le _) (by omega)), fun _ _ _ h => h⟩
section
variable {P : Program} {ops : Array Oper} {rest : List Oper} {o : Oper} {a : Act} {Q : Exit → Act → World → Prop} {w : World}
theorem at_dstS (d : Nat) (ho : o.dst = some d) (h : wpList P ops Q (o :: rest) a w) : wpList P ops Q (o :: rest) a w := h
end
end Go.Proofs.YticpjdjdimpglaaGreatDoor
