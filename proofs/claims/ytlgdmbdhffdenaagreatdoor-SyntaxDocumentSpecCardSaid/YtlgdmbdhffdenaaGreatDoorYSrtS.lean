/- The merge in place by its contract. -/
import Derived.Test.YtlgdmbdhffdenaaGreatDoorPH
namespace Go.Proofs.YtlgdmbdhffdenaaGreatDoor
set_option linter.unusedVariables false
set_option linter.unusedSimpArgs false
open Go.RowKit
open Go.Sort (grow alloc_eq_grow grow_grow)

def SymC (b z m c : Nat) (P : List Prob) (w : World) (a1 m1 b1 : Nat) : Prop := Calls Tryz.prog 99 #[.slice (some ⟨b, 0, none⟩) m c, .int .i64 a1, .int .i64 m1, .int .i64 b1, .func (.func 39) #[] #[]] w fun e w' => e = .returned (.tuple #[]) ∧ Only (· = b) w w' ∧ ∃ R, PRow w' b z R ∧ Merged P R a1 m1 b1
/-- What the search's loop keeps. -/
def BsV (w wr : World) (b z : Nat) (P : List Prob) (lo hi : Nat) (L U : Nat → Prop) (s t : Value) : Prop := ∃ (i j : Nat), s = .int .i64 i ∧ t = .int .i64 j ∧ Hid (Bs lo hi L U i j) ∧ Hid (Only (· = b) w wr) ∧ Hid (PRow wr b z P)
set_option maxHeartbeats 4000000 in
set_option maxRecDepth 100000 in
theorem ysym_first (b z a1 b1 m c : Nat) (P : List Prob) (w : World) (h : PRow w b z P) (hm : m = P.length) (hc : m ≤ 100000) (h1 : a1 + 1 < b1) (hb : b1 ≤ m) : SymC b z m c P w a1 (a1 + 1) b1 := by
  unfold SymC
  have HH := Lib.hid h
  have HM := Lib.hid hm
  have hmix := hmixP
  have eg : ∀ args w, (callFunc 39 args).run Tryz.prog w = .ok (.enter 39 args) w := enters_of Tryz.func39 (by kernel_rfl) rfl
  clear h hm
  go_enter Tryz.func99, Tryz.ntmps99
  go_wp2_with (fail)
  go_loopw [10, 11] (fun s t wr => BsV w wr b z P (a1 + 1) b1 (fun x => ky P x < ky P a1) (fun x => ¬ ky P x < ky P a1) s t) (fun s t _ => (intOf t).toNat - (intOf s).toNat)
  case atStart => exact ⟨a1 + 1, b1, by go_num, rfl, Bs.start (by omega) _ _, Only.refl _ _, HH.out⟩
  case round =>
    obtain ⟨i, j, rfl, rfl, HB, HO, HR⟩ := hrel
    have hi := HB.out.lo_
    have hij := HB.out.ij
    have hj := HB.out.hi_
    have hbl := HR.out.lt
    by_cases hlt : i < j
    · obtain ⟨h, hh⟩ : ∃ h, h = (i + j) / 2 := ⟨_, rfl⟩
      have eh : ((i : Int) + (j : Int)) / 2 = (h : Int) := by omega
      have hih : i ≤ h := by omega
      have hhj : h < j := by omega
      have hhm : (h : Int) < (m : Int) := by omega
      have ham : (a1 : Int) < (m : Int) := by omega
      clear hh
      obtain ⟨p, hp⟩ : ∃ p, P[h]? = some p := ⟨_, List.getElem?_eq_getElem (by have := HM.out; omega)⟩
      obtain ⟨q, hq⟩ : ∃ p, P[a1]? = some p := ⟨_, List.getElem?_eq_getElem (by have := HM.out; omega)⟩
      obtain ⟨x0, x1⟩ := HR.out.cell hp
      obtain ⟨y0, y1⟩ := HR.out.cell hq
      have HKP := Lib.hid (show ky P (h) = p.at_ by unfold ky; rw [hp])
      have HKQ := Lib.hid (show ky P (a1) = q.at_ by unfold ky; rw [hq])
      clear hp hq
      have X0 := cell_grown hbl x0
      have X1 := cell_grown hbl x1
      have Y0 := cell_grown hbl y0
      have Y1 := cell_grown hbl y1
      have hcg : ∀ n os, Calls Tryz.prog 39 #[.agg #[.int .i64 p.at_, .int .i64 p.code], .agg #[.int .i64 q.at_, .int .i64 q.code]] (grow (wr.drewN n) os) fun e w' => e = .returned (.int .i64 (cmpV p.at_ q.at_)) ∧ ∃ g : GrownBy, w' = grow (wr.drewN g.n) g.os := fun n os => Calls.grown_of (ydoc1_grown p q _)
      clear x0 x1 y0 y1
      by_cases hlv : p.at_ < q.at_
      · have hcv : cmpV p.at_ q.at_ < 0 := (cmp_lt _ _).2 hlv
        have hcd : decide (cmpV p.at_ q.at_ < 0) = true := decide_eq_true hcv
        have HB2 := Lib.hid (HB.out.up hih hhj (show ky P h < ky P a1 by rw [HKP.out, HKQ.out]; exact hlv))
        clear hlv
        generalize cmpV p.at_ q.at_ = cv at hcv hcd hcg
        go_wp2_with (fail)
        go_quiet_grown (first | (go_at_fn 39; exact hcg _ _))
        go_wp2_with (fail)
        go_roundw
        case rel => exact ⟨h + 1, j, by go_num, rfl, HB2.out, HO.out.trans (Only.gr wr nq osq), HR.out.only (S := fun _ => False) (Only.gr wr nq osq) (fun h => h)⟩
        case measure => simp [intOf] <;> omega
      · have hcv : ¬ cmpV p.at_ q.at_ < 0 := fun e => hlv ((cmp_lt _ _).1 e)
        have hcd : decide (cmpV p.at_ q.at_ < 0) = false := decide_eq_false hcv
        have HB2 := Lib.hid (HB.out.down hih hhj (show ¬ ky P h < ky P a1 by rw [HKP.out, HKQ.out]; exact hlv))
        clear hlv
        generalize cmpV p.at_ q.at_ = cv at hcv hcd hcg
        go_wp2_with (fail)
        go_quiet_grown (first | (go_at_fn 39; exact hcg _ _))
        go_wp2_with (fail)
        go_roundw
        case rel => exact ⟨i, h, rfl, rfl, HB2.out, HO.out.trans (Only.gr wr nq osq), HR.out.only (S := fun _ => False) (Only.gr wr nq osq) (fun h => h)⟩
        case measure => simp [intOf] <;> omega
    · obtain rfl : i = j := by omega
      have HRT := Lib.hid (rot_id (P := P) (a := a1) (m := a1 + 1) (b := a1 + 1) (.inr rfl))
      have HO1 := HO
      go_wp2_with (fail)
      go_loopw [13] (fun s wr => ∃ (k : Nat) (Q : List Prob), a1 ≤ k ∧ k + 1 ≤ i ∧ s = .int .i64 k ∧ Hid (Only (· = b) w wr) ∧ Hid (PRow wr b z Q) ∧ Hid (Q.Perm P) ∧ Hid (IsRot P Q a1 (a1 + 1) (k + 1))) (fun s _ => i - (intOf s).toNat)
      case atStart => exact ⟨a1, P, Nat.le_refl _, by omega, rfl, HO.out, HR.out, List.Perm.refl _, HRT.out⟩
      case round =>
        obtain ⟨k, Q, hak, hki, rfl, HO2, HQ, HP, HS⟩ := hrel
        have HL := Lib.hid (HP.out.length_eq)
        by_cases hk : k + 1 < i
        · obtain ⟨p, hp⟩ : ∃ p, Q[k]? = some p := ⟨_, List.getElem?_eq_getElem (by have := HM.out; have := HL.out; omega)⟩
          obtain ⟨q, hq⟩ : ∃ p, Q[k + 1]? = some p := ⟨_, List.getElem?_eq_getElem (by have := HM.out; have := HL.out; omega)⟩
          obtain ⟨x0, x1⟩ := HQ.out.cell hp
          obtain ⟨y0, y1⟩ := HQ.out.cell hq
          have fz := HQ.out.frozen
          have hbl2 := HQ.out.lt
          have HPQ := Lib.hid (HQ.out.exch hp hq)
          have HS2 := Lib.hid (rot_up HS.out hak (by have := HM.out; omega) HP.out)
          have HP2 := Lib.hid ((exch_perm (P := Q) (i := k) (j := k + 1) (by have := HM.out; have := HL.out; omega) (by have := HM.out; have := HL.out; omega)).trans HP.out)
          have hk1 : (k : Int) < (i : Int) - 1 := by omega
          have jz : (k : Int) + 1 < (m : Int) := by omega
          have jz1 : (k : Int) < (m : Int) := by omega
          have p0 : (0 : Int) ≤ (k : Int) + 1 := by omega
          have e0 : ((k : Int) + 1).toNat = k + 1 := by omega
          clear hp hq
          go_wp2_with (fail)
          go_big_region_o
          all_goals go_wp2_with (fail)
          go_roundw
          case rel => exact ⟨k + 1, exch Q k (k + 1), by omega, by omega, by go_num, HO2.out.trans (((Only.put wr _ _).trans (Only.put _ _ _)).trans (Only.dr _)), HPQ.out.only (S := fun _ => False) (Only.dr _) (fun h => h), HP2.out, HS2.out⟩
          case measure => simp [intOf] <;> omega
        · have hk1 : ¬ (k : Int) < (i : Int) - 1 := by omega
          have HS2 : Hid (Merged P Q a1 (a1 + 1) b1) := merge_first h1 hi hj (by have := HS.out; rw [show k + 1 = i by omega] at this; exact this) HP.out (HB.out.l.imp id fun e => by omega) (HB.out.u.imp id fun e => by omega)
          go_wp2
          (try simp only [Exit.inBlock, Exit.then]); refine bodyPost_ret (results_none rfl _ _ _) rfl ?_
          exact ⟨rfl, HO2.out, Q, HQ.out, HS2.out⟩
set_option maxHeartbeats 4000000 in
set_option maxRecDepth 100000 in
theorem ysym_last (b z a1 m1 m c : Nat) (P : List Prob) (w : World) (h : PRow w b z P) (hm : m = P.length) (hc : m ≤ 100000) (h1 : a1 + 1 < m1) (hb : m1 + 1 ≤ m) : SymC b z m c P w a1 m1 (m1 + 1) := by
  unfold SymC
  have HH := Lib.hid h
  have HM := Lib.hid hm
  have hmix := hmixP
  have eg : ∀ args w, (callFunc 39 args).run Tryz.prog w = .ok (.enter 39 args) w := enters_of Tryz.func39 (by kernel_rfl) rfl
  clear h hm
  have n1 : ¬ (m1 : Int) - (a1 : Int) = 1 := by omega
  go_enter Tryz.func99, Tryz.ntmps99
  go_wp2_with (fail)
  go_loopw [14, 15] (fun s t wr => BsV w wr b z P a1 m1 (fun x => ¬ ky P m1 < ky P x) (fun x => ky P m1 < ky P x) s t) (fun s t _ => (intOf t).toNat - (intOf s).toNat)
  case atStart => exact ⟨a1, m1, rfl, rfl, Bs.start (by omega) _ _, Only.refl _ _, HH.out⟩
  case round =>
    obtain ⟨i, j, rfl, rfl, HB, HO, HR⟩ := hrel
    have hi := HB.out.lo_
    have hij := HB.out.ij
    have hj := HB.out.hi_
    have hbl := HR.out.lt
    by_cases hlt : i < j
    · obtain ⟨h, hh⟩ : ∃ h, h = (i + j) / 2 := ⟨_, rfl⟩
      have eh : ((i : Int) + (j : Int)) / 2 = (h : Int) := by omega
      have hih : i ≤ h := by omega
      have hhj : h < j := by omega
      have hhm : (h : Int) < (m : Int) := by omega
      have ham : (m1 : Int) < (m : Int) := by omega
      clear hh
      obtain ⟨p, hp⟩ : ∃ p, P[m1]? = some p := ⟨_, List.getElem?_eq_getElem (by have := HM.out; omega)⟩
      obtain ⟨q, hq⟩ : ∃ p, P[h]? = some p := ⟨_, List.getElem?_eq_getElem (by have := HM.out; omega)⟩
      obtain ⟨x0, x1⟩ := HR.out.cell hp
      obtain ⟨y0, y1⟩ := HR.out.cell hq
      have HKP := Lib.hid (show ky P (m1) = p.at_ by unfold ky; rw [hp])
      have HKQ := Lib.hid (show ky P (h) = q.at_ by unfold ky; rw [hq])
      clear hp hq
      have X0 := cell_grown hbl x0
      have X1 := cell_grown hbl x1
      have Y0 := cell_grown hbl y0
      have Y1 := cell_grown hbl y1
      have hcg : ∀ n os, Calls Tryz.prog 39 #[.agg #[.int .i64 p.at_, .int .i64 p.code], .agg #[.int .i64 q.at_, .int .i64 q.code]] (grow (wr.drewN n) os) fun e w' => e = .returned (.int .i64 (cmpV p.at_ q.at_)) ∧ ∃ g : GrownBy, w' = grow (wr.drewN g.n) g.os := fun n os => Calls.grown_of (ydoc1_grown p q _)
      clear x0 x1 y0 y1
      by_cases hlv : p.at_ < q.at_
      · have hcv : cmpV p.at_ q.at_ < 0 := (cmp_lt _ _).2 hlv
        have hcd : decide (cmpV p.at_ q.at_ < 0) = true := decide_eq_true hcv
        have HB2 := Lib.hid (HB.out.down hih hhj (show ky P m1 < ky P h by rw [HKP.out, HKQ.out]; exact hlv))
        clear hlv
        generalize cmpV p.at_ q.at_ = cv at hcv hcd hcg
        go_wp2_with (fail)
        go_quiet_grown (first | (go_at_fn 39; exact hcg _ _))
        go_wp2_with (fail)
        go_roundw
        case rel => exact ⟨i, h, rfl, rfl, HB2.out, HO.out.trans (Only.gr wr nq osq), HR.out.only (S := fun _ => False) (Only.gr wr nq osq) (fun h => h)⟩
        case measure => simp [intOf] <;> omega
      · have hcv : ¬ cmpV p.at_ q.at_ < 0 := fun e => hlv ((cmp_lt _ _).1 e)
        have hcd : decide (cmpV p.at_ q.at_ < 0) = false := decide_eq_false hcv
        have HB2 := Lib.hid (HB.out.up hih hhj (show ¬ ky P m1 < ky P h by rw [HKP.out, HKQ.out]; exact hlv))
        clear hlv
        generalize cmpV p.at_ q.at_ = cv at hcv hcd hcg
        go_wp2_with (fail)
        go_quiet_grown (first | (go_at_fn 39; exact hcg _ _))
        go_wp2_with (fail)
        go_roundw
        case rel => exact ⟨h + 1, j, by go_num, rfl, HB2.out, HO.out.trans (Only.gr wr nq osq), HR.out.only (S := fun _ => False) (Only.gr wr nq osq) (fun h => h)⟩
        case measure => simp [intOf] <;> omega
    · obtain rfl : i = j := by omega
      have HRT := Lib.hid (rot_id (P := P) (a := m1) (m := m1) (b := m1 + 1) (.inl rfl))
      go_wp2_with (fail)
      go_loopw [17] (fun s wr => ∃ (k : Nat) (Q : List Prob), i ≤ k ∧ k ≤ m1 ∧ s = .int .i64 k ∧ Hid (Only (· = b) w wr) ∧ Hid (PRow wr b z Q) ∧ Hid (Q.Perm P) ∧ Hid (IsRot P Q k m1 (m1 + 1))) (fun s _ => (intOf s).toNat)
      case atStart => exact ⟨m1, P, hj, Nat.le_refl _, rfl, HO.out, HR.out, List.Perm.refl _, HRT.out⟩
      case round =>
        obtain ⟨k, Q, hik, hkm, rfl, HO2, HQ, HP, HS⟩ := hrel
        have HL := Lib.hid (HP.out.length_eq)
        by_cases hk : i < k
        · obtain ⟨k, rfl⟩ : ∃ x, k = x + 1 := ⟨k - 1, by omega⟩
          obtain ⟨p, hp⟩ : ∃ p, Q[k + 1]? = some p := ⟨_, List.getElem?_eq_getElem (by have := HM.out; have := HL.out; omega)⟩
          obtain ⟨q, hq⟩ : ∃ p, Q[k]? = some p := ⟨_, List.getElem?_eq_getElem (by have := HM.out; have := HL.out; omega)⟩
          obtain ⟨x0, x1⟩ := HQ.out.cell hp
          obtain ⟨y0, y1⟩ := HQ.out.cell hq
          have fz := HQ.out.frozen
          have hbl2 := HQ.out.lt
          have HPQ := Lib.hid (HQ.out.exch hp hq)
          have HS2 := Lib.hid (rot_down HS.out hkm (by have := HM.out; omega) HP.out)
          have HP2 := Lib.hid ((exch_perm (P := Q) (i := k + 1) (j := k) (by have := HM.out; have := HL.out; omega) (by have := HM.out; have := HL.out; omega)).trans HP.out)
          have hwp : IntKind.i64.wrap (k : Int) = (k : Int) := by rw [IntKind.wrap_i64]; omega
          have hk1 : (i : Int) < (k : Int) + 1 := by omega
          have jz : (k : Int) + 1 < (m : Int) := by omega
          have jz1 : (k : Int) < (m : Int) := by omega
          have p0 : (0 : Int) ≤ (k : Int) + 1 := by omega
          have e0 : ((k : Int) + 1).toNat = k + 1 := by omega
          clear hp hq
          go_wp2_with (fail)
          go_big_region_o
          all_goals go_wp2_with (fail)
          go_roundw
          case rel => exact ⟨k, exch Q (k + 1) k, by omega, by omega, by go_num, HO2.out.trans (((Only.put wr _ _).trans (Only.put _ _ _)).trans (Only.dr _)), HPQ.out.only (S := fun _ => False) (Only.dr _) (fun h => h), HP2.out, HS2.out⟩
          case measure => simp [intOf] <;> omega
        · obtain rfl : k = i := by omega
          have HS2 : Hid (Merged P Q a1 m1 (m1 + 1)) := merge_last (by omega) hi hj HS.out HP.out (HB.out.l.imp id fun e => by omega) (HB.out.u.imp id fun e => by omega)
          go_wp2
          (try simp only [Exit.inBlock, Exit.then]); refine bodyPost_ret (results_none rfl _ _ _) rfl ?_
          exact ⟨rfl, HO2.out, Q, HQ.out, HS2.out⟩
set_option maxHeartbeats 4000000 in
set_option maxRecDepth 100000 in
theorem ysym_midA (b z a1 m1 b1 md m c : Nat) (P : List Prob) (w : World) (h : PRow w b z P) (hm : m = P.length) (hc : m ≤ 100000) (h1 : a1 + 1 < m1) (h2 : m1 + 1 < b1) (hb : b1 ≤ m) (hmd : md = (a1 + b1) / 2) (hV : md < m1)
    (ih : ∀ (a' m' b' : Nat) (P' : List Prob) (w' : World), b' - a' < b1 - a1 → PRow w' b z P' → m = P'.length → a' < m' → m' < b' → b' ≤ m → SymC b z m c P' w' a' m' b') : SymC b z m c P w a1 m1 b1 := by
  unfold SymC at *
  have HH := Lib.hid h
  have HM := Lib.hid hm
  have hmix := hmixP
  have eg : ∀ args w, (callFunc 39 args).run Tryz.prog w = .ok (.enter 39 args) w := enters_of Tryz.func39 (by kernel_rfl) rfl
  have IH := Lib.hid ih
  have emd : ((a1 : Int) + (b1 : Int)) / 2 = (md : Int) := by omega
  have d1 : a1 < md := by omega
  have d2 : md < b1 := by omega
  have d3 : 2 * md ≤ a1 + b1 := by omega
  have d4 : a1 + b1 ≤ 2 * md + 1 := by omega
  have n1 : ¬ (m1 : Int) - (a1 : Int) = 1 := by omega
  have n2 : ¬ (b1 : Int) - (m1 : Int) = 1 := by omega
  obtain ⟨pp, hpp⟩ : ∃ x, x = md + m1 - 1 := ⟨_, rfl⟩
  have epp : (md : Int) + (m1 : Int) - 1 = (pp : Int) := by omega
  obtain ⟨lo, hlo⟩ : ∃ x, x = md + m1 - b1 := ⟨_, rfl⟩
  have elo : (md : Int) + (m1 : Int) - (b1 : Int) = (lo : Int) := by omega
  have HLO := Lib.hid hlo
  have HPPh := Lib.hid hpp
  clear h hm ih hmd hpp hlo
  go_enter Tryz.func99, Tryz.ntmps99
  go_wp2_with (fail)
  go_loopw [20, 21] (fun s t wr => BsV w wr b z P lo md (fun x => ¬ ky P (pp - x) < ky P x) (fun x => ky P (pp - x) < ky P x) s t) (fun s t _ => (intOf t).toNat - (intOf s).toNat)
  case atStart => exact ⟨lo, md, rfl, rfl, Bs.start (by have := HLO.out; omega) _ _, Only.refl _ _, HH.out⟩
  case round =>
    obtain ⟨i, j, rfl, rfl, HB, HO, HR⟩ := hrel
    have hi := HB.out.lo_
    have hij := HB.out.ij
    have hj := HB.out.hi_
    have hbl := HR.out.lt
    by_cases hlt : i < j
    · obtain ⟨h, hh⟩ : ∃ h, h = (i + j) / 2 := ⟨_, rfl⟩
      obtain ⟨g, hg⟩ : ∃ x, x = pp - h := ⟨_, rfl⟩
      have eh : ((i : Int) + (j : Int)) / 2 = (h : Int) := by omega
      have hih : i ≤ h := by omega
      have hhj : h < j := by omega
      have egh : (pp : Int) - (h : Int) = (g : Int) := by have := HPPh.out; omega
      have hgm : (g : Int) < (m : Int) := by have := HPPh.out; have := HLO.out; omega
      have hhm : (h : Int) < (m : Int) := by omega
      have HG := Lib.hid hg
      have hwg : IntKind.i64.wrap (g : Int) = (g : Int) := by rw [IntKind.wrap_i64]; omega
      clear hh hg
      obtain ⟨p, hp⟩ : ∃ p, P[g]? = some p := ⟨_, List.getElem?_eq_getElem (by have := HM.out; omega)⟩
      obtain ⟨q, hq⟩ : ∃ p, P[h]? = some p := ⟨_, List.getElem?_eq_getElem (by have := HM.out; omega)⟩
      obtain ⟨x0, x1⟩ := HR.out.cell hp
      obtain ⟨y0, y1⟩ := HR.out.cell hq
      have HKP := Lib.hid (show ky P (g) = p.at_ by unfold ky; rw [hp])
      have HKQ := Lib.hid (show ky P (h) = q.at_ by unfold ky; rw [hq])
      clear hp hq
      have X0 := cell_grown hbl x0
      have X1 := cell_grown hbl x1
      have Y0 := cell_grown hbl y0
      have Y1 := cell_grown hbl y1
      have hcg : ∀ n os, Calls Tryz.prog 39 #[.agg #[.int .i64 p.at_, .int .i64 p.code], .agg #[.int .i64 q.at_, .int .i64 q.code]] (grow (wr.drewN n) os) fun e w' => e = .returned (.int .i64 (cmpV p.at_ q.at_)) ∧ ∃ g : GrownBy, w' = grow (wr.drewN g.n) g.os := fun n os => Calls.grown_of (ydoc1_grown p q _)
      clear x0 x1 y0 y1
      by_cases hlv : p.at_ < q.at_
      · have hcv : cmpV p.at_ q.at_ < 0 := (cmp_lt _ _).2 hlv
        have hcd : decide (cmpV p.at_ q.at_ < 0) = true := decide_eq_true hcv
        have HB2 := Lib.hid (HB.out.down hih hhj (show ky P (pp - h) < ky P h by rw [← HG.out, HKP.out, HKQ.out]; exact hlv))
        clear hlv
        generalize cmpV p.at_ q.at_ = cv at hcv hcd hcg
        go_wp2_with (fail)
        go_quiet_grown (first | (go_at_fn 39; exact hcg _ _))
        go_wp2_with (fail)
        go_roundw
        case rel => exact ⟨i, h, rfl, rfl, HB2.out, HO.out.trans (Only.gr wr nq osq), HR.out.only (S := fun _ => False) (Only.gr wr nq osq) (fun h => h)⟩
        case measure => simp [intOf] <;> omega
      · have hcv : ¬ cmpV p.at_ q.at_ < 0 := fun e => hlv ((cmp_lt _ _).1 e)
        have hcd : decide (cmpV p.at_ q.at_ < 0) = false := decide_eq_false hcv
        have HB2 := Lib.hid (HB.out.up hih hhj (show ¬ ky P (pp - h) < ky P h by rw [← HG.out, HKP.out, HKQ.out]; exact hlv))
        clear hlv
        generalize cmpV p.at_ q.at_ = cv at hcv hcd hcg
        go_wp2_with (fail)
        go_quiet_grown (first | (go_at_fn 39; exact hcg _ _))
        go_wp2_with (fail)
        go_roundw
        case rel => exact ⟨h + 1, j, by go_num, rfl, HB2.out, HO.out.trans (Only.gr wr nq osq), HR.out.only (S := fun _ => False) (Only.gr wr nq osq) (fun h => h)⟩
        case measure => simp [intOf] <;> omega
    · obtain rfl : i = j := by omega
      obtain ⟨en, hen⟩ : ∃ x, x = md + m1 - i := ⟨_, rfl⟩
      have een : (md : Int) + (m1 : Int) - (i : Int) = (en : Int) := by omega
      have g1 : a1 ≤ i := by have := HLO.out; omega
      have g2 : i ≤ m1 := by omega
      have g3 : m1 ≤ en := by omega
      have g4 : en ≤ b1 := by have := HLO.out; omega
      have g5 : i ≤ md := by omega
      have g6 : md ≤ en := by omega
      have HSE := Lib.hid (show i + en = md + m1 by omega)
      have HL := Lib.hid (show i = a1 ∨ en = b1 ∨ ky P (i - 1) ≤ ky P en by
        rcases HB.out.l with e | e
        · exact .inr (.inl (by have := HLO.out; omega))
        · by_cases hz : i = a1
          · exact .inl hz
          · rw [show pp - (i - 1) = en by have := HPPh.out; omega] at e
            exact .inr (.inr (by omega)))
      have HU := Lib.hid (show i = m1 ∨ en = m1 ∨ ky P (en - 1) < ky P i by
        rcases HB.out.u with e | e
        · exact .inr (.inl (by omega))
        · rw [show pp - i = en - 1 by have := HPPh.out; omega] at e
          exact .inr (.inr e))
      clear hen hlt
      by_cases c1 : i < md
      · have t1 : md < en := by have := HSE.out; omega
        have l2 : i < md := by omega
        have r1 : i < m1 := by have := HSE.out; omega
        have r2 : m1 < en := by have := HSE.out; omega
        have r3 : en ≤ m := by omega
        have l0 : md - a1 < b1 - a1 := by omega
        have l3 : md ≤ m := by omega
        have t0 : b1 - md < b1 - a1 := by omega
        by_cases l1 : a1 < i
        · by_cases t2 : en < b1
          · skip
            go_wp2_with (fail)
            refine (yrot_any b z i m1 en m c _ P wr HR.out HM.out hc r1 r2 r3).mono ?_
            rintro e w2 ⟨rfl, ho, R, hr, hp, hs⟩
            have HO2 := Lib.hid (HO.out.trans ho)
            have HR2 := Lib.hid hr
            have HRP := Lib.hid hp
            have HRS := Lib.hid hs
            have HL2 := Lib.hid (show m = R.length by rw [hp.length_eq]; exact HM.out)
            clear ho hr hp hs
            go_wp2_with (fail)
            refine (IH.out a1 i md R w2 l0 HR2.out HL2.out l1 l2 l3).mono ?_
            rintro e w3 ⟨rfl, ho, R1, hr, hs⟩
            have HO3 := Lib.hid (HO2.out.trans ho)
            have HR3 := Lib.hid hr
            have HM3 := Lib.hid hs
            have HL3 := Lib.hid (show m = R1.length by rw [hs.1.len]; exact HL2.out)
            clear ho hr hs
            go_wp2_with (fail)
            refine (IH.out md en b1 R1 w3 t0 HR3.out HL3.out t1 t2 hb).mono ?_
            rintro e w4 ⟨rfl, ho, R2, hr, hs⟩
            have HO4 := Lib.hid (HO3.out.trans ho)
            have HR4 := Lib.hid hr
            have HM4 := Lib.hid hs
            clear ho hr hs
            go_wp2
            go_end0
            exact ⟨rfl, HO4.out, R2, HR4.out, merge_halves (R1 := R1) g1 g2 g3 g4 g5 g6 HSE.out HL.out HU.out HRS.out HRP.out (.inl ⟨l1, l2, HM3.out⟩) (.inl ⟨t1, t2, HM4.out⟩)⟩
          · skip
            go_wp2_with (fail)
            refine (yrot_any b z i m1 en m c _ P wr HR.out HM.out hc r1 r2 r3).mono ?_
            rintro e w2 ⟨rfl, ho, R, hr, hp, hs⟩
            have HO2 := Lib.hid (HO.out.trans ho)
            have HR2 := Lib.hid hr
            have HRP := Lib.hid hp
            have HRS := Lib.hid hs
            have HL2 := Lib.hid (show m = R.length by rw [hp.length_eq]; exact HM.out)
            clear ho hr hp hs
            go_wp2_with (fail)
            refine (IH.out a1 i md R w2 l0 HR2.out HL2.out l1 l2 l3).mono ?_
            rintro e w3 ⟨rfl, ho, R1, hr, hs⟩
            have HO3 := Lib.hid (HO2.out.trans ho)
            have HR3 := Lib.hid hr
            have HM3 := Lib.hid hs
            have HL3 := Lib.hid (show m = R1.length by rw [hs.1.len]; exact HL2.out)
            clear ho hr hs
            go_wp2
            go_end0
            exact ⟨rfl, HO3.out, R1, HR3.out, merge_halves (R1 := R1) g1 g2 g3 g4 g5 g6 HSE.out HL.out HU.out HRS.out HRP.out (.inl ⟨l1, l2, HM3.out⟩) (.inr ⟨by omega, rfl⟩)⟩
        · by_cases t2 : en < b1
          · skip
            go_wp2_with (fail)
            refine (yrot_any b z i m1 en m c _ P wr HR.out HM.out hc r1 r2 r3).mono ?_
            rintro e w2 ⟨rfl, ho, R, hr, hp, hs⟩
            have HO2 := Lib.hid (HO.out.trans ho)
            have HR2 := Lib.hid hr
            have HRP := Lib.hid hp
            have HRS := Lib.hid hs
            have HL2 := Lib.hid (show m = R.length by rw [hp.length_eq]; exact HM.out)
            clear ho hr hp hs
            go_wp2_with (fail)
            refine (IH.out md en b1 R w2 t0 HR2.out HL2.out t1 t2 hb).mono ?_
            rintro e w4 ⟨rfl, ho, R2, hr, hs⟩
            have HO4 := Lib.hid (HO2.out.trans ho)
            have HR4 := Lib.hid hr
            have HM4 := Lib.hid hs
            clear ho hr hs
            go_wp2
            go_end0
            exact ⟨rfl, HO4.out, R2, HR4.out, merge_halves (R1 := R) g1 g2 g3 g4 g5 g6 HSE.out HL.out HU.out HRS.out HRP.out (.inr ⟨by omega, rfl⟩) (.inl ⟨t1, t2, HM4.out⟩)⟩
          · skip
            go_wp2_with (fail)
            refine (yrot_any b z i m1 en m c _ P wr HR.out HM.out hc r1 r2 r3).mono ?_
            rintro e w2 ⟨rfl, ho, R, hr, hp, hs⟩
            have HO2 := Lib.hid (HO.out.trans ho)
            have HR2 := Lib.hid hr
            have HRP := Lib.hid hp
            have HRS := Lib.hid hs
            have HL2 := Lib.hid (show m = R.length by rw [hp.length_eq]; exact HM.out)
            clear ho hr hp hs
            go_wp2
            go_end0
            exact ⟨rfl, HO2.out, R, HR2.out, merge_halves (R1 := R) g1 g2 g3 g4 g5 g6 HSE.out HL.out HU.out HRS.out HRP.out (.inr ⟨by omega, rfl⟩) (.inr ⟨by omega, rfl⟩)⟩
      · have EC := Lib.hid (show i = md by omega)
        have RID := Lib.hid (show i = m1 ∨ m1 = en from .inr (by have := HSE.out; have := EC.out; omega))
        have nr : ¬ m1 < en := by have := HSE.out; have := EC.out; omega
        have t1 : md < en := by have := HSE.out; have := EC.out; omega
        have t2 : en < b1 := by have := HSE.out; have := EC.out; omega
        have nl : ¬ i < md := by have := EC.out; omega
        have t0 : b1 - md < b1 - a1 := by omega
        go_wp2_with (fail)
        have HRP := Lib.hid (List.Perm.refl P)
        have HRS := Lib.hid (rot_id (P := P) (a := i) (m := m1) (b := en) RID.out)
        refine (IH.out md en b1 P wr t0 HR.out HM.out t1 t2 hb).mono ?_
        rintro e w4 ⟨rfl, ho, R2, hr, hs⟩
        have HO4 := Lib.hid (HO.out.trans ho)
        have HR4 := Lib.hid hr
        have HM4 := Lib.hid hs
        clear ho hr hs
        go_wp2
        go_end0
        exact ⟨rfl, HO4.out, R2, HR4.out, merge_halves (R1 := P) g1 g2 g3 g4 g5 g6 HSE.out HL.out HU.out HRS.out HRP.out (.inr ⟨by omega, rfl⟩) (.inl ⟨t1, t2, HM4.out⟩)⟩
set_option maxHeartbeats 4000000 in
set_option maxRecDepth 100000 in
theorem ysym_midB (b z a1 m1 b1 md m c : Nat) (P : List Prob) (w : World) (h : PRow w b z P) (hm : m = P.length) (hc : m ≤ 100000) (h1 : a1 + 1 < m1) (h2 : m1 + 1 < b1) (hb : b1 ≤ m) (hmd : md = (a1 + b1) / 2) (hV : m1 ≤ md)
    (ih : ∀ (a' m' b' : Nat) (P' : List Prob) (w' : World), b' - a' < b1 - a1 → PRow w' b z P' → m = P'.length → a' < m' → m' < b' → b' ≤ m → SymC b z m c P' w' a' m' b') : SymC b z m c P w a1 m1 b1 := by
  unfold SymC at *
  have HH := Lib.hid h
  have HM := Lib.hid hm
  have hmix := hmixP
  have eg : ∀ args w, (callFunc 39 args).run Tryz.prog w = .ok (.enter 39 args) w := enters_of Tryz.func39 (by kernel_rfl) rfl
  have IH := Lib.hid ih
  have emd : ((a1 : Int) + (b1 : Int)) / 2 = (md : Int) := by omega
  have d1 : a1 < md := by omega
  have d2 : md < b1 := by omega
  have d3 : 2 * md ≤ a1 + b1 := by omega
  have d4 : a1 + b1 ≤ 2 * md + 1 := by omega
  have n1 : ¬ (m1 : Int) - (a1 : Int) = 1 := by omega
  have n2 : ¬ (b1 : Int) - (m1 : Int) = 1 := by omega
  obtain ⟨pp, hpp⟩ : ∃ x, x = md + m1 - 1 := ⟨_, rfl⟩
  have epp : (md : Int) + (m1 : Int) - 1 = (pp : Int) := by omega
  have HPPh := Lib.hid hpp
  clear h hm ih hmd hpp
  go_enter Tryz.func99, Tryz.ntmps99
  go_wp2_with (fail)
  go_loopw [20, 21] (fun s t wr => BsV w wr b z P a1 m1 (fun x => ¬ ky P (pp - x) < ky P x) (fun x => ky P (pp - x) < ky P x) s t) (fun s t _ => (intOf t).toNat - (intOf s).toNat)
  case atStart => exact ⟨a1, m1, rfl, rfl, Bs.start (by omega) _ _, Only.refl _ _, HH.out⟩
  case round =>
    obtain ⟨i, j, rfl, rfl, HB, HO, HR⟩ := hrel
    have hi := HB.out.lo_
    have hij := HB.out.ij
    have hj := HB.out.hi_
    have hbl := HR.out.lt
    by_cases hlt : i < j
    · obtain ⟨h, hh⟩ : ∃ h, h = (i + j) / 2 := ⟨_, rfl⟩
      obtain ⟨g, hg⟩ : ∃ x, x = pp - h := ⟨_, rfl⟩
      have eh : ((i : Int) + (j : Int)) / 2 = (h : Int) := by omega
      have hih : i ≤ h := by omega
      have hhj : h < j := by omega
      have egh : (pp : Int) - (h : Int) = (g : Int) := by have := HPPh.out; omega
      have hgm : (g : Int) < (m : Int) := by have := HPPh.out; omega
      have hhm : (h : Int) < (m : Int) := by omega
      have HG := Lib.hid hg
      have hwg : IntKind.i64.wrap (g : Int) = (g : Int) := by rw [IntKind.wrap_i64]; omega
      clear hh hg
      obtain ⟨p, hp⟩ : ∃ p, P[g]? = some p := ⟨_, List.getElem?_eq_getElem (by have := HM.out; omega)⟩
      obtain ⟨q, hq⟩ : ∃ p, P[h]? = some p := ⟨_, List.getElem?_eq_getElem (by have := HM.out; omega)⟩
      obtain ⟨x0, x1⟩ := HR.out.cell hp
      obtain ⟨y0, y1⟩ := HR.out.cell hq
      have HKP := Lib.hid (show ky P (g) = p.at_ by unfold ky; rw [hp])
      have HKQ := Lib.hid (show ky P (h) = q.at_ by unfold ky; rw [hq])
      clear hp hq
      have X0 := cell_grown hbl x0
      have X1 := cell_grown hbl x1
      have Y0 := cell_grown hbl y0
      have Y1 := cell_grown hbl y1
      have hcg : ∀ n os, Calls Tryz.prog 39 #[.agg #[.int .i64 p.at_, .int .i64 p.code], .agg #[.int .i64 q.at_, .int .i64 q.code]] (grow (wr.drewN n) os) fun e w' => e = .returned (.int .i64 (cmpV p.at_ q.at_)) ∧ ∃ g : GrownBy, w' = grow (wr.drewN g.n) g.os := fun n os => Calls.grown_of (ydoc1_grown p q _)
      clear x0 x1 y0 y1
      by_cases hlv : p.at_ < q.at_
      · have hcv : cmpV p.at_ q.at_ < 0 := (cmp_lt _ _).2 hlv
        have hcd : decide (cmpV p.at_ q.at_ < 0) = true := decide_eq_true hcv
        have HB2 := Lib.hid (HB.out.down hih hhj (show ky P (pp - h) < ky P h by rw [← HG.out, HKP.out, HKQ.out]; exact hlv))
        clear hlv
        generalize cmpV p.at_ q.at_ = cv at hcv hcd hcg
        go_wp2_with (fail)
        go_quiet_grown (first | (go_at_fn 39; exact hcg _ _))
        go_wp2_with (fail)
        go_roundw
        case rel => exact ⟨i, h, rfl, rfl, HB2.out, HO.out.trans (Only.gr wr nq osq), HR.out.only (S := fun _ => False) (Only.gr wr nq osq) (fun h => h)⟩
        case measure => simp [intOf] <;> omega
      · have hcv : ¬ cmpV p.at_ q.at_ < 0 := fun e => hlv ((cmp_lt _ _).1 e)
        have hcd : decide (cmpV p.at_ q.at_ < 0) = false := decide_eq_false hcv
        have HB2 := Lib.hid (HB.out.up hih hhj (show ¬ ky P (pp - h) < ky P h by rw [← HG.out, HKP.out, HKQ.out]; exact hlv))
        clear hlv
        generalize cmpV p.at_ q.at_ = cv at hcv hcd hcg
        go_wp2_with (fail)
        go_quiet_grown (first | (go_at_fn 39; exact hcg _ _))
        go_wp2_with (fail)
        go_roundw
        case rel => exact ⟨h + 1, j, by go_num, rfl, HB2.out, HO.out.trans (Only.gr wr nq osq), HR.out.only (S := fun _ => False) (Only.gr wr nq osq) (fun h => h)⟩
        case measure => simp [intOf] <;> omega
    · obtain rfl : i = j := by omega
      obtain ⟨en, hen⟩ : ∃ x, x = md + m1 - i := ⟨_, rfl⟩
      have een : (md : Int) + (m1 : Int) - (i : Int) = (en : Int) := by omega
      have g1 : a1 ≤ i := by omega
      have g2 : i ≤ m1 := by omega
      have g3 : m1 ≤ en := by omega
      have g4 : en ≤ b1 := by omega
      have g5 : i ≤ md := by omega
      have g6 : md ≤ en := by omega
      have HSE := Lib.hid (show i + en = md + m1 by omega)
      have HL := Lib.hid (show i = a1 ∨ en = b1 ∨ ky P (i - 1) ≤ ky P en by
        rcases HB.out.l with e | e
        · exact .inl e
        · by_cases hz : i = a1
          · exact .inl hz
          · rw [show pp - (i - 1) = en by have := HPPh.out; omega] at e
            exact .inr (.inr (by omega)))
      have HU := Lib.hid (show i = m1 ∨ en = m1 ∨ ky P (en - 1) < ky P i by
        rcases HB.out.u with e | e
        · exact .inl e
        · rw [show pp - i = en - 1 by have := HPPh.out; omega] at e
          exact .inr (.inr e))
      clear hen hlt
      by_cases c1 : i < m1
      · have t1 : md < en := by have := HSE.out; omega
        have l2 : i < md := by omega
        have r1 : i < m1 := by have := HSE.out; omega
        have r2 : m1 < en := by have := HSE.out; omega
        have r3 : en ≤ m := by omega
        have l0 : md - a1 < b1 - a1 := by omega
        have l3 : md ≤ m := by omega
        have t0 : b1 - md < b1 - a1 := by omega
        by_cases l1 : a1 < i
        · by_cases t2 : en < b1
          · skip
            go_wp2_with (fail)
            refine (yrot_any b z i m1 en m c _ P wr HR.out HM.out hc r1 r2 r3).mono ?_
            rintro e w2 ⟨rfl, ho, R, hr, hp, hs⟩
            have HO2 := Lib.hid (HO.out.trans ho)
            have HR2 := Lib.hid hr
            have HRP := Lib.hid hp
            have HRS := Lib.hid hs
            have HL2 := Lib.hid (show m = R.length by rw [hp.length_eq]; exact HM.out)
            clear ho hr hp hs
            go_wp2_with (fail)
            refine (IH.out a1 i md R w2 l0 HR2.out HL2.out l1 l2 l3).mono ?_
            rintro e w3 ⟨rfl, ho, R1, hr, hs⟩
            have HO3 := Lib.hid (HO2.out.trans ho)
            have HR3 := Lib.hid hr
            have HM3 := Lib.hid hs
            have HL3 := Lib.hid (show m = R1.length by rw [hs.1.len]; exact HL2.out)
            clear ho hr hs
            go_wp2_with (fail)
            refine (IH.out md en b1 R1 w3 t0 HR3.out HL3.out t1 t2 hb).mono ?_
            rintro e w4 ⟨rfl, ho, R2, hr, hs⟩
            have HO4 := Lib.hid (HO3.out.trans ho)
            have HR4 := Lib.hid hr
            have HM4 := Lib.hid hs
            clear ho hr hs
            go_wp2
            go_end0
            exact ⟨rfl, HO4.out, R2, HR4.out, merge_halves (R1 := R1) g1 g2 g3 g4 g5 g6 HSE.out HL.out HU.out HRS.out HRP.out (.inl ⟨l1, l2, HM3.out⟩) (.inl ⟨t1, t2, HM4.out⟩)⟩
          · skip
            go_wp2_with (fail)
            refine (yrot_any b z i m1 en m c _ P wr HR.out HM.out hc r1 r2 r3).mono ?_
            rintro e w2 ⟨rfl, ho, R, hr, hp, hs⟩
            have HO2 := Lib.hid (HO.out.trans ho)
            have HR2 := Lib.hid hr
            have HRP := Lib.hid hp
            have HRS := Lib.hid hs
            have HL2 := Lib.hid (show m = R.length by rw [hp.length_eq]; exact HM.out)
            clear ho hr hp hs
            go_wp2_with (fail)
            refine (IH.out a1 i md R w2 l0 HR2.out HL2.out l1 l2 l3).mono ?_
            rintro e w3 ⟨rfl, ho, R1, hr, hs⟩
            have HO3 := Lib.hid (HO2.out.trans ho)
            have HR3 := Lib.hid hr
            have HM3 := Lib.hid hs
            have HL3 := Lib.hid (show m = R1.length by rw [hs.1.len]; exact HL2.out)
            clear ho hr hs
            go_wp2
            go_end0
            exact ⟨rfl, HO3.out, R1, HR3.out, merge_halves (R1 := R1) g1 g2 g3 g4 g5 g6 HSE.out HL.out HU.out HRS.out HRP.out (.inl ⟨l1, l2, HM3.out⟩) (.inr ⟨by omega, rfl⟩)⟩
        · by_cases t2 : en < b1
          · skip
            go_wp2_with (fail)
            refine (yrot_any b z i m1 en m c _ P wr HR.out HM.out hc r1 r2 r3).mono ?_
            rintro e w2 ⟨rfl, ho, R, hr, hp, hs⟩
            have HO2 := Lib.hid (HO.out.trans ho)
            have HR2 := Lib.hid hr
            have HRP := Lib.hid hp
            have HRS := Lib.hid hs
            have HL2 := Lib.hid (show m = R.length by rw [hp.length_eq]; exact HM.out)
            clear ho hr hp hs
            go_wp2_with (fail)
            refine (IH.out md en b1 R w2 t0 HR2.out HL2.out t1 t2 hb).mono ?_
            rintro e w4 ⟨rfl, ho, R2, hr, hs⟩
            have HO4 := Lib.hid (HO2.out.trans ho)
            have HR4 := Lib.hid hr
            have HM4 := Lib.hid hs
            clear ho hr hs
            go_wp2
            go_end0
            exact ⟨rfl, HO4.out, R2, HR4.out, merge_halves (R1 := R) g1 g2 g3 g4 g5 g6 HSE.out HL.out HU.out HRS.out HRP.out (.inr ⟨by omega, rfl⟩) (.inl ⟨t1, t2, HM4.out⟩)⟩
          · skip
            go_wp2_with (fail)
            refine (yrot_any b z i m1 en m c _ P wr HR.out HM.out hc r1 r2 r3).mono ?_
            rintro e w2 ⟨rfl, ho, R, hr, hp, hs⟩
            have HO2 := Lib.hid (HO.out.trans ho)
            have HR2 := Lib.hid hr
            have HRP := Lib.hid hp
            have HRS := Lib.hid hs
            have HL2 := Lib.hid (show m = R.length by rw [hp.length_eq]; exact HM.out)
            clear ho hr hp hs
            go_wp2
            go_end0
            exact ⟨rfl, HO2.out, R, HR2.out, merge_halves (R1 := R) g1 g2 g3 g4 g5 g6 HSE.out HL.out HU.out HRS.out HRP.out (.inr ⟨by omega, rfl⟩) (.inr ⟨by omega, rfl⟩)⟩
      · have EC := Lib.hid (show i = m1 by omega)
        have RID := Lib.hid (show i = m1 ∨ m1 = en from .inl EC.out)
        have l1 : a1 < i := by have := EC.out; omega
        have nt : ¬ md < en := by have := HSE.out; have := EC.out; omega
        have nr : ¬ i < m1 := by have := EC.out; omega
        have l0 : md - a1 < b1 - a1 := by omega
        have l3 : md ≤ m := by omega
        by_cases l2 : i < md
        · skip
          go_wp2_with (fail)
          have HRP := Lib.hid (List.Perm.refl P)
          have HRS := Lib.hid (rot_id (P := P) (a := i) (m := m1) (b := en) RID.out)
          refine (IH.out a1 i md P wr l0 HR.out HM.out l1 l2 l3).mono ?_
          rintro e w3 ⟨rfl, ho, R1, hr, hs⟩
          have HO3 := Lib.hid (HO.out.trans ho)
          have HR3 := Lib.hid hr
          have HM3 := Lib.hid hs
          have HL3 := Lib.hid (show m = R1.length by rw [hs.1.len]; exact HM.out)
          clear ho hr hs
          go_wp2
          go_end0
          exact ⟨rfl, HO3.out, R1, HR3.out, merge_halves (R1 := R1) g1 g2 g3 g4 g5 g6 HSE.out HL.out HU.out HRS.out HRP.out (.inl ⟨l1, l2, HM3.out⟩) (.inr ⟨by omega, rfl⟩)⟩
        · skip
          go_wp2_with (fail)
          have HRP := Lib.hid (List.Perm.refl P)
          have HRS := Lib.hid (rot_id (P := P) (a := i) (m := m1) (b := en) RID.out)
          go_end0
          exact ⟨rfl, HO.out, P, HR.out, merge_halves (R1 := P) g1 g2 g3 g4 g5 g6 HSE.out HL.out HU.out HRS.out HRP.out (.inr ⟨by omega, rfl⟩) (.inr ⟨by omega, rfl⟩)⟩
theorem ysym_any (b z m c : Nat) (hc : m ≤ 100000) : ∀ (f a1 m1 b1 : Nat) (P : List Prob) (w : World), b1 - a1 ≤ f → PRow w b z P → m = P.length → a1 < m1 → m1 < b1 → b1 ≤ m → SymC b z m c P w a1 m1 b1
  | 0, a1, m1, b1, P, w, hf, h, hm, h1, h2, hb => by omega
  | f + 1, a1, m1, b1, P, w, hf, h, hm, h1, h2, hb => by
    rcases Nat.eq_or_lt_of_le (Nat.succ_le_of_lt h1) with e | e
    · subst e
      exact ysym_first b z a1 b1 m c P w h hm hc h2 hb
    · rcases Nat.eq_or_lt_of_le (Nat.succ_le_of_lt h2) with e2 | e2
      · subst e2
        exact ysym_last b z a1 m1 m c P w h hm hc e hb
      · have ih : ∀ (a' m' b' : Nat) (P' : List Prob) (w' : World), b' - a' < b1 - a1 → PRow w' b z P' → m = P'.length → a' < m' → m' < b' → b' ≤ m → SymC b z m c P' w' a' m' b' := fun a' m' b' P' w' k1 k2 k3 k4 k5 k6 => ysym_any b z m c hc f a' m' b' P' w' (by omega) k2 k3 k4 k5 k6
        rcases Nat.lt_or_ge ((a1 + b1) / 2) m1 with e3 | e3
        · exact ysym_midA b z a1 m1 b1 _ m c P w h hm hc e e2 hb rfl e3 ih
        · exact ysym_midB b z a1 m1 b1 _ m c P w h hm hc e e2 hb rfl e3 ih
end Go.Proofs.YtlgdmbdhffdenaaGreatDoor
