/- The reference's SameCond by its contract. -/
import Derived.Test.YtlgdmbdhffdenaaGreatDoorYLeast
import Derived.Test.YtlgdmbdhffdenaaGreatDoorPD
namespace Go.Proofs.YtlgdmbdhffdenaaGreatDoor
set_option linter.unusedVariables false
set_option linter.unusedSimpArgs false
open Go.RowKit

def csz : CF → Nat
  | .nil => 0
  | .cons _ _ _ ps r => csz ps + csz r + 1
theorem csz_cons (k v n : Int) (ps r : CF) : csz (.cons k v n ps r) = csz ps + csz r + 1 := rfl
theorem len_cons (k v n : Int) (ps r : CF) : (CF.cons k v n ps r).len = r.len + 1 := rfl
theorem cf_cons {F : CF} (h : 0 < F.len) : ∃ k v n ps r, F = .cons k v n ps r := by
  cases F with
  | nil => cases h
  | cons k v n ps r => exact ⟨_, _, _, _, _, rfl⟩
theorem cf_eq (k v n : Int) (ps r : CF) (k' v' n' : Int) (ps' r' : CF) : decide (CF.cons k v n ps r = CF.cons k' v' n' ps' r') = (decide ((⟨k, v, n, ps⟩ : CT) = ⟨k', v', n', ps'⟩) && decide (r = r')) := by
  rw [← Bool.decide_and]
  congr 1
  simp [and_assoc]
theorem RepF.uncons2 {S : Nat → Prop} {w : World} {k v n : Int} {ps r : CF} {xs : List Value} (h : RepF S w (.cons k v n ps r) xs) : ∃ A m c zs, xs = vi k :: vi v :: vi n :: .slice A m c :: zs ∧ RepH S w ps A m c ∧ RepF S w r zs := by
  obtain ⟨A, m, c, ys, zs, e, h1, h2⟩ := h
  exact ⟨A, m, c, zs, e, ⟨ys, h1⟩, h2⟩
/-- The contract of SameCond for conditions of a size. -/
def EC (N : Nat) : Prop := ∀ (S S' : Nat → Prop) (x y : CT) (A A' : Option Addr) (m c m' c' : Nat) (w : World), csz x.ps < N → RepH S w x.ps A m c → RepH S' w y.ps A' m' c' →
  Calls Tryz.prog 18 #[condV x A m c, condV y A' m' c'] w fun e w' => e = .returned (.bool (decide (x = y))) ∧ Below w.heap.size w w'
set_option maxHeartbeats 4000000 in
set_option maxRecDepth 100000 in
theorem sc_of (N : Nat) (ih : ∀ M, M < N → EC M) : EC N := by
  intro S S' x y A A' m c m' c' w hN h1 h2
  have HI := Lib.hid ih
  have H1 := Lib.hid h1
  have H2 := Lib.hid h2
  have HM := Lib.hid h1.len
  have HM' := Lib.hid h2.len
  clear ih h1 h2
  obtain ⟨k, v, n, ps⟩ := x
  obtain ⟨k', v', n', ps'⟩ := y
  unfold condV
  dsimp only [vi]
  have hb0 : Below w.heap.size w ((w.alloc (.cells #[.int .i64 k, .int .i64 v, .int .i64 n, .slice A m c] 35)).alloc (.cells #[.int .i64 k', .int .i64 v', .int .i64 n', .slice A' m' c'] 35)) := ((Below.refl _ _).alloc (Nat.le_refl _) _).alloc (by simp) _
  by_cases hk : k = k' ∧ v = v' ∧ n = n' ∧ m = m'
  · obtain ⟨rfl, rfl, rfl, hmm⟩ := hk
    have HR := Lib.hid (show decide ((⟨k, v, n, ps⟩ : CT) = ⟨k, v, n, ps'⟩) = decide (ps = ps') by simp)
    generalize decide ((⟨k, v, n, ps⟩ : CT) = ⟨k, v, n, ps'⟩) = r at HR ⊢
    subst hmm
    go_enter Tryz.func18, Tryz.ntmps18
    go_wp2_with (fail)
    first | (refine calls_named ?_; intro W0 hW0) | (refine body_named ?_; intro W0 hW0) | (refine wpList_named ?_; intro W0 hW0) | (refine wp_named ?_; intro W0 hW0)
    have hx0 : Blk W0 w.heap.size 35 #[.int .i64 k, .int .i64 v, .int .i64 n, .slice A m c] := by rw [← hW0]; exact (Blk.new w _ _).alloc _
    have hy0 : Blk W0 (w.heap.size + 1) 35 #[.int .i64 k, .int .i64 v, .int .i64 n, .slice A' m c'] := by rw [← hW0, ← World.size_alloc]; exact Blk.new _ _ _
    rw [hW0] at hb0
    clear hW0
    have HB0 := Lib.hid hb0
    have HX0 := Lib.hid hx0
    have HY0 := Lib.hid hy0
    obtain ⟨xs, hrx, hax, hfx⟩ := H1.out
    obtain ⟨ys, hry, hay, hfy⟩ := H2.out
    have HRX := Lib.hid hrx
    have HRY := Lib.hid hry
    have HFX := Lib.hid hfx
    have HFY := Lib.hid hfy
    have hcapx := hrx.cap
    have hcapy := hry.cap
    have hbigx := hrx.big
    have hbigy := hry.big
    clear hb0 hx0 hy0 hrx hax hfx hry hay hfy H1 H2
    go_loopw [5] (fun s wr => ∃ (i : Nat) (F G : CF), i ≤ m ∧ s = .int .i64 i ∧ Hid (Below w.heap.size w wr) ∧ Hid (Blk wr w.heap.size 35 #[.int .i64 k, .int .i64 v, .int .i64 n, .slice A m c]) ∧ Hid (Blk wr (w.heap.size + 1) 35 #[.int .i64 k, .int .i64 v, .int .i64 n, .slice A' m c']) ∧
      Hid (RepF S w F (xs.drop (i * 4))) ∧ Hid (RepF S' w G (ys.drop (i * 4))) ∧ Hid (F.len = m - i) ∧ Hid (G.len = m - i) ∧ Hid (r = decide (F = G)) ∧ Hid (csz F ≤ csz ps)) (fun i _ => m - (intOf i).toNat)
    case atStart => exact ⟨0, ps, ps', Nat.zero_le _, rfl, HB0.out, HX0.out, HY0.out, HFX.out, HFY.out, HM.out.symm, HM'.out.symm, HR.out, Nat.le_refl _⟩
    case round =>
      obtain ⟨i, F, G, him, rfl, HB, HX, HY, HF, HG, HLF, HLG, HRR, HCS⟩ := hrel
      have x3 : wr.cell? ⟨w.heap.size, 3, none⟩ = some (.slice A m c) := by rw [HX.out.cell]; rfl
      have y3 : wr.cell? ⟨w.heap.size + 1, 3, none⟩ = some (.slice A' m c') := by rw [HY.out.cell]; rfl
      by_cases hlt : i < m
      · obtain ⟨q1, q2, q3, qs, R, rfl⟩ := cf_cons (F := F) (by have := HLF.out; omega)
        obtain ⟨p1, p2, p3, pz, Q, rfl⟩ := cf_cons (F := G) (by have := HLG.out; omega)
        obtain ⟨B1, n1, d1, zs, hxs, hq, hR⟩ := RepF.uncons2 HF.out
        obtain ⟨B2, n2, d2, zt, hyt, hp, hQ⟩ := RepF.uncons2 HG.out
        obtain ⟨b1, o1, rfl, hb1, hc1⟩ := HRX.out.cells (by omega)
        obtain ⟨b2, o2, rfl, hb2, hc2⟩ := HRY.out.cells (by omega)
        have hcx : ∀ (j : Nat) (u : Value), (vi q1 :: vi q2 :: vi q3 :: .slice B1 n1 d1 :: zs)[j]? = some u → wr.cell? ⟨b1, o1 + (i * 4 + j), none⟩ = some u := fun j u hu => (HB.out.cell (p := ⟨b1, o1 + (i * 4 + j), none⟩) hb1).trans (hc1 (i * 4 + j) u (by rw [← hxs, List.getElem?_drop] at hu; exact hu))
        have hcy : ∀ (j : Nat) (u : Value), (vi p1 :: vi p2 :: vi p3 :: .slice B2 n2 d2 :: zt)[j]? = some u → wr.cell? ⟨b2, o2 + (i * 4 + j), none⟩ = some u := fun j u hu => (HB.out.cell (p := ⟨b2, o2 + (i * 4 + j), none⟩) hb2).trans (hc2 (i * 4 + j) u (by rw [← hyt, List.getElem?_drop] at hu; exact hu))
        have a0 : wr.cell? ⟨b1, o1 + i * 4, none⟩ = some (.int .i64 q1) := hcx 0 _ rfl
        have a1 : wr.cell? ⟨b1, o1 + i * 4 + 1, none⟩ = some (.int .i64 q2) := hcx 1 _ rfl
        have a2 : wr.cell? ⟨b1, o1 + i * 4 + 2, none⟩ = some (.int .i64 q3) := hcx 2 _ rfl
        have a3 : wr.cell? ⟨b1, o1 + i * 4 + 3, none⟩ = some (.slice B1 n1 d1) := hcx 3 _ rfl
        have e0 : wr.cell? ⟨b2, o2 + i * 4, none⟩ = some (.int .i64 p1) := hcy 0 _ rfl
        have e1 : wr.cell? ⟨b2, o2 + i * 4 + 1, none⟩ = some (.int .i64 p2) := hcy 1 _ rfl
        have e2 : wr.cell? ⟨b2, o2 + i * 4 + 2, none⟩ = some (.int .i64 p3) := hcy 2 _ rfl
        have e3 : wr.cell? ⟨b2, o2 + i * 4 + 3, none⟩ = some (.slice B2 n2 d2) := hcy 3 _ rfl
        have hz := HB.out.size
        have HQ := Lib.hid hq
        have HP := Lib.hid hp
        have HFn := Lib.hid (show RepF S w R (xs.drop ((i + 1) * 4)) by rw [show (i + 1) * 4 = i * 4 + 4 by omega, ← List.drop_drop, hxs]; exact hR)
        have HGn := Lib.hid (show RepF S' w Q (ys.drop ((i + 1) * 4)) by rw [show (i + 1) * 4 = i * 4 + 4 by omega, ← List.drop_drop, hyt]; exact hQ)
        have HRn := Lib.hid (show r = (decide ((⟨q1, q2, q3, qs⟩ : CT) = ⟨p1, p2, p3, pz⟩) && decide (R = Q)) by rw [HRR.out]; exact cf_eq _ _ _ _ _ _ _ _ _ _)
        have HC1 := Lib.hid (show csz qs < csz ps ∧ csz R ≤ csz ps by have := HCS.out; rw [csz_cons] at this; omega)
        have HL1 := Lib.hid (show R.len = m - (i + 1) ∧ Q.len = m - (i + 1) by have h1 := HLF.out; have h2 := HLG.out; rw [len_cons] at h1 h2; omega)
        clear hxs hyt hq hp hR hQ hc1 hc2 hcx hcy HF HG HLF HLG HRR HCS HFX HFY HRX HRY
        go_wp2
        go_still_tail 10, (by kernel_rfl)
        first | (refine calls_named ?_; intro w2 hW2) | (refine body_named ?_; intro w2 hW2) | (refine wpList_named ?_; intro w2 hW2) | (refine wp_named ?_; intro w2 hW2)
        have hb2 : Below wr.heap.size wr w2 := by rw [← hW2]; exact bdrew _ 1
        clear hW2
        go_wp2_with (fail)
        have HB2 := Lib.hid (HB.out.trans (hb2.mono hz))
        have HX2 := Lib.hid (HX.out.below hb2 HX.out.lt)
        have HY2 := Lib.hid (HY.out.below hb2 HY.out.lt)
        have lift : Only (fun _ => False) w w2 := Only.of_below HB2.out
        refine (HI.out (csz ps) hN S S' ⟨q1, q2, q3, qs⟩ ⟨p1, p2, p3, pz⟩ B1 B2 n1 d1 n2 d2 w2 HC1.out.1 (HQ.out.only lift (fun _ h => h.elim)) (HP.out.only lift (fun _ h => h.elim))).mono ?_
        rintro e w3 ⟨rfl, hb3⟩
        have HB3 := Lib.hid (HB2.out.trans (hb3.mono HB2.out.size))
        have HX3 := Lib.hid (HX2.out.below hb3 HX2.out.lt)
        have HY3 := Lib.hid (HY2.out.below hb3 HY2.out.lt)
        clear lift hb2 hb3 a0 a1 a2 a3 e0 e1 e2 e3 x3 y3
        cases hd : decide ((⟨q1, q2, q3, qs⟩ : CT) = ⟨p1, p2, p3, pz⟩) with
        | true =>
          rw [hd, Bool.true_and] at HRn
          clear hd
          go_wp2_with (fail)
          go_roundw
          case rel => exact ⟨i + 1, R, Q, by omega, by go_num, HB3.out, HX3.out, HY3.out, HFn.out, HGn.out, HL1.out.1, HL1.out.2, HRn.out, HC1.out.2⟩
          case measure => simp [intOf]; omega
        | false =>
          rw [hd, Bool.false_and] at HRn
          clear hd
          go_wp2_with (fail)
          go_ret
          exact ⟨congrArg (fun b => Ending.returned (Value.bool b)) HRn.out.symm, HB3.out⟩
      · have HRt := Lib.hid (show r = true by
          rw [HRR.out]
          have h1 := HLF.out
          have h2 := HLG.out
          cases F with
          | nil => cases G with
            | nil => rfl
            | cons => rw [len_cons] at h2; omega
          | cons => rw [len_cons] at h1; omega)
        go_wp2
        go_ret
        exact ⟨congrArg (fun b => Ending.returned (Value.bool b)) HRt.out.symm, HB.out⟩
  · go_enter Tryz.func18, Tryz.ntmps18
    go_wp2_with (fail)
    all_goals first
      | (go_ret; exact ⟨rfl, ((Below.refl _ _).alloc (Nat.le_refl _) _).alloc (by simp) _⟩)
      | (go_ret; exact ⟨congrArg (fun b => Ending.returned (Value.bool b)) (decide_eq_false (fun e => by have h1 := HM.out; have h2 := HM'.out; rw [e] at h1; omega)).symm, ((Below.refl _ _).alloc (Nat.le_refl _) _).alloc (by simp) _⟩)
      | (exfalso; apply hk; omega)
theorem ec_all (N : Nat) : EC N := by
  induction N using Nat.strongRecOn with
  | _ N ih => exact sc_of N ih
/-- The reference's SameCond. -/
theorem samecond_any (S S' : Nat → Prop) (x y : CT) (A A' : Option Addr) (m c m' c' : Nat) (w : World) (h1 : RepH S w x.ps A m c) (h2 : RepH S' w y.ps A' m' c') :
    Calls Tryz.prog 18 #[condV x A m c, condV y A' m' c'] w fun e w' => e = .returned (.bool (decide (x = y))) ∧ Below w.heap.size w w' := ec_all (csz x.ps + 1) S S' x y A A' m c m' c' w (Nat.lt_succ_self _) h1 h2
end Go.Proofs.YtlgdmbdhffdenaaGreatDoor
