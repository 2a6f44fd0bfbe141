/- The reference's SameCond by its contract. -/
import Derived.Test.YtlgdmbdhffdenaaGreatDoorYLeast
import Derived.Test.YtlgdmbdhffdenaaGreatDoorPD
import Derived.Test.YtlgdmbdhffdenaaGreatDoorYZones
namespace Go.Proofs.YtlgdmbdhffdenaaGreatDoor
set_option linter.unusedVariables false
set_option linter.unusedSimpArgs false
open Go.RowKit

def csz : CF → Nat
  | .nil => 0
  | .cons _ _ _ ps r => csz ps + csz r + 1
theorem csz_cons (k v n : Int) (ps r : CF) : csz (.cons k v n ps r) = csz ps + csz r + 1 := rfl
theorem len_cons (k v n : Int) (ps r : CF) : (CF.cons k v n ps r).len = r.len + 1 := rfl
theorem cf_cons {F : CF} (h : 0 < F.len) : ∃ k v n ps r, F = .cons k v n ps r := by
  cases F with
  | nil => cases h
  | cons k v n ps r => exact ⟨_, _, _, _, _, rfl⟩
theorem cf_eq (k v n : Int) (ps r : CF) (k' v' n' : Int) (ps' r' : CF) : decide (CF.cons k v n ps r = CF.cons k' v' n' ps' r') = (decide ((⟨k, v, n, ps⟩ : CT) = ⟨k', v', n', ps'⟩) && decide (r = r')) := by
  rw [← Bool.decide_and]
  congr 1
  simp [and_assoc]
theorem RepF.uncons2 {S : Nat → Prop} {w : World} {k v n : Int} {ps r : CF} {xs : List Value} (h : RepF S w (.cons k v n ps r) xs) : ∃ A m c zs, xs = vi k :: vi v :: vi n :: .slice A m c :: zs ∧ RepH S w ps A m c ∧ RepF S w r zs := by
  obtain ⟨A, m, c, ys, zs, e, h1, h2⟩ := h
  exact ⟨A, m, c, zs, e, ⟨ys, h1⟩, h2⟩
/-- The contract of SameCond for conditions of a size. -/
def EC (N : Nat) : Prop := ∀ (S S' : Nat → Prop) (x y : CT) (A A' : Option Addr) (m c m' c' : Nat) (w : World), csz x.ps < N → RepH S w x.ps A m c → RepH S' w y.ps A' m' c' →
  Calls Tryz.prog 18 #[condV x A m c, condV y A' m' c'] w fun e w' => e = .returned (.bool (decide (x = y))) ∧ Below w.heap.size w w'
set_option maxHeartbeats 4000000 in
set_option maxRecDepth 100000 in
theorem sc_of (N : Nat) (ih : ∀ M, M < N → EC M) : EC N := by
  intro S S' x y A A' m c m' c' w hN h1 h2
  have HI := Lib.hid ih
  have H1 := Lib.hid h1
  have H2 := Lib.hid h2
  have HM := Lib.hid h1.len
  have HM' := Lib.hid h2.len
  clear ih h1 h2
  obtain ⟨k, v, n, ps⟩ := x
  obtain ⟨k', v', n', ps'⟩ := y
  unfold condV
  dsimp only [vi]
  have hb0 : Below w.heap.size w ((w.alloc (.cells #[.int .i64 k, .int .i64 v, .int .i64 n, .slice A m c] 35)).alloc (.cells #[.int .i64 k', .int .i64 v', .int .i64 n', .slice A' m' c'] 35)) := ((Below.refl _ _).alloc (Nat.le_refl _) _).alloc (by simp) _
  by_cases hk : k = k' ∧ v = v' ∧ n = n' ∧ m = m'
  · obtain ⟨rfl, rfl, rfl, hmm⟩ := hk
    have HR := Lib.hid (show decide ((⟨k, v, n, ps⟩ : CT) = ⟨k, v, n, ps'⟩) = decide (ps = ps') by simp)
    generalize decide ((⟨k, v, n, ps⟩ : CT) = ⟨k, v, n, ps'⟩) = r at HR ⊢
    subst hmm
    go_enter Tryz.func18, Tryz.ntmps18
    go_wp2_with (fail)
    first | (refine calls_named ?_; intro W0 hW0) | (refine body_named ?_; intro W0 hW0) | (refine wpList_named ?_; intro W0 hW0) | (refine wp_named ?_; intro W0 hW0)
    have hx0 : Blk W0 w.heap.size 35 #[.int .i64 k, .int .i64 v, .int .i64 n, .slice A m c] := by rw [← hW0]; exact (Blk.new w _ _).alloc _
    have hy0 : Blk W0 (w.heap.size + 1) 35 #[.int .i64 k, .int .i64 v, .int .i64 n, .slice A' m c'] := by rw [← hW0, ← World.size_alloc]; exact Blk.new _ _ _
    rw [hW0] at hb0
    clear hW0
    have HB0 := Lib.hid hb0
    have HX0 := Lib.hid hx0
    have HY0 := Lib.hid hy0
    obtain ⟨xs, hrx, hax, hfx⟩ := H1.out
    obtain ⟨ys, hry, hay, hfy⟩ := H2.out
    have HRX := Lib.hid hrx
    have HRY := Lib.hid hry
    have HFX := Lib.hid hfx
    have HFY := Lib.hid hfy
    have hcapx := hrx.cap
    have hcapy := hry.cap
    have hbigx := hrx.big
    have hbigy := hry.big
    clear hb0 hx0 hy0 hrx hax hfx hry hay hfy H1 H2
    go_loopw [5] (fun s wr => ∃ (i : Nat) (F G : CF), i ≤ m ∧ s = .int .i64 i ∧ Hid (Below w.heap.size w wr) ∧ Hid (Blk wr w.heap.size 35 #[.int .i64 k, .int .i64 v, .int .i64 n, .slice A m c]) ∧ Hid (Blk wr (w.heap.size + 1) 35 #[.int .i64 k, .int .i64 v, .int .i64 n, .slice A' m c']) ∧
      Hid (RepF S w F (xs.drop (i * 4))) ∧ Hid (RepF S' w G (ys.drop (i * 4))) ∧ Hid (F.len = m - i) ∧ Hid (G.len = m - i) ∧ Hid (r = decide (F = G)) ∧ Hid (csz F ≤ csz ps)) (fun i _ => m - (intOf i).toNat)
    case atStart => exact ⟨0, ps, ps', Nat.zero_le _, rfl, HB0.out, HX0.out, HY0.out, HFX.out, HFY.out, HM.out.symm, HM'.out.symm, HR.out, Nat.le_refl _⟩
    case round =>
      obtain ⟨i, F, G, him, rfl, HB, HX, HY, HF, HG, HLF, HLG, HRR, HCS⟩ := hrel
      have x3 : wr.cell? ⟨w.heap.size, 3, none⟩ = some (.slice A m c) := by rw [HX.out.cell]; rfl
      have y3 : wr.cell? ⟨w.heap.size + 1, 3, none⟩ = some (.slice A' m c') := by rw [HY.out.cell]; rfl
      by_cases hlt : i < m
      · obtain ⟨q1, q2, q3, qs, R, rfl⟩ := cf_cons (F := F) (by have := HLF.out; omega)
        obtain ⟨p1, p2, p3, pz, Q, rfl⟩ := cf_cons (F := G) (by have := HLG.out; omega)
        obtain ⟨B1, n1, d1, zs, hxs, hq, hR⟩ := RepF.uncons2 HF.out
        obtain ⟨B2, n2, d2, zt, hyt, hp, hQ⟩ := RepF.uncons2 HG.out
        obtain ⟨b1, o1, rfl, hb1, hc1⟩ := HRX.out.cells (by omega)
        obtain ⟨b2, o2, rfl, hb2, hc2⟩ := HRY.out.cells (by omega)
        have hcx : ∀ (j : Nat) (u : Value), (vi q1 :: vi q2 :: vi q3 :: .slice B1 n1 d1 :: zs)[j]? = some u → wr.cell? ⟨b1, o1 + (i * 4 + j), none⟩ = some u := fun j u hu => (HB.out.cell (p := ⟨b1, o1 + (i * 4 + j), none⟩) hb1).trans (hc1 (i * 4 + j) u (by rw [← hxs, List.getElem?_drop] at hu; exact hu))
        have hcy : ∀ (j : Nat) (u : Value), (vi p1 :: vi p2 :: vi p3 :: .slice B2 n2 d2 :: zt)[j]? = some u → wr.cell? ⟨b2, o2 + (i * 4 + j), none⟩ = some u := fun j u hu => (HB.out.cell (p := ⟨b2, o2 + (i * 4 + j), none⟩) hb2).trans (hc2 (i * 4 + j) u (by rw [← hyt, List.getElem?_drop] at hu; exact hu))
        have a0 : wr.cell? ⟨b1, o1 + i * 4, none⟩ = some (.int .i64 q1) := hcx 0 _ rfl
        have a1 : wr.cell? ⟨b1, o1 + i * 4 + 1, none⟩ = some (.int .i64 q2) := hcx 1 _ rfl
        have a2 : wr.cell? ⟨b1, o1 + i * 4 + 2, none⟩ = some (.int .i64 q3) := hcx 2 _ rfl
        have a3 : wr.cell? ⟨b1, o1 + i * 4 + 3, none⟩ = some (.slice B1 n1 d1) := hcx 3 _ rfl
        have e0 : wr.cell? ⟨b2, o2 + i * 4, none⟩ = some (.int .i64 p1) := hcy 0 _ rfl
        have e1 : wr.cell? ⟨b2, o2 + i * 4 + 1, none⟩ = some (.int .i64 p2) := hcy 1 _ rfl
        have e2 : wr.cell? ⟨b2, o2 + i * 4 + 2, none⟩ = some (.int .i64 p3) := hcy 2 _ rfl
        have e3 : wr.cell? ⟨b2, o2 + i * 4 + 3, none⟩ = some (.slice B2 n2 d2) := hcy 3 _ rfl
        have hz := HB.out.size
        have HQ := Lib.hid hq
        have HP := Lib.hid hp
        have HFn := Lib.hid (show RepF S w R (xs.drop ((i + 1) * 4)) by rw [show (i + 1) * 4 = i * 4 + 4 by omega, ← List.drop_drop, hxs]; exact hR)
        have HGn := Lib.hid (show RepF S' w Q (ys.drop ((i + 1) * 4)) by rw [show (i + 1) * 4 = i * 4 + 4 by omega, ← List.drop_drop, hyt]; exact hQ)
        have HRn := Lib.hid (show r = (decide ((⟨q1, q2, q3, qs⟩ : CT) = ⟨p1, p2, p3, pz⟩) && decide (R = Q)) by rw [HRR.out]; exact cf_eq _ _ _ _ _ _ _ _ _ _)
        have HC1 := Lib.hid (show csz qs < csz ps ∧ csz R ≤ csz ps by have := HCS.out; rw [csz_cons] at this; omega)
        have HL1 := Lib.hid (show R.len = m - (i + 1) ∧ Q.len = m - (i + 1) by have h1 := HLF.out; have h2 := HLG.out; rw [len_cons] at h1 h2; omega)
        clear hxs hyt hq hp hR hQ hc1 hc2 hcx hcy HF HG HLF HLG HRR HCS HFX HFY HRX HRY
        go_wp2
        go_still_tail 10, (by kernel_rfl)
        first | (refine calls_named ?_; intro w2 hW2) | (refine body_named ?_; intro w2 hW2) | (refine wpList_named ?_; intro w2 hW2) | (refine wp_named ?_; intro w2 hW2)
        have hb2 : Below wr.heap.size wr w2 := by rw [← hW2]; exact bdrew _ 1
        clear hW2
        go_wp2_with (fail)
        have HB2 := Lib.hid (HB.out.trans (hb2.mono hz))
        have HX2 := Lib.hid (HX.out.below hb2 HX.out.lt)
        have HY2 := Lib.hid (HY.out.below hb2 HY.out.lt)
        have lift : Only (fun _ => False) w w2 := Only.of_below HB2.out
        refine (HI.out (csz ps) hN S S' ⟨q1, q2, q3, qs⟩ ⟨p1, p2, p3, pz⟩ B1 B2 n1 d1 n2 d2 w2 HC1.out.1 (HQ.out.only lift (fun _ h => h.elim)) (HP.out.only lift (fun _ h => h.elim))).mono ?_
        rintro e w3 ⟨rfl, hb3⟩
        have HB3 := Lib.hid (HB2.out.trans (hb3.mono HB2.out.size))
        have HX3 := Lib.hid (HX2.out.below hb3 HX2.out.lt)
        have HY3 := Lib.hid (HY2.out.below hb3 HY2.out.lt)
        clear lift hb2 hb3 a0 a1 a2 a3 e0 e1 e2 e3 x3 y3
        cases hd : decide ((⟨q1, q2, q3, qs⟩ : CT) = ⟨p1, p2, p3, pz⟩) with
        | true =>
          rw [hd, Bool.true_and] at HRn
          clear hd
          go_wp2_with (fail)
          go_roundw
          case rel => exact ⟨i + 1, R, Q, by omega, by go_num, HB3.out, HX3.out, HY3.out, HFn.out, HGn.out, HL1.out.1, HL1.out.2, HRn.out, HC1.out.2⟩
          case measure => simp [intOf]; omega
        | false =>
          rw [hd, Bool.false_and] at HRn
          clear hd
          go_wp2_with (fail)
          go_ret
          exact ⟨congrArg (fun b => Ending.returned (Value.bool b)) HRn.out.symm, HB3.out⟩
      · have HRt := Lib.hid (show r = true by
          rw [HRR.out]
          have h1 := HLF.out
          have h2 := HLG.out
          cases F with
          | nil => cases G with
            | nil => rfl
            | cons => rw [len_cons] at h2; omega
          | cons => rw [len_cons] at h1; omega)
        go_wp2
        go_ret
        exact ⟨congrArg (fun b => Ending.returned (Value.bool b)) HRt.out.symm, HB.out⟩
  · go_enter Tryz.func18, Tryz.ntmps18
    go_wp2_with (fail)
    all_goals first
      | (go_ret; exact ⟨rfl, ((Below.refl _ _).alloc (Nat.le_refl _) _).alloc (by simp) _⟩)
      | (go_ret; exact ⟨congrArg (fun b => Ending.returned (Value.bool b)) (decide_eq_false (fun e => by have h1 := HM.out; have h2 := HM'.out; rw [e] at h1; omega)).symm, ((Below.refl _ _).alloc (Nat.le_refl _) _).alloc (by simp) _⟩)
      | (exfalso; apply hk; omega)
theorem ec_all (N : Nat) : EC N := by
  induction N using Nat.strongRecOn with
  | _ N ih => exact sc_of N ih
/-- The reference's SameCond. -/
theorem samecond_any (S S' : Nat → Prop) (x y : CT) (A A' : Option Addr) (m c m' c' : Nat) (w : World) (h1 : RepH S w x.ps A m c) (h2 : RepH S' w y.ps A' m' c') :
    Calls Tryz.prog 18 #[condV x A m c, condV y A' m' c'] w fun e w' => e = .returned (.bool (decide (x = y))) ∧ Below w.heap.size w w' := ec_all (csz x.ps + 1) S S' x y A A' m c m' c' w (Nat.lt_succ_self _) h1 h2
end Go.Proofs.YtlgdmbdhffdenaaGreatDoor

/- The reference's SameSteps by its contract. -/
namespace Go.Proofs.YtlgdmbdhffdenaaGreatDoor
set_option linter.unusedVariables false
set_option linter.unusedSimpArgs false
open Go.RowKit

def ssz : SF → Nat
  | .nil => 0
  | .cons _ _ _ _ _ _ th el r => ssz th + ssz el + ssz r + 1
theorem slen_cons (k b a1 a2 a3 : Int) (ps : CF) (th el r : SF) : (SF.cons k b a1 a2 a3 ps th el r).len = r.len + 1 := rfl
theorem ssz_cons (k b a1 a2 a3 : Int) (ps : CF) (th el r : SF) : ssz (SF.cons k b a1 a2 a3 ps th el r) = ssz th + ssz el + ssz r + 1 := rfl
theorem sf_cons {F : SF} (h : 0 < F.len) : ∃ k b a1 a2 a3 ps th el r, F = .cons k b a1 a2 a3 ps th el r := by
  cases F with
  | nil => cases h
  | cons k b a1 a2 a3 ps th el r => exact ⟨_, _, _, _, _, _, _, _, _, rfl⟩
theorem sf_eq (k b a1 a2 a3 : Int) (ps : CF) (th el r : SF) (k' b' a1' a2' a3' : Int) (ps' : CF) (th' el' r' : SF) :
    decide (SF.cons k b a1 a2 a3 ps th el r = SF.cons k' b' a1' a2' a3' ps' th' el' r') = (decide (k = k') && (decide (b = b') && (decide ((⟨a1, a2, a3, ps⟩ : CT) = ⟨a1', a2', a3', ps'⟩) && (decide (th = th') && (decide (el = el') && decide (r = r')))))) := by
  simp only [← Bool.decide_and]
  congr 1
  simp [and_assoc]
theorem RepS.uncons2 {S : Nat → Prop} {w : World} {k b a1 a2 a3 : Int} {ps : CF} {th el r : SF} {xs : List Value} (h : RepS S w (.cons k b a1 a2 a3 ps th el r) xs) :
    ∃ A m c A1 m1 c1 A2 m2 c2 zs, xs = vi k :: vi b :: vi a1 :: vi a2 :: vi a3 :: .slice A m c :: .slice A1 m1 c1 :: .slice A2 m2 c2 :: zs ∧ RepH S w ps A m c ∧ RepT S w th A1 m1 c1 ∧ RepT S w el A2 m2 c2 ∧ RepS S w r zs := by
  obtain ⟨A, m, c, A1, m1, c1, A2, m2, c2, zs, e, hc, h1, h2, h3⟩ := h
  exact ⟨A, m, c, A1, m1, c1, A2, m2, c2, zs, e, hc, h1, h2, h3⟩
/-- The contract of SameSteps for orders of a size. -/
def ES (N : Nat) : Prop := ∀ (S S' : Nat → Prop) (x y : SF) (A A' : Option Addr) (m c m' c' : Nat) (w : World), ssz x < N → RepT S w x A m c → RepT S' w y A' m' c' →
  Calls Tryz.prog 30 #[.slice A m c, .slice A' m' c'] w fun e w' => e = .returned (.bool (decide (x = y))) ∧ Below w.heap.size w w'
set_option maxHeartbeats 4000000 in
set_option maxRecDepth 100000 in
theorem ss_of (N : Nat) (ih : ∀ M, M < N → ES M) : ES N := by
  intro S S' x y A A' m c m' c' w hN h1 h2
  have HI := Lib.hid ih
  have H1 := Lib.hid h1
  have H2 := Lib.hid h2
  have HM := Lib.hid h1.len
  have HM' := Lib.hid h2.len
  clear ih h1 h2
  by_cases hmm : m = m'
  · subst hmm
    obtain ⟨r, HR⟩ : ∃ r, Hid (r = decide (x = y)) := ⟨_, Lib.hid rfl⟩
    rw [← HR.out]
    go_enter Tryz.func30, Tryz.ntmps30
    go_wp2_with (fail)
    obtain ⟨xs, hrx, hax, hfx⟩ := H1.out
    obtain ⟨ys, hry, hay, hfy⟩ := H2.out
    have HRX := Lib.hid hrx
    have HRY := Lib.hid hry
    have HFX := Lib.hid hfx
    have HFY := Lib.hid hfy
    have hcapx := hrx.cap
    have hcapy := hry.cap
    have hbigx := hrx.big
    have hbigy := hry.big
    clear hrx hax hfx hry hay hfy H1 H2
    go_loopw [5] (fun s wr => ∃ (i : Nat) (F G : SF), i ≤ m ∧ s = .int .i64 i ∧ Hid (Below w.heap.size w wr) ∧
      Hid (RepS S w F (xs.drop (i * 8))) ∧ Hid (RepS S' w G (ys.drop (i * 8))) ∧ Hid (F.len = m - i) ∧ Hid (G.len = m - i) ∧ Hid (r = decide (F = G)) ∧ Hid (ssz F ≤ ssz x)) (fun i _ => m - (intOf i).toNat)
    case atStart => exact ⟨0, x, y, Nat.zero_le _, rfl, Lib.hid (Below.refl _ _), HFX.out, HFY.out, HM.out.symm, HM'.out.symm, HR.out, Nat.le_refl _⟩
    case round =>
      obtain ⟨i, F, G, him, rfl, HB, HF, HG, HLF, HLG, HRR, HCS⟩ := hrel
      by_cases hlt : i < m
      · obtain ⟨q1, q2, q3, q4, q5, qs, qt, qe, R, rfl⟩ := sf_cons (F := F) (by have := HLF.out; omega)
        obtain ⟨p1, p2, p3, p4, p5, ps, pt, pe, Q, rfl⟩ := sf_cons (F := G) (by have := HLG.out; omega)
        obtain ⟨B1, n1, d1, C1, i1, j1, D1, k1, l1, zs, hxs, hq, hq1, hq2, hR⟩ := RepS.uncons2 HF.out
        obtain ⟨B2, n2, d2, C2, i2, j2, D2, k2, l2, zt, hyt, hp, hp1, hp2, hQ⟩ := RepS.uncons2 HG.out
        obtain ⟨b1, o1, rfl, hb1, hc1⟩ := HRX.out.cells (by omega)
        obtain ⟨b2, o2, rfl, hb2, hc2⟩ := HRY.out.cells (by omega)
        have hcx : ∀ (j : Nat) (u : Value), (vi q1 :: vi q2 :: vi q3 :: vi q4 :: vi q5 :: .slice B1 n1 d1 :: .slice C1 i1 j1 :: .slice D1 k1 l1 :: zs)[j]? = some u → wr.cell? ⟨b1, o1 + (i * 8 + j), none⟩ = some u := fun j u hu => (HB.out.cell (p := ⟨b1, o1 + (i * 8 + j), none⟩) hb1).trans (hc1 (i * 8 + j) u (by rw [← hxs, List.getElem?_drop] at hu; exact hu))
        have hcy : ∀ (j : Nat) (u : Value), (vi p1 :: vi p2 :: vi p3 :: vi p4 :: vi p5 :: .slice B2 n2 d2 :: .slice C2 i2 j2 :: .slice D2 k2 l2 :: zt)[j]? = some u → wr.cell? ⟨b2, o2 + (i * 8 + j), none⟩ = some u := fun j u hu => (HB.out.cell (p := ⟨b2, o2 + (i * 8 + j), none⟩) hb2).trans (hc2 (i * 8 + j) u (by rw [← hyt, List.getElem?_drop] at hu; exact hu))
        have a0 : wr.cell? ⟨b1, o1 + i * 8, none⟩ = some (.int .i64 q1) := hcx 0 _ rfl
        have a1 : wr.cell? ⟨b1, o1 + i * 8 + 1, none⟩ = some (.int .i64 q2) := hcx 1 _ rfl
        have a2 : wr.cell? ⟨b1, o1 + i * 8 + 2, none⟩ = some (.int .i64 q3) := hcx 2 _ rfl
        have a3 : wr.cell? ⟨b1, o1 + i * 8 + 3, none⟩ = some (.int .i64 q4) := hcx 3 _ rfl
        have a4 : wr.cell? ⟨b1, o1 + i * 8 + 4, none⟩ = some (.int .i64 q5) := hcx 4 _ rfl
        have a5 : wr.cell? ⟨b1, o1 + i * 8 + 5, none⟩ = some (.slice B1 n1 d1) := hcx 5 _ rfl
        have a6 : wr.cell? ⟨b1, o1 + i * 8 + 6, none⟩ = some (.slice C1 i1 j1) := hcx 6 _ rfl
        have a7 : wr.cell? ⟨b1, o1 + i * 8 + 7, none⟩ = some (.slice D1 k1 l1) := hcx 7 _ rfl
        have e0 : wr.cell? ⟨b2, o2 + i * 8, none⟩ = some (.int .i64 p1) := hcy 0 _ rfl
        have e1 : wr.cell? ⟨b2, o2 + i * 8 + 1, none⟩ = some (.int .i64 p2) := hcy 1 _ rfl
        have e2 : wr.cell? ⟨b2, o2 + i * 8 + 2, none⟩ = some (.int .i64 p3) := hcy 2 _ rfl
        have e3 : wr.cell? ⟨b2, o2 + i * 8 + 3, none⟩ = some (.int .i64 p4) := hcy 3 _ rfl
        have e4 : wr.cell? ⟨b2, o2 + i * 8 + 4, none⟩ = some (.int .i64 p5) := hcy 4 _ rfl
        have e5 : wr.cell? ⟨b2, o2 + i * 8 + 5, none⟩ = some (.slice B2 n2 d2) := hcy 5 _ rfl
        have e6 : wr.cell? ⟨b2, o2 + i * 8 + 6, none⟩ = some (.slice C2 i2 j2) := hcy 6 _ rfl
        have e7 : wr.cell? ⟨b2, o2 + i * 8 + 7, none⟩ = some (.slice D2 k2 l2) := hcy 7 _ rfl
        clear hcx hcy
        go_wp2_with (with_reducible refine at_op (Op.load 98 (.tmp 25)) rfl ?_; refine Hid.out ?_)
        refine Lib.hid ?_
        first | (refine calls_named ?_; intro W1 hW1) | (refine body_named ?_; intro W1 hW1) | (refine wpList_named ?_; intro W1 hW1) | (refine wp_named ?_; intro W1 hW1)
        have hz := HB.out.size
        have hb1' : Below wr.heap.size wr W1 := by rw [← hW1]; exact (Below.refl _ _).alloc (Nat.le_refl _) _
        have hx1 : Blk W1 wr.heap.size 98 #[.int .i64 q1, .int .i64 q2, .int .i64 q3, .int .i64 q4, .int .i64 q5, .slice B1 n1 d1, .slice C1 i1 j1, .slice D1 k1 l1] := by rw [← hW1]; exact Blk.new wr _ _
        clear hW1
        have hb2' : b2 < wr.heap.size := by have := hz; omega
        rw [← hb1'.cell hb2'] at e0 e1 e2 e3 e4 e5 e6 e7
        go_wp2_with (with_reducible refine at_op (Op.load 3 (.tmp 27)) rfl ?_; refine Hid.out ?_)
        refine Lib.hid ?_
        first | (refine calls_named ?_; intro W2 hW2) | (refine body_named ?_; intro W2 hW2) | (refine wpList_named ?_; intro W2 hW2) | (refine wp_named ?_; intro W2 hW2)
        have hb2' : Below wr.heap.size wr W2 := by rw [← hW2]; exact hb1'.alloc hb1'.size _
        have hx2 : Blk W2 wr.heap.size 98 #[.int .i64 q1, .int .i64 q2, .int .i64 q3, .int .i64 q4, .int .i64 q5, .slice B1 n1 d1, .slice C1 i1 j1, .slice D1 k1 l1] := by rw [← hW2]; exact hx1.alloc _
        have hy2 : Blk W2 W1.heap.size 98 #[.int .i64 p1, .int .i64 p2, .int .i64 p3, .int .i64 p4, .int .i64 p5, .slice B2 n2 d2, .slice C2 i2 j2, .slice D2 k2 l2] := by rw [← hW2]; exact Blk.new W1 _ _
        clear hW2 hx1 e0 e1 e2 e3 e4 e5 e6 e7 a0 a1 a2 a3 a4 a5 a6 a7
        have HX2 := Lib.hid hx2
        have HY2 := Lib.hid hy2
        have HB2 := Lib.hid (HB.out.trans (hb2'.mono hz))
        have HQ := Lib.hid hq
        have HP := Lib.hid hp
        have HQ1 := Lib.hid hq1
        have HP1 := Lib.hid hp1
        have HQ2 := Lib.hid hq2
        have HP2 := Lib.hid hp2
        have HFn := Lib.hid (show RepS S w R (xs.drop ((i + 1) * 8)) by rw [show (i + 1) * 8 = i * 8 + 8 by omega, ← List.drop_drop, hxs]; exact hR)
        have HGn := Lib.hid (show RepS S' w Q (ys.drop ((i + 1) * 8)) by rw [show (i + 1) * 8 = i * 8 + 8 by omega, ← List.drop_drop, hyt]; exact hQ)
        have HRn := Lib.hid (HRR.out.trans (sf_eq _ _ _ _ _ _ _ _ _ _ _ _ _ _ _ _ _ _))
        have HC1 := Lib.hid (show ssz qt < ssz x ∧ ssz qe < ssz x ∧ ssz R ≤ ssz x by have := HCS.out; rw [ssz_cons] at this; omega)
        have HL1 := Lib.hid (show R.len = m - (i + 1) ∧ Q.len = m - (i + 1) by have h1 := HLF.out; have h2 := HLG.out; rw [slen_cons] at h1 h2; omega)
        have HZ := Lib.hid (show W1.heap.size < W2.heap.size by have := hy2.lt; exact this)
        clear hxs hyt hq hp hq1 hq2 hp1 hp2 hR hQ hc1 hc2 hb1' hb2' hx2 hy2 hz HF HG HLF HLG HRR HCS HFX HFY HRX HRY
        have f0 := HX2.out.cell 0
        have g0 := HY2.out.cell 0
        have f1 := HX2.out.cell 1
        have g1 := HY2.out.cell 1
        by_cases hk : q1 = p1 ∧ q2 = p2
        · obtain ⟨rfl, rfl⟩ := hk
          rw [decide_eq_true rfl, decide_eq_true rfl, Bool.true_and, Bool.true_and] at HRn
          have f2 := HX2.out.cell 2
          have g2 := HY2.out.cell 2
          have f3 := HX2.out.cell 3
          have g3 := HY2.out.cell 3
          have f4 := HX2.out.cell 4
          have g4 := HY2.out.cell 4
          have f5 := HX2.out.cell 5
          have g5 := HY2.out.cell 5
          go_wp2_with (fail)
          have lift2 : Only (fun _ => False) w W2 := Only.of_below HB2.out
          refine (samecond_any S S' ⟨q3, q4, q5, qs⟩ ⟨p3, p4, p5, ps⟩ _ _ n1 d1 n2 d2 W2 (HQ.out.only lift2 (fun _ h => h.elim)) (HP.out.only lift2 (fun _ h => h.elim))).mono ?_
          rintro e w3 ⟨rfl, hb⟩
          have HB3 := Lib.hid (HB2.out.trans (hb.mono HB2.out.size))
          have HX3 := Lib.hid (HX2.out.below hb HX2.out.lt)
          have HY3 := Lib.hid (HY2.out.below hb HY2.out.lt)
          clear lift2 hb HX2 HY2 HB2 f0 g0 f1 g1 f2 g2 f3 g3 f4 g4 f5 g5
          cases hd : decide ((⟨q3, q4, q5, qs⟩ : CT) = ⟨p3, p4, p5, ps⟩) with
          | false =>
            rw [hd, Bool.false_and] at HRn
            clear hd
            go_wp2_with (fail)
            go_ret
            exact ⟨congrArg (fun b => Ending.returned (Value.bool b)) HRn.out.symm, HB3.out⟩
          | true =>
            rw [hd, Bool.true_and] at HRn
            clear hd
            have f6 := HX3.out.cell 6
            have g6 := HY3.out.cell 6
            go_wp2_with (fail)
            have lift3 : Only (fun _ => False) w w3 := Only.of_below HB3.out
            refine (HI.out (ssz x) hN S S' qt pt _ _ i1 j1 i2 j2 w3 HC1.out.1 (HQ1.out.only lift3 (fun _ h => h.elim)) (HP1.out.only lift3 (fun _ h => h.elim))).mono ?_
            rintro e w4 ⟨rfl, hb⟩
            have HB4 := Lib.hid (HB3.out.trans (hb.mono HB3.out.size))
            have HX4 := Lib.hid (HX3.out.below hb HX3.out.lt)
            have HY4 := Lib.hid (HY3.out.below hb HY3.out.lt)
            clear lift3 hb HX3 HY3 HB3 f6 g6
            cases hd : decide (qt = pt) with
            | false =>
              rw [hd, Bool.false_and] at HRn
              clear hd
              go_wp2_with (fail)
              go_ret
              exact ⟨congrArg (fun b => Ending.returned (Value.bool b)) HRn.out.symm, HB4.out⟩
            | true =>
              rw [hd, Bool.true_and] at HRn
              clear hd
              have f7 := HX4.out.cell 7
              have g7 := HY4.out.cell 7
              go_wp2_with (fail)
              have lift4 : Only (fun _ => False) w w4 := Only.of_below HB4.out
              refine (HI.out (ssz x) hN S S' qe pe _ _ k1 l1 k2 l2 w4 HC1.out.2.1 (HQ2.out.only lift4 (fun _ h => h.elim)) (HP2.out.only lift4 (fun _ h => h.elim))).mono ?_
              rintro e w5 ⟨rfl, hb⟩
              have HB5 := Lib.hid (HB4.out.trans (hb.mono HB4.out.size))
              have HX5 := Lib.hid (HX4.out.below hb HX4.out.lt)
              have HY5 := Lib.hid (HY4.out.below hb HY4.out.lt)
              clear lift4 hb HX4 HY4 HB4 f7 g7
              cases hd : decide (qe = pe) with
              | false =>
                rw [hd, Bool.false_and] at HRn
                clear hd
                go_wp2_with (fail)
                go_ret
                exact ⟨congrArg (fun b => Ending.returned (Value.bool b)) HRn.out.symm, HB5.out⟩
              | true =>
                rw [hd, Bool.true_and] at HRn
                clear hd

                go_wp2_with (fail)
                go_roundw
                case rel => exact ⟨i + 1, R, Q, by omega, by go_num, HB5.out, HFn.out, HGn.out, HL1.out.1, HL1.out.2, HRn.out, HC1.out.2.2⟩
                case measure => simp [intOf]; omega
        · have HRf := Lib.hid (show r = false by rw [HRn.out, ← Bool.and_assoc, ← Bool.decide_and, decide_eq_false hk, Bool.false_and])
          clear HRn
          go_wp2_with (fail)
          all_goals first
            | (go_ret; exact ⟨congrArg (fun b => Ending.returned (Value.bool b)) HRf.out.symm, HB2.out⟩)
            | (exfalso; apply hk; omega)
      · have HRt := Lib.hid (show r = true by
          rw [HRR.out]
          have h1 := HLF.out
          have h2 := HLG.out
          cases F with
          | nil => cases G with
            | nil => rfl
            | cons => rw [slen_cons] at h2; omega
          | cons => rw [slen_cons] at h1; omega)
        go_wp2
        go_ret
        exact ⟨congrArg (fun b => Ending.returned (Value.bool b)) HRt.out.symm, HB.out⟩
  · go_enter Tryz.func30, Tryz.ntmps30
    go_wp2_with (fail)
    go_ret
    exact ⟨congrArg (fun b => Ending.returned (Value.bool b)) (decide_eq_false (fun e => by have h1 := HM.out; have h2 := HM'.out; rw [e] at h1; omega)).symm, Below.refl _ _⟩
theorem es_all (N : Nat) : ES N := by
  induction N using Nat.strongRecOn with
  | _ N ih => exact ss_of N ih
/-- The reference's SameSteps. -/
theorem samesteps_any (S S' : Nat → Prop) (x y : SF) (A A' : Option Addr) (m c m' c' : Nat) (w : World) (h1 : RepT S w x A m c) (h2 : RepT S' w y A' m' c') :
    Calls Tryz.prog 30 #[.slice A m c, .slice A' m' c'] w fun e w' => e = .returned (.bool (decide (x = y))) ∧ Below w.heap.size w w' := es_all (ssz x + 1) S S' x y A A' m c m' c' w (Nat.lt_succ_self _) h1 h2
end Go.Proofs.YtlgdmbdhffdenaaGreatDoor

/- The reference's Same by its contract. -/
namespace Go.Proofs.YtlgdmbdhffdenaaGreatDoor
set_option linter.unusedVariables false
set_option linter.unusedSimpArgs false
open Go.RowKit

def rulesV (r : RT) (A : Option Addr) (m c : Nat) (A' : Option Addr) (m' c' : Nat) : Value :=
  .agg #[.string (bs r.name), .int .i64 r.win, .int .i64 r.draw, .int .i64 r.loss, .slice A m c, .slice A' m' c']
theorem bs_iff {a b : List UInt8} : bs a = bs b ↔ a = b := ⟨fun h => by
  have := congrArg (fun x : ByteArray => x.data.toList) h
  simpa [bs] using this, fun h => by rw [h]⟩
theorem z_eq (a b : ZT) (l l' : List ZT) : decide (a :: l = b :: l') = (decide (bs a.name = bs b.name ∧ a.fr = b.fr ∧ a.to = b.to) && decide (l = l')) := by
  rw [← Bool.decide_and]
  obtain ⟨x, y, z⟩ := a
  obtain ⟨x', y', z'⟩ := b
  simp [bs_iff]
theorem r_eq (x y : RT) : decide (x = y) = (decide (bs x.name = bs y.name ∧ x.win = y.win ∧ x.draw = y.draw ∧ x.loss = y.loss) && (decide (x.zones = y.zones) && decide (x.order = y.order))) := by
  simp only [← Bool.decide_and]
  obtain ⟨x1, x2, x3, x4, x5, x6⟩ := x
  obtain ⟨y1, y2, y3, y4, y5, y6⟩ := y
  simp only [bs_iff, RT.mk.injEq]
  congr 1
  simp only [and_assoc, eq_iff_iff]
  constructor
  · rintro ⟨a, b, c, d, e, f⟩; exact ⟨a, b, c, d, f, e⟩
  · rintro ⟨a, b, c, d, e, f⟩; exact ⟨a, b, c, d, f, e⟩
/-- Zone k of a slice. -/
theorem Rd.zone {w : World} {B n c k : Nat} {A : Option Addr} {l : List ZT} (h : Rd w B 3 A n c (l.flatMap zoneCells)) (hk : k < n) : ∃ b off t, A = some ⟨b, off, none⟩ ∧ b < B ∧ l.drop k = t :: l.drop (k + 1) ∧
    w.cell? ⟨b, off + k * 3, none⟩ = some (.string (bs t.name)) ∧ w.cell? ⟨b, off + k * 3 + 1, none⟩ = some (.int .i64 t.fr) ∧ w.cell? ⟨b, off + k * 3 + 2, none⟩ = some (.int .i64 t.to) := by
  have hT : l.length = n := by have := h.len; rw [flatMap_len zoneCells 3 zone_len] at this; omega
  obtain ⟨b, off, e, hb, hc⟩ := h.cells (by omega)
  have hk' : k < l.length := by omega
  refine ⟨b, off, l[k], e, hb, (List.drop_eq_getElem_cons hk'), ?_, ?_, ?_⟩
  · have := hc (k * 3 + 0) (.string (bs l[k].name)) (by rw [flat_get zoneCells 3 zone_len l k 0 hk' (by omega)]; rfl)
    simpa using this
  · have := hc (k * 3 + 1) (.int .i64 l[k].fr) (by rw [flat_get zoneCells 3 zone_len l k 1 hk' (by omega)]; rfl)
    rwa [← Nat.add_assoc] at this
  · have := hc (k * 3 + 2) (.int .i64 l[k].to) (by rw [flat_get zoneCells 3 zone_len l k 2 hk' (by omega)]; rfl)
    rwa [← Nat.add_assoc] at this
set_option maxHeartbeats 4000000 in
set_option maxRecDepth 100000 in
theorem same_any (S S' : Nat → Prop) (x y : RT) (A A' C C' : Option Addr) (m c m' c' i j i' j' : Nat) (w : World) (h1 : RepT S w x.order A m c) (h2 : RepT S' w y.order A' m' c') (h3 : RepZ S w x.zones C i j) (h4 : RepZ S' w y.zones C' i' j') :
    Calls Tryz.prog 15 #[rulesV x A m c C i j, rulesV y A' m' c' C' i' j'] w fun e w' => e = .returned (.bool (decide (x = y))) ∧ Below w.heap.size w w' := by
  have H1 := Lib.hid h1
  have H2 := Lib.hid h2
  have H3 := Lib.hid h3.1
  have H4 := Lib.hid h4.1
  have HI := Lib.hid (show x.zones.length = i by have := h3.1.len; rw [flatMap_len zoneCells 3 zone_len] at this; omega)
  have HI' := Lib.hid (show y.zones.length = i' by have := h4.1.len; rw [flatMap_len zoneCells 3 zone_len] at this; omega)
  have hcap1 := h3.1.cap
  have hcap2 := h4.1.cap
  have hbig1 := h3.1.big
  have hbig2 := h4.1.big
  clear h1 h2 h3 h4
  obtain ⟨r, HR⟩ : ∃ r, Hid (r = decide (x = y)) := ⟨_, Lib.hid rfl⟩
  rw [← HR.out]
  have HR' := Lib.hid (HR.out.trans (r_eq x y))
  clear HR
  unfold rulesV
  obtain ⟨n1, x1, x2, x3, o1, z1⟩ := x
  obtain ⟨n2, y1, y2, y3, o2, z2⟩ := y
  simp only at H1 H2 H3 H4 HI HI' HR' ⊢
  generalize bs n1 = N1 at *
  generalize bs n2 = N2 at *
  have HB := Lib.hid (((Below.refl w.heap.size w).alloc (Nat.le_refl _) (.cells #[.string N1, .int .i64 x1, .int .i64 x2, .int .i64 x3, .slice A m c, .slice C i j] 28)).alloc (by simp) (.cells #[.string N2, .int .i64 y1, .int .i64 y2, .int .i64 y3, .slice A' m' c', .slice C' i' j'] 28))
  by_cases hk : (N1 = N2 ∧ x1 = y1 ∧ x2 = y2 ∧ x3 = y3) ∧ i = i'
  · obtain ⟨⟨rfl, rfl, rfl, rfl⟩, rfl⟩ := hk
    rw [decide_eq_true ⟨rfl, rfl, rfl, rfl⟩, Bool.true_and] at HR'
    go_enter Tryz.func15, Tryz.ntmps15
    go_wp2_with (fail)
    first | (refine calls_named ?_; intro W0 hW0) | (refine body_named ?_; intro W0 hW0) | (refine wpList_named ?_; intro W0 hW0) | (refine wp_named ?_; intro W0 hW0)
    have hx0 : Blk W0 w.heap.size 28 #[.string N1, .int .i64 x1, .int .i64 x2, .int .i64 x3, .slice A m c, .slice C i j] := by rw [← hW0]; exact (Blk.new w _ _).alloc _
    have hy0 : Blk W0 (w.heap.size + 1) 28 #[.string N1, .int .i64 x1, .int .i64 x2, .int .i64 x3, .slice A' m' c', .slice C' i j'] := by rw [← hW0, ← World.size_alloc]; exact Blk.new _ _ _
    have hb0 : Below w.heap.size w W0 := by rw [← hW0]; exact ((Below.refl _ _).alloc (Nat.le_refl _) _).alloc (by simp) _
    clear hW0 HB
    have HX := Lib.hid hx0
    have HY := Lib.hid hy0
    have HB0 := Lib.hid hb0
    have f5 := hx0.cell 5
    have g5 := hy0.cell 5
    clear hx0 hy0 hb0
    go_loopw [5] (fun s wr => ∃ (k : Nat), k ≤ i ∧ s = .int .i64 k ∧ Hid (Below w.heap.size w wr) ∧ Hid (Blk wr w.heap.size 28 #[.string N1, .int .i64 x1, .int .i64 x2, .int .i64 x3, .slice A m c, .slice C i j]) ∧ Hid (Blk wr (w.heap.size + 1) 28 #[.string N1, .int .i64 x1, .int .i64 x2, .int .i64 x3, .slice A' m' c', .slice C' i j']) ∧
      Hid (r = (decide (z1.drop k = z2.drop k) && decide (o1 = o2)))) (fun s _ => i - (intOf s).toNat)
    case atStart => exact ⟨0, Nat.zero_le _, rfl, HB0.out, HX.out, HY.out, HR'.out⟩
    case round =>
      obtain ⟨k, hki, rfl, HB, HXr, HYr, HRR⟩ := hrel
      clear f5 g5
      have f5 := HXr.out.cell 5
      have g5 := HYr.out.cell 5
      by_cases hlt : k < i
      · obtain ⟨b1, p1, t1, rfl, hb1, hd1, a0, a1, a2⟩ := H3.out.zone hlt
        obtain ⟨b2, p2, t2, rfl, hb2, hd2, e0, e1, e2⟩ := H4.out.zone hlt
        rw [← HB.out.cell hb1] at a0 a1 a2
        rw [← HB.out.cell hb2] at e0 e1 e2
        have HRn := Lib.hid (HRR.out.trans (by rw [hd1, hd2, z_eq, Bool.and_assoc]))
        clear HRR hd1 hd2
        obtain ⟨s1, u1, v1⟩ := t1
        obtain ⟨s2, u2, v2⟩ := t2
        simp only at a0 a1 a2 e0 e1 e2 HRn
        generalize bs s1 = M1 at *
        generalize bs s2 = M2 at *
        by_cases hk : M1 = M2 ∧ u1 = u2 ∧ v1 = v2
        · obtain ⟨rfl, rfl, rfl⟩ := hk
          rw [decide_eq_true ⟨rfl, rfl, rfl⟩, Bool.true_and] at HRn
          go_wp2_with (fail)
          go_quiet (fail)
          go_wp2_with (fail)
          go_roundw
          case rel => exact ⟨k + 1, by omega, by go_num, Lib.hid (HB.out.trans (bdrew _ _)), Lib.hid (HXr.out.drewN _), Lib.hid (HYr.out.drewN _), HRn.out⟩
          case measure => simp [intOf]; omega
        · by_cases hM : M1 = M2
          · subst hM
            by_cases hu : u1 = u2
            · subst hu
              have hv : ¬ v1 = v2 := fun e => hk ⟨rfl, rfl, e⟩
              have HRf := Lib.hid (show r = false by rw [HRn.out, decide_eq_false hk, Bool.false_and])
              clear HRn
              go_wp2_with (fail)
              go_quiet (fail)
              go_wp2_with (fail)
              go_ret
              exact ⟨congrArg (fun b => Ending.returned (Value.bool b)) HRf.out.symm, HB.out.trans (bdrew _ _)⟩
            · have hu2 := hu
              have HRf := Lib.hid (show r = false by rw [HRn.out, decide_eq_false hk, Bool.false_and])
              clear HRn
              go_wp2_with (fail)
              go_quiet (fail)
              go_wp2_with (fail)
              go_ret
              exact ⟨congrArg (fun b => Ending.returned (Value.bool b)) HRf.out.symm, HB.out.trans (bdrew _ _)⟩
          · have hM' : ¬ M1.toList = M2.toList := fun e => hM (by rw [Lib.toList_data, Lib.toList_data] at e; exact ByteArray.ext (Array.toList_inj.1 e))
            have HRf := Lib.hid (show r = false by rw [HRn.out, decide_eq_false hk, Bool.false_and])
            clear HRn
            go_wp2_with (fail)
            go_quiet (fail)
            go_wp2_with (fail)
            go_ret
            exact ⟨congrArg (fun b => Ending.returned (Value.bool b)) HRf.out.symm, HB.out.trans (bdrew _ _)⟩
      · have HRt := Lib.hid (show r = decide (o1 = o2) by
          rw [HRR.out, List.drop_eq_nil_of_le (by have := HI.out; omega), List.drop_eq_nil_of_le (by have := HI'.out; omega), decide_eq_true rfl, Bool.true_and])
        have f4 := HXr.out.cell 4
        have g4 := HYr.out.cell 4
        have lf : Only (fun _ => False) w wr := Only.of_below HB.out
        go_wp2_with (fail)
        refine (samesteps_any S S' o1 o2 A A' m c m' c' wr (H1.out.only lf (fun _ h => h.elim)) (H2.out.only lf (fun _ h => h.elim))).mono ?_
        rintro e w3 ⟨rfl, hb3⟩
        have HB3 := Lib.hid (HB.out.trans (hb3.mono HB.out.size))
        clear lf hb3 f4 g4 f5 g5
        rw [← HRt.out]
        go_wp2_with (fail)
        go_ret
        exact ⟨rfl, HB3.out⟩
  · have HF := Lib.hid (show r = false by
      rw [HR'.out]
      by_cases ha : N1 = N2 ∧ x1 = y1 ∧ x2 = y2 ∧ x3 = y3
      · rw [decide_eq_false (p := z1 = z2) (fun e => hk ⟨ha, by have a := HI.out; have b := HI'.out; rw [e] at a; omega⟩), Bool.false_and, Bool.and_false]
      · rw [decide_eq_false ha, Bool.false_and])
    clear HR'
    go_enter Tryz.func15, Tryz.ntmps15
    go_wp2_with (fail)
    all_goals first
      | (go_ret; exact ⟨congrArg (fun b => Ending.returned (Value.bool b)) HF.out.symm, ((Below.refl _ _).alloc (Nat.le_refl _) _).alloc (by simp) _⟩)
      | (exfalso; apply hk; rename (_ != _) = false => h; rename N1.toList = N2.toList => h2; rw [Lib.toList_data, Lib.toList_data] at h2; exact ⟨⟨ByteArray.ext (Array.toList_inj.1 h2), by assumption, by assumption, by assumption⟩, by simp at h; omega⟩)
end Go.Proofs.YtlgdmbdhffdenaaGreatDoor
