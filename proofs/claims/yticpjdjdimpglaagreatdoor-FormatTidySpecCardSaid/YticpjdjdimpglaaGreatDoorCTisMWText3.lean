/- typing.isName, typing.Rules by their contracts. -/
import Derived.Test.YticpjdjdimpglaaGreatDoorCTisMSam
import Derived.Test.YticpjdjdimpglaaGreatDoorCTisMCmp2
import Derived.BigQuiet
import Derived.Laws.StructEq
import Derived.Test.YticpjdjdimpglaaGreatDoorCTisMJoinPlain
import Derived.Test.YticpjdjdimpglaaGreatDoorCTisShelf
import Derived.Test.YticpjdjdimpglaaGreatDoorProg
import Derived.Test.YticpjdjdimpglaaGreatDoorCTisMTRow
import Derived.Lib.BufferAt
import Derived.Deep.RegionHeld3
import Derived.Handy
import Derived.Test.YticpjdjdimpglaaGreatDoorCTisMFRules
import Derived.StillTailTactics
import Derived.Deep.LoopGhost
import Derived.Laws.EntriesVeiled
namespace Go.Proofs.YticpjdjdimpglaaGreatDoor
set_option linter.unusedVariables false
set_option linter.unusedSimpArgs false
open Go.RowKit
def chB (n : Nat) : Prop := (97 ≤ n ∧ n ≤ 122) ∨ (48 ≤ n ∧ n ≤ 57) ∨ n = 95
theorem nameCh_iff (c : UInt8) : nameCh c = true ↔ chB c.toNat := by
  unfold nameCh chB
  simp only [Bool.or_eq_true, Bool.and_eq_true, decide_eq_true_eq, beq_iff_eq]
  omega
theorem nameB_iff (l : List UInt8) : nameB l = true ↔ 0 < l.length ∧ l.length ≤ 24 ∧ 97 ≤ bt l 0 ∧ bt l 0 ≤ 122 ∧ ∀ q, q < l.length → chB (bt l q) := by
  cases l with
  | nil => simp [nameB]
  | cons c r =>
    simp only [nameB, Bool.and_eq_true, decide_eq_true_eq, List.all_eq_true]
    constructor
    · rintro ⟨⟨h1, h2⟩, h3⟩
      refine ⟨by simp, h1, h2.1, h2.2, fun q hq => ?_⟩
      cases q with
      | zero => exact .inl h2
      | succ q =>
        rw [bt_cons_succ]
        have hq' : q < r.length := by simpa using hq
        rw [bt_get r q hq']
        exact (nameCh_iff _).1 (h3 _ (List.getElem_mem hq'))
    · rintro ⟨_, h1, h2, h3, h4⟩
      refine ⟨⟨h1, h2, h3⟩, fun d hd => ?_⟩
      obtain ⟨q, hq, rfl⟩ := List.mem_iff_getElem.1 hd
      have := h4 (q + 1) (by simpa using hq)
      rw [bt_cons_succ, bt_get r q hq] at this
      exact (nameCh_iff _).2 this
set_option maxHeartbeats 4000000 in
set_option maxRecDepth 100000 in
theorem isname_any (l : List UInt8) (w : World) (hl : l.length ≤ 1000000) : Calls Tryz.prog 81 #[.string (bs l)] w fun e w' => e = .returned (.bool (nameB l)) ∧ w = w' := by
  have HE := Lib.hid (nameB_iff l)
  generalize nameB l = r at HE ⊢
  by_cases h : (0 < l.length ∧ l.length ≤ 24) ∧ 97 ≤ bt l 0 ∧ bt l 0 ≤ 122
  · obtain ⟨⟨h0, h24⟩, ha, hz⟩ := h
    have h1 : ¬ ((l.length : Int) < 1) := by omega
    have H24 := Lib.hid (show (0 < l.length ∧ l.length ≤ 24) ∧ 97 ≤ bt l 0 ∧ bt l 0 ≤ 122 from ⟨⟨h0, h24⟩, ha, hz⟩)
    go_enter Tryz.func81, Tryz.ntmps81
    go_wp2_with (fail)
    go_loop [25] (fun s => ∃ i : Nat, i ≤ l.length ∧ s = .int .i64 i ∧ Hid (∀ q, q < i → chB (bt l q))) (fun s => l.length - (intOf s).toNat)
    case atStart => exact ⟨0, Nat.zero_le _, rfl, fun q hq => absurd hq (Nat.not_lt_zero _)⟩
    case round =>
      obtain ⟨i, hi, rfl, HA⟩ := hrel
      by_cases hlt : i < l.length
      · by_cases hc : chB (bt l i)
        · have HA2 := Lib.hid (show ∀ q, q < i + 1 → chB (bt l q) from fun q hq => by
            by_cases e : q = i
            · rw [e]; exact hc
            · exact HA.out q (by omega))
          obtain ⟨x, HX⟩ : ∃ x, Hid (x = bt l i) := ⟨_, Lib.hid rfl⟩
          have hx5 := bs_get l i (by rw [bs_size]; exact hlt)
          rw [← HX.out] at hc hx5
          rcases hc with hc | hc | hc
          · obtain ⟨c1, c2⟩ := hc
            go_wp2_with (fail)
            all_goals
              go_round
              case rel => exact ⟨i + 1, hlt, by go_num, HA2.out⟩
              case measure => simp [intOf]; omega
          · obtain ⟨c1, c2⟩ := hc
            have c3 : x < 97 := by omega
            go_wp2_with (fail)
            all_goals
              go_round
              case rel => exact ⟨i + 1, hlt, by go_num, HA2.out⟩
              case measure => simp [intOf]; omega
          · subst hc
            go_wp2_with (fail)
            all_goals
              go_round
              case rel => exact ⟨i + 1, hlt, by go_num, HA2.out⟩
              case measure => simp [intOf]; omega
        · have HF := Lib.hid (show r = false by
            cases r with
            | false => rfl
            | true => exact absurd ((HE.out.1 rfl).2.2.2.2 i hlt) hc)
          obtain ⟨x, HX⟩ : ∃ x, Hid (x = bt l i) := ⟨_, Lib.hid rfl⟩
          have hx5 := bs_get l i (by rw [bs_size]; exact hlt)
          rw [← HX.out] at hc hx5
          have h95 : ((x : Int) != 95) = true := by
            rw [bne_iff_ne]; intro e; exact hc (.inr (.inr (by omega)))
          have hcc : (x < 97 ∨ 122 < x) ∧ (x < 48 ∨ 57 < x) := by
            refine ⟨?_, ?_⟩
            · rcases Nat.lt_or_ge x 97 with h | h
              · exact .inl h
              · rcases Nat.lt_or_ge 122 x with h2 | h2
                · exact .inr h2
                · exact absurd (.inl ⟨h, h2⟩) hc
            · rcases Nat.lt_or_ge x 48 with h | h
              · exact .inl h
              · rcases Nat.lt_or_ge 57 x with h2 | h2
                · exact .inr h2
                · exact absurd (.inr (.inl ⟨h, h2⟩)) hc
          clear hc
          obtain ⟨h1 | h1, h2 | h2⟩ := hcc
          all_goals first
            | (exfalso; omega)
            | (go_wp2_with (fail)
               go_ret
               exact ⟨ret_bool HF.out.symm, rfl⟩)
      · have HF := Lib.hid (show r = true from HE.out.2 ⟨H24.out.1.1, H24.out.1.2, H24.out.2.1, H24.out.2.2, fun q hq => HA.out q (by omega)⟩)
        go_wp2_with (fail)
        go_ret
        exact ⟨ret_bool HF.out.symm, rfl⟩
  · have HF := Lib.hid (show r = false by
      cases r with
      | false => rfl
      | true =>
        obtain ⟨h1, h2, h3, h4, _⟩ := HE.out.1 rfl
        exact absurd ⟨⟨h1, h2⟩, h3, h4⟩ h)
    clear HE
    by_cases h0 : 0 < l.length
    · by_cases h24 : l.length ≤ 24
      · have hx5 := bs_get l 0 (by rw [bs_size]; exact h0)
        have hcc : bt l 0 < 97 ∨ 122 < bt l 0 := by
          rcases Nat.lt_or_ge (bt l 0) 97 with h1 | h1
          · exact .inl h1
          · rcases Nat.lt_or_ge 122 (bt l 0) with h2 | h2
            · exact .inr h2
            · exact absurd ⟨⟨h0, h24⟩, h1, h2⟩ h
        clear h
        rcases hcc with h1 | h1
        all_goals
          go_enter Tryz.func81, Tryz.ntmps81
          go_wp2_with (fail)
          go_ret
          exact ⟨ret_bool HF.out.symm, rfl⟩
      · clear h
        go_enter Tryz.func81, Tryz.ntmps81
        go_wp2_with (fail)
        go_ret
        exact ⟨ret_bool HF.out.symm, rfl⟩
    · clear h
      have h1 : l.length < 1 := by omega
      go_enter Tryz.func81, Tryz.ntmps81
      go_wp2_with (fail)
      go_ret
      exact ⟨ret_bool HF.out.symm, rfl⟩
def rV (r : RT) (A : Option Addr) (m d : Nat) (C : Option Addr) (i j : Nat) : Value :=
  .agg #[.string (bs r.name), .int .i64 r.win, .int .i64 r.draw, .int .i64 r.loss, .slice A m d, .slice C i j]
theorem zones_len : ∀ l : List ZT, (l.flatMap zoneCells).length = l.length * 3
  | [] => rfl
  | z :: l => by rw [List.flatMap_cons, List.length_append, zones_len l, List.length_cons]; show 3 + _ = _; omega
theorem zones_get : ∀ (l : List ZT) (k j : Nat) (hk : k < l.length), j < 3 → (l.flatMap zoneCells)[k * 3 + j]? = (zoneCells l[k])[j]?
  | [], k, j, hk, _ => by simp at hk
  | z :: l, 0, j, _, hj => by rw [List.flatMap_cons, Nat.zero_mul, Nat.zero_add, List.getElem?_append_left (by show j < 3; exact hj)]; rfl
  | z :: l, k + 1, j, hk, hj => by
    rw [List.flatMap_cons, List.getElem?_append_right (by show 3 ≤ _; omega), show (k + 1) * 3 + j - (zoneCells z).length = k * 3 + j by show _ - 3 = _; omega, zones_get l k j (by simpa using hk) hj]
    rfl
/-- Zone k of a row. -/
theorem RepZ.elem {S : Nat → Prop} {w : World} {l : List ZT} {A : Option Addr} {m c k : Nat} (h : RepZ S w l A m c) (hk : k < m) : ∃ b off z, A = some ⟨b, off, none⟩ ∧ b < w.heap.size ∧ ¬ S b ∧ l[k]? = some z ∧
    w.cell? ⟨b, off + k * 3, none⟩ = some (.string (bs z.name)) ∧ w.cell? ⟨b, off + k * 3 + 1, none⟩ = some (.int .i64 z.fr) ∧ w.cell? ⟨b, off + k * 3 + 2, none⟩ = some (.int .i64 z.to) := by
  obtain ⟨h, hav⟩ := h
  have hT : l.length = m := by have := h.len; rw [zones_len] at this; omega
  obtain ⟨b, off, rfl, hb, hc⟩ := h.cells (by omega)
  have hk' : k < l.length := by omega
  have g := fun j hj => zones_get l k j hk' hj
  refine ⟨b, off, l[k], rfl, hb, hav (by omega) _ rfl, List.getElem?_eq_getElem hk', hc (k * 3) _ (g 0 (by omega)), ?_, ?_⟩
  · rw [Nat.add_assoc]; exact hc _ _ (g 1 (by omega))
  · rw [Nat.add_assoc]; exact hc _ _ (g 2 (by omega))
theorem RepZ.len {S : Nat → Prop} {w : World} {l : List ZT} {A : Option Addr} {m c : Nat} (h : RepZ S w l A m c) : m = l.length := by
  have := h.1.len
  rw [zones_len] at this
  omega
def plB (n : Int) : Bool := decide (n ≠ 0 ∧ n ≤ 24 ∧ -24 ≤ n)
theorem zoneB_eq (z : ZT) : zoneB z = (plB z.fr && plB z.to && nameB z.name) := by
  unfold zoneB plB
  rw [Bool.eq_iff_iff]
  simp [and_assoc]
theorem trules_def (r : RT) : trules r = if nameB r.name = false ∨ 99 < r.win ∨ r.win < r.draw ∨ r.draw < r.loss ∨ r.loss < -99 then 140 else if torder r.order ≠ 0 then torder r.order else if 16 < r.zones.length then 2 else if r.zones.all zoneB then 0 else 140 := rfl
end Go.Proofs.YticpjdjdimpglaaGreatDoor
/- slices.Equal at zones, by its contract. -/
namespace Go.Proofs.YticpjdjdimpglaaGreatDoor
set_option linter.unusedVariables false
set_option linter.unusedSimpArgs false
open Go.RowKit
def zV (z : ZT) : Value := .agg #[.string (bs z.name), .int .i64 z.fr, .int .i64 z.to]
theorem zone_eqIn (x y : ZT) (w : World) : (Op.equalIn 10000 73 (zV x) (zV y)).run Tryz.prog w = .ok (decide (x = y)) w := by
  have u3 := Tryz.underlying3
  have a3 := Tryz.isAgg3
  have z3 := Tryz.sizeOf3
  have u9 := Tryz.underlying9
  have a9 := Tryz.isAgg9
  have z9 := Tryz.sizeOf9
  have hS : Tryz.prog.underlying 73 = some (.struct (Tryz.prog.fieldsOf 73)) := by kernel_rfl
  have hp : Tryz.prog.stoodInHeld 73 = false := by kernel_rfl
  unfold zV
  rw [show (10000 : Nat) = 9999 + 1 from rfl, run_equalIn_agg w 9999 73 _ _ hS hp]
  simp only [Program.fieldsOf, Tryz.underlying73]
  go_simp
  obtain ⟨a, b, c⟩ := x
  obtain ⟨a', b', c'⟩ := y
  by_cases h1 : a = a' <;> by_cases h2 : b = b' <;> by_cases h3 : c = c' <;> simp [h1, h2, h3]
theorem zone_ne (x y : ZT) (w : World) : (binOp BinOp.neq 73 (zV x) (zV y)).run Tryz.prog w = .ok (.bool (decide (x ≠ y))) w := by
  have h := zone_eqIn x y w
  unfold zV at h ⊢
  rw [run_neq_struct, h]
  simp
theorem below_drewN {B : Nat} {a w : World} (h : Below B a w) (q : Nat) : Below B a (w.drewN q) := h.trans ⟨rfl, rfl, rfl, Nat.le_refl _, fun _ _ => rfl⟩
theorem RepZ.below {S : Nat → Prop} {w w' : World} (hb : Below w.heap.size w w') {l : List ZT} {A : Option Addr} {m c : Nat} (h : RepZ S w l A m c) : RepZ S w' l A m c := h.only (Only.of_below (S := fun _ => False) hb) (fun _ h => False.elim h)
set_option maxHeartbeats 8000000 in
set_option maxRecDepth 100000 in
theorem zequal_any {S S' : Nat → Prop} (F G : List ZT) (A : Option Addr) (m d : Nat) (B : Option Addr) (n e : Nat) (w : World) (h1 : RepZ S w F A m d) (h2 : RepZ S' w G B n e) :
    Calls Tryz.prog 61 #[.slice A m d, .slice B n e] w fun e w' => e = .returned (.bool (decide (F = G))) ∧ Below w.heap.size w w' := by
  have HR1 := Lib.hid h1
  have HR2 := Lib.hid h2
  have HL1 := Lib.hid (h1.len)
  have HL2 := Lib.hid (h2.len)
  have HE := Lib.hid (show decide (F = G) = true ↔ F.drop 0 = G.drop 0 by
    rw [decide_eq_true_eq]
    exact ⟨fun h => by rw [h], fun h => by simpa using h⟩)
  generalize decide (F = G) = r at HE ⊢
  have hc1 := h1.1.cap
  have hb1 := h1.1.big
  have hc2 := h2.1.cap
  have hb2 := h2.1.big
  clear h1 h2
  go_enter Tryz.func61, Tryz.ntmps61
  by_cases hmn : m = n
  · have hmn2 : ((m : Int) != (n : Int)) = false := by rw [hmn]; simp
    have HMN := Lib.hid hmn
    clear hmn
    go_wp2_with (fail)
    go_loopw [13] (fun q wr => ∃ i : Nat, i ≤ m ∧ q = .int .i64 i ∧ Hid (Below w.heap.size w wr) ∧ Hid (r = true ↔ F.drop i = G.drop i)) (fun q _ => m - (intOf q).toNat)
    case atStart => exact ⟨0, Nat.zero_le _, rfl, Below.refl _ _, HE.out⟩
    case round =>
      obtain ⟨i, him, rfl, HB, HC⟩ := hrel
      by_cases hlt : i < m
      · have hltn : i < n := by have := HMN.out; omega
        obtain ⟨b, off, x, rfl, hb, hS, hx, g0, g1, g2⟩ := HR1.out.elem hlt
        obtain ⟨b', off', y, rfl, hb', hS', hy, i0, i1, i2⟩ := HR2.out.elem hltn
        rw [← HB.out.cell (p := ⟨b, _, none⟩) hb] at g0 g1 g2
        rw [← HB.out.cell (p := ⟨b', _, none⟩) hb'] at i0 i1 i2
        have HC2 := Lib.hid (show r = true ↔ x = y ∧ F.drop (i + 1) = G.drop (i + 1) by
          obtain ⟨a1, a2⟩ := List.getElem?_eq_some_iff.1 hx
          obtain ⟨a3, a4⟩ := List.getElem?_eq_some_iff.1 hy
          rw [HC.out, List.drop_eq_getElem_cons a1, List.drop_eq_getElem_cons a3, a2, a4, List.cons.injEq])
        have hne := zone_ne x y
        unfold zV at hne
        have HXY := Lib.hid (show decide (x ≠ y) = true ↔ ¬ x = y by simp)
        generalize decide (x ≠ y) = q at hne HXY
        clear hx hy hS hS'
        have hlt2 : (i : Int) < (m : Int) := by omega
        have hlt3 : (i : Int) < (n : Int) := by omega
        cases q
        · go_wp2_with (fail)
          go_quiet (fail)
          go_wp2_with (fail)
          go_roundw
          case rel => exact ⟨i + 1, hlt, by go_num, below_drewN HB.out nq, by
            refine Lib.hid ?_
            have h1 : x = y := Classical.not_not.1 fun h => absurd (HXY.out.2 h) (by decide)
            rw [HC2.out]
            simp [h1]⟩
          case measure => simp [intOf]; omega
        · go_wp2_with (fail)
          go_quiet (fail)
          go_wp2_with (fail)
          go_ret
          exact ⟨ret_bool (by
            have h1 : ¬ x = y := by simpa using HXY.out
            cases r
            · rfl
            · exact absurd (HC2.out.1 rfl).1 h1), below_drewN HB.out nq⟩
      · have HC2 := Lib.hid (show r = true by
          have h := HC.out
          rw [List.drop_eq_nil_of_le (by rw [← HL1.out]; omega), List.drop_eq_nil_of_le (by rw [← HL2.out, ← HMN.out]; omega)] at h
          exact h.2 rfl)
        go_wp2_with (fail)
        go_ret
        exact ⟨ret_bool HC2.out.symm, HB.out⟩
  · have hmn2 : ((m : Int) != (n : Int)) = true := bne_iff_ne.2 fun h => hmn (Int.ofNat.inj h)
    have HC2 := Lib.hid (show r = false by
      have h := HE.out
      cases r
      · rfl
      · have h2 := h.1 rfl
        simp only [List.drop_zero] at h2
        exact absurd (HL1.out.trans ((congrArg List.length h2).trans HL2.out.symm)) hmn)
    clear hmn
    go_wp2_with (fail)
    go_ret
    exact ⟨ret_bool HC2.out.symm, Below.refl _ _⟩
end Go.Proofs.YticpjdjdimpglaaGreatDoor
/- format.Same by its contract. -/
namespace Go.Proofs.YticpjdjdimpglaaGreatDoor
set_option linter.unusedVariables false
set_option linter.unusedSimpArgs false
open Go.RowKit
def sameR (x y : RT) : Bool := decide (x.name = y.name) && (x.win == y.win && (x.draw == y.draw && (x.loss == y.loss && (decide (x.order = y.order) && decide (x.zones = y.zones)))))
theorem sameR_iff {x y : RT} : sameR x y = true ↔ x = y := by
  obtain ⟨a, b, c, d, e, f⟩ := x
  obtain ⟨a', b', c', d', e', f'⟩ := y
  unfold sameR
  simp only [Bool.and_eq_true, beq_iff_eq, decide_eq_true_eq, RT.mk.injEq]
set_option maxHeartbeats 8000000 in
set_option maxRecDepth 100000 in
theorem fsame_any (S S' : Nat → Prop) (x y : RT) (A : Option Addr) (m d : Nat) (C : Option Addr) (i j : Nat) (A' : Option Addr) (m' d' : Nat) (C' : Option Addr) (i' j' : Nat) (w : World)
    (h1 : RepT S w x.order A m d) (h2 : RepZ S w x.zones C i j) (h3 : RepT S' w y.order A' m' d') (h4 : RepZ S' w y.zones C' i' j') :
    Calls Tryz.prog 17 #[rV x A m d C i j, rV y A' m' d' C' i' j'] w fun e w' => e = .returned (.bool (sameR x y)) ∧ Below w.heap.size w w' := by
  have HT := Lib.hid (fun W (hW : Below w.heap.size w W) => same_all (x.order.sz + 1) S S' x.order y.order A m d A' m' d' W (Nat.lt_succ_self _) (h1.below hW) (h3.below hW))
  have HZ := Lib.hid (fun W (hW : Below w.heap.size w W) => zequal_any (S := S) (S' := S') x.zones y.zones C i j C' i' j' W (h2.below hW) (h4.below hW))
  have HR := Lib.hid (show sameR x y = (decide (x.name = y.name) && (x.win == y.win && (x.draw == y.draw && (x.loss == y.loss && (decide (x.order = y.order) && decide (x.zones = y.zones)))))) from rfl)
  clear h1 h2 h3 h4
  generalize sameR x y = r at HR ⊢
  unfold rV
  obtain ⟨nm, w1, w2, w3, od, zs⟩ := x
  obtain ⟨nm', w1', w2', w3', od', zs'⟩ := y
  dsimp only at HT HZ HR ⊢
  generalize decide (od = od') = rt at HT HR
  generalize decide (zs = zs') = rz at HZ HR
  go_enter Tryz.func17, Tryz.ntmps17
  by_cases hn : nm = nm'
  case neg =>
    rw [decide_eq_false hn] at HR
    go_wp2_with (fail)
    first | (refine calls_named ?_; intro W hW) | (refine body_named ?_; intro W hW) | (refine wpList_named ?_; intro W hW) | (refine wp_named ?_; intro W hW)
    have hb : Below w.heap.size w W := by rw [← hW]; exact ((Below.refl _ _).alloc (Nat.le_refl _) _).alloc (by simp) _
    clear hW
    go_ret
    exact ⟨ret_bool (by rw [HR.out]; rfl), hb⟩
  subst hn
  rw [decide_eq_true rfl] at HR
  cases q1 : (w1 == w1')
  · rw [q1] at HR
    go_wp2_with (fail)
    first | (refine calls_named ?_; intro W hW) | (refine body_named ?_; intro W hW) | (refine wpList_named ?_; intro W hW) | (refine wp_named ?_; intro W hW)
    have hb : Below w.heap.size w W := by rw [← hW]; exact ((Below.refl _ _).alloc (Nat.le_refl _) _).alloc (by simp) _
    clear hW
    go_ret
    exact ⟨ret_bool (by rw [HR.out]; rfl), hb⟩
  cases q2 : (w2 == w2')
  · rw [q1, q2] at HR
    go_wp2_with (fail)
    first | (refine calls_named ?_; intro W hW) | (refine body_named ?_; intro W hW) | (refine wpList_named ?_; intro W hW) | (refine wp_named ?_; intro W hW)
    have hb : Below w.heap.size w W := by rw [← hW]; exact ((Below.refl _ _).alloc (Nat.le_refl _) _).alloc (by simp) _
    clear hW
    go_ret
    exact ⟨ret_bool (by rw [HR.out]; rfl), hb⟩
  cases q3 : (w3 == w3')
  · rw [q1, q2, q3] at HR
    go_wp2_with (fail)
    first | (refine calls_named ?_; intro W hW) | (refine body_named ?_; intro W hW) | (refine wpList_named ?_; intro W hW) | (refine wp_named ?_; intro W hW)
    have hb : Below w.heap.size w W := by rw [← hW]; exact ((Below.refl _ _).alloc (Nat.le_refl _) _).alloc (by simp) _
    clear hW
    go_ret
    exact ⟨ret_bool (by rw [HR.out]; rfl), hb⟩
  rw [q1, q2, q3] at HR
  go_wp2_with (fail)
  first | (refine calls_named ?_; intro W hW) | (refine body_named ?_; intro W hW) | (refine wpList_named ?_; intro W hW) | (refine wp_named ?_; intro W hW)
  have hb : Below w.heap.size w W := by rw [← hW]; exact ((Below.refl _ _).alloc (Nat.le_refl _) _).alloc (by simp) _
  have hx : Blk W w.heap.size 28 #[.string (bs nm), .int .i64 w1, .int .i64 w2, .int .i64 w3, .slice A m d, .slice C i j] := by rw [← hW]; exact (Blk.new w _ _).alloc _
  have hy : Blk W (w.heap.size + 1) 28 #[.string (bs nm), .int .i64 w1', .int .i64 w2', .int .i64 w3', .slice A' m' d', .slice C' i' j'] := by
    rw [← hW, ← World.size_alloc w]
    exact Blk.new _ _ _
  clear hW
  have HB := Lib.hid hb
  have HX := Lib.hid hx
  have HY := Lib.hid hy
  clear hb hx hy
  refine (HT.out W HB.out).mono ?_
  rintro e' w4 ⟨rfl, hb3⟩
  have HB3 := Lib.hid (HB.out.trans (hb3.mono HB.out.size))
  have HX3 := Lib.hid (HX.out.below hb3 HX.out.lt)
  have HY3 := Lib.hid (HY.out.below hb3 HY.out.lt)
  clear hb3
  have xl := HX3.out.lt
  have yl := HY3.out.lt
  have x5 := HX3.out.cell 5
  have y5 := HY3.out.cell 5
  cases rt
  · go_wp2_with (fail)
    go_ret
    exact ⟨ret_bool (by rw [HR.out]; rfl), HB3.out⟩
  go_wp2_with (fail)
  refine (HZ.out w4 HB3.out).mono ?_
  rintro e' w5 ⟨rfl, hb4⟩
  have HB4 := Lib.hid (HB3.out.trans (hb4.mono HB3.out.size))
  clear hb4
  go_wp2_with (fail)
  go_ret
  exact ⟨ret_bool (by rw [HR.out]; simp), HB4.out⟩
end Go.Proofs.YticpjdjdimpglaaGreatDoor
/- What the program's and the library's functions read of the package-level variables; strconv.Itoa, strings.Join. -/
namespace Go.Proofs.YticpjdjdimpglaaGreatDoor
set_option linter.unusedVariables false
set_option linter.unusedSimpArgs false
open Go.RowKit
def varL : List (List UInt8) := [[], kTied, kRound, kFin, kClubs]
def critL : List (List UInt8) := [[], critW 1, critW 2, critW 3, critW 4, critW 5, critW 6, critW 7, critW 8, critW 9, critW 10, critW 11, critW 12]
structure FNow (w : World) : Prop where
  len : ∃ m, w.cell? ⟨4, 0, none⟩ = some (.int .i64 m)
  tab : Lib.TabIs Tryz.prog w "internal/strconv.uint64pow10" .u64 Lib.pow10Tab
  vars : ∀ i s, varL[i]? = some s → w.cell? ⟨2, i, none⟩ = some (.string (bs s))
  crit : ∀ i s, critL[i]? = some s → w.cell? ⟨0, i, none⟩ = some (.string (bs s))
/-- .. now and in every later world that keeps what lies below B. -/
def FGb (B : Nat) (w : World) : Prop := ∀ w', Below B w w' → FNow w'
theorem FGb.now {B : Nat} {w : World} (h : FGb B w) : FNow w := h w (Below.refl _ _)
theorem FGb.below {B : Nat} {w w' : World} (h : FGb B w) (hb : Below B w w') : FGb B w' := fun w2 hb2 => h w2 (hb.trans hb2)
theorem FGb.more {B B' : Nat} {w : World} (h : FGb B w) (hB : B ≤ B') : FGb B' w := fun w2 hb2 => h w2 (hb2.mono hB)
/-- .. of all that lies now. -/
def FG (w : World) : Prop := FGb w.heap.size w
theorem FG.now {w : World} (h : FG w) : FNow w := FGb.now h
theorem FG.below {w w' : World} (h : FG w) (hb : Below w.heap.size w w') : FG w' := fun w2 hb2 => h w2 (hb.trans (hb2.mono hb.size))
theorem vars_at {w : World} (h : FNow w) {v : Int} (h1 : 1 ≤ v) (h4 : v ≤ 4) : ∃ i : Nat, v = i ∧ i < 5 ∧ w.cell? ⟨2, i, none⟩ = some (.string (bs (varW v))) := by
  have : v = 1 ∨ v = 2 ∨ v = 3 ∨ v = 4 := by omega
  rcases this with rfl | rfl | rfl | rfl
  · exact ⟨1, rfl, by decide, h.vars 1 _ rfl⟩
  · exact ⟨2, rfl, by decide, h.vars 2 _ rfl⟩
  · exact ⟨3, rfl, by decide, h.vars 3 _ rfl⟩
  · exact ⟨4, rfl, by decide, h.vars 4 _ rfl⟩
theorem crit_at {w : World} (h : FNow w) {b : Int} (h1 : 1 ≤ b) (h4 : b ≤ 12) : ∃ i : Nat, b = i ∧ i < 13 ∧ w.cell? ⟨0, i, none⟩ = some (.string (bs (critW b))) := by
  have : b = 1 ∨ b = 2 ∨ b = 3 ∨ b = 4 ∨ b = 5 ∨ b = 6 ∨ b = 7 ∨ b = 8 ∨ b = 9 ∨ b = 10 ∨ b = 11 ∨ b = 12 := by omega
  rcases this with rfl | rfl | rfl | rfl | rfl | rfl | rfl | rfl | rfl | rfl | rfl | rfl
  · exact ⟨1, rfl, by decide, h.crit 1 _ rfl⟩
  · exact ⟨2, rfl, by decide, h.crit 2 _ rfl⟩
  · exact ⟨3, rfl, by decide, h.crit 3 _ rfl⟩
  · exact ⟨4, rfl, by decide, h.crit 4 _ rfl⟩
  · exact ⟨5, rfl, by decide, h.crit 5 _ rfl⟩
  · exact ⟨6, rfl, by decide, h.crit 6 _ rfl⟩
  · exact ⟨7, rfl, by decide, h.crit 7 _ rfl⟩
  · exact ⟨8, rfl, by decide, h.crit 8 _ rfl⟩
  · exact ⟨9, rfl, by decide, h.crit 9 _ rfl⟩
  · exact ⟨10, rfl, by decide, h.crit 10 _ rfl⟩
  · exact ⟨11, rfl, by decide, h.crit 11 _ rfl⟩
  · exact ⟨12, rfl, by decide, h.crit 12 _ rfl⟩
theorem dec_small : ∀ n : Nat, n < 100 → dec (n : Int) = Lib.itoa (n : Int) ∧ dec (-(n : Int)) = Lib.itoa (-(n : Int)) := by decide +kernel
theorem dec_itoa {n : Int} (h : -99 ≤ n ∧ n ≤ 99) : dec n = Lib.itoa n := by
  rcases Int.natAbs_eq n with e | e
  · rw [e]; exact (dec_small n.natAbs (by omega)).1
  · rw [e]; exact (dec_small n.natAbs (by omega)).2
theorem below_growF (w : World) (k : Nat) (os : Array Obj) : Below w.heap.size w (Sort.grow (w.drewN k) os) := ⟨rfl, rfl, rfl, by simp [Sort.grow, World.drewN], fun i hi => by
  show ((w.drewN k).heap ++ os)[i]? = _
  rw [Array.getElem?_append_left (by simpa [World.drewN] using hi)]
  rfl⟩
theorem itoa_any {n : Int} (h : -99 ≤ n ∧ n ≤ 99) (w : World) (hg : FNow w) : Calls Tryz.prog 50 #[.int .i64 n] w fun e w' => e = .returned (.string (bs (dec n))) ∧ Below w.heap.size w w' :=
  (Tryz.strconv_Itoa n (by omega) (by omega) w hg.tab).mono fun e w' ⟨he, k, os, hw⟩ => ⟨by rw [he, dec_itoa h]; rfl, hw ▸ below_growF w k os⟩
theorem join_lib (sep : List UInt8) : ∀ ls : List (List UInt8), Lib.join ls sep = joinW sep ls
  | [] => rfl
  | [x] => Lib.join_one x sep
  | x :: y :: r => by
    have h := join_lib sep (y :: r)
    unfold joinW
    rw [← h]
    show List.intercalate sep (x :: y :: r) = x ++ sep ++ List.intercalate sep (y :: r)
    simp [List.intercalate]
/-- strings.Join. -/
theorem sjoin_any (A : Option Addr) (m c : Nat) (ls : List (List UInt8)) (sep : List UInt8) (w : World) (h : Rd w w.heap.size 1 A m c (ls.map fun l => .string (bs l))) (hm : 0 < m) (hs : (joinW sep ls).length ≤ 1000000) (hm2 : m ≤ 1000000) :
    Calls Tryz.prog 143 #[.slice A m c, .string (bs sep)] w fun e w' => e = .returned (.string (bs (joinW sep ls))) ∧ Below w.heap.size w w' := by
  have hl : ls.length = m := by have := h.len; simpa using this
  obtain ⟨b, off, rfl, hb, hc⟩ := h.cells hm
  have e1 : (ls.map bs).map (fun x => x.data.toList) = ls := by
    rw [List.map_map]
    exact (List.map_congr_left fun x _ => bs_data x).trans (List.map_id ls)
  have hj := Tryz.strings_Join b off c (ls.map bs) (bs sep) w (fun j x hx => hc j _ (by
    rw [List.getElem?_map] at hx ⊢
    cases hq : ls[j]? with
    | none => rw [hq] at hx; cases hx
    | some y => rw [hq] at hx; cases hx; rfl)) hb (by simp; omega) (by have := h.cap; simp; omega) (by rw [e1, bs_data, join_lib]; omega)
  rw [e1, bs_data, join_lib, List.length_map, hl] at hj
  exact hj
end Go.Proofs.YticpjdjdimpglaaGreatDoor
/- The printer: what it holds; its line, by its contract. -/
namespace Go.Proofs.YticpjdjdimpglaaGreatDoor
set_option linter.unusedVariables false
set_option linter.unusedSimpArgs false
open Go.RowKit
/-- Two blanks, k times. -/
def sps (k : Nat) : List UInt8 := Lib.repeatL [32, 32] k
theorem sps_succ (k : Nat) : sps (k + 1) = sps k ++ [32, 32] := by
  have h : ∀ k, [32, 32] ++ Lib.repeatL [32, 32] k = Lib.repeatL [32, 32] k ++ [32, 32] := by
    intro k
    induction k with
    | zero => rfl
    | succ k ih =>
      show [32, 32] ++ ([32, 32] ++ _) = ([32, 32] ++ _) ++ [32, 32]
      rw [List.append_assoc, ← ih]
  exact h k
theorem sps_len (k : Nat) : (sps k).length = k * 2 := Lib.repeatL_length _ _
/-- The printer at block p holds the text s, and indents k times. -/
def PS (w : World) (p : Nat) (s : List UInt8) (k : Nat) : Prop := LibA.IsBuffer 86 (fun i => if i = 3 then some (.int .i64 (k : Int)) else none) 5 p p 0 (Lib.byteCells s) w
/-- What the printer leaves as it is. -/
structure PK (p : Nat) (w w' : World) : Prop where
  below : Below p w w'
  others : Lib.OthersKept 5 (some p) w w'
section
variable {p : Nat} {w w' w'' : World} {s : List UInt8} {k : Nat}
theorem PK.refl (p : Nat) (w : World) : PK p w w := ⟨Below.refl _ _, Lib.OthersKept.refl _ _ _⟩
theorem PK.trans (h : PK p w w') (h' : PK p w' w'') : PK p w w'' := ⟨h.below.trans h'.below, h.others.trans h'.others⟩
theorem PK.of_below (hb : Below w.heap.size w w') (hp : p ≤ w.heap.size) : PK p w w' := ⟨hb.mono hp, (Lib.OthersKept.refl _ _ _).below hb⟩
theorem PK.blk {g : Nat} {t : TypeId} {cs : Array Value} (h : PK p w w') (hb : Blk w g t cs) (ht : t ≠ 5) (hg : g ≠ p) : Blk w' g t cs :=
  h.others g _ hb (fun e => hg (by injection e)) (fun c fz e => by injection e with _ e2 _; exact ht e2)
theorem PK.only (h : PK p w w') : Only (fun k => p ≤ k) w w' := ⟨h.below.os, h.below.tape, h.below.output, h.below.size, fun k _ hn => h.below.block k (Nat.lt_of_not_le hn)⟩
theorem PS.lt (h : PS w p s k) : p < w.heap.size := LibA.IsBuffer.lt h
theorem PS.below (h : PS w p s k) (hb : Below w.heap.size w w') : PS w' p s k := by
  obtain ⟨hB, v, lr, h3, hown, hne⟩ := h
  exact ⟨hB, v, lr, h3.of_heap (hb.block p h3.lt), own_below_all hown hb, hne⟩
theorem PS.ind (h : PS w p s k) : w.cell? ⟨p, 3, none⟩ = some (.int .i64 (k : Int)) := by
  obtain ⟨hB, v, lr, h3, hown, hne⟩ := h
  exact h3.rest 3 (.inr (by omega))
theorem PS.fz (h : PS w p s k) (i : Nat) : w.frozen? ⟨p, i, none⟩ = false := by
  obtain ⟨hB, v, lr, h3, hown, hne⟩ := h
  exact h3.f i
theorem PS.setInd (h : PS w p s k) (k' : Nat) : PS (w.setCell ⟨p, 3, none⟩ (.int .i64 (k' : Int))) p s k' := by
  obtain ⟨hB, v, lr, ⟨cs, hb, h0, h1, h2, hr⟩, hown, hne⟩ := h
  have h3 : cs[3]? = some (.int .i64 (k : Int)) := hr 3 (.inr (by omega))
  have hlt : 3 < cs.size := (Array.getElem?_eq_some_iff.1 h3).1
  refine ⟨hB, v, lr, ⟨_, Lib.heap_setCell_same (i := 3) hb _, by rw [Array.getElem?_setIfInBounds_ne (by omega)]; exact h0, by rw [Array.getElem?_setIfInBounds_ne (by omega)]; exact h1, by rw [Array.getElem?_setIfInBounds_ne (by omega)]; exact h2, fun i hi => ?_⟩, hown.kept (Lib.grownBy_setCell w p 3 _) (Or.inr hne), hne⟩
  by_cases e : i = 3
  · subst e
    simp [hlt]
  · rw [Array.getElem?_setIfInBounds_ne (by omega), hr i hi]
    show (if i = 3 then _ else _) = (if i = 3 then _ else _)
    rw [if_neg e, if_neg e]
theorem PK.setInd (w : World) (p : Nat) (v : Value) : PK p w (w.setCell ⟨p, 3, none⟩ v) := ⟨(Below.refl p w).setCell (Nat.le_refl _) _, (Lib.OthersKept.refl _ _ w).setCell ⟨p, 3, none⟩ rfl _⟩
end
theorem bytes_one (s : List UInt8) : ∀ v ∈ Lib.byteCells s, v.oneCell' = true := Lib.byteCells_one _
/-- WriteString, WriteByte. -/
theorem wstr_any {p k : Nat} {s l : List UInt8} {w : World} (h : PS w p s k) (hl : s.length + l.length ≤ 1000000) : Calls Tryz.prog 95 #[.pointer (some ⟨p, 0, none⟩), .string (bs l)] w fun e w' => e = .returned (.tuple #[.int .i64 (l.length : Int), .nilIface]) ∧ PS w' p (s ++ l) k ∧ PK p w w' :=
  (Tryz.Buffer_WriteString_at 86 _ p p 0 _ (bs l) w h (Nat.le_of_lt h.lt) (bytes_one s) (by rw [Lib.byteCells_length, bs_size]; omega)).mono fun e w' ⟨he, h1, h2, h3⟩ => ⟨he, by
    rw [bs_data, ← Lib.byteCells_append] at h1; exact h1, h2, h3⟩
theorem wbyte_any {p k : Nat} {s : List UInt8} {w : World} (h : PS w p s k) (hl : s.length + 1 ≤ 1000000) : Calls Tryz.prog 97 #[.pointer (some ⟨p, 0, none⟩), .int .u8 10] w fun e w' => e = .returned .nilIface ∧ PS w' p (s ++ [10]) k ∧ PK p w w' :=
  (Tryz.Buffer_WriteByte_at 86 _ p p 0 _ 10 w h (Nat.le_of_lt h.lt) (bytes_one s) (by rw [Lib.byteCells_length]; omega)).mono fun e w' ⟨he, h1, h2, h3⟩ => ⟨he, by
    have e1 : Lib.byteCells s ++ [.int .u8 10] = Lib.byteCells (s ++ [10]) := by simp [Lib.byteCells]
    rw [e1] at h1; exact h1, h2, h3⟩
theorem rep_any {k : Nat} {w : World} (hk : k ≤ 1000) : Calls Tryz.prog 96 #[.string { data := #[32, 32] }, .int .i64 (k : Int)] w fun e w' => e = .returned (.string (bs (sps k))) ∧ Below w.heap.size w w' :=
  (Tryz.strings_Repeat (bs [32, 32]) k w (by omega) (by show 2 * k ≤ _; omega)).mono fun e w' ⟨he, hb⟩ => ⟨he, hb⟩
set_option maxHeartbeats 8000000 in
set_option maxRecDepth 100000 in
/-- (*printer).line. -/
theorem line_any {p k : Nat} {s : List UInt8} {w : World} (g m : Nat) (ls : List (List UInt8)) (h : PS w p s k) (hk : k ≤ 1000) (hg : Blk w g 9 (ls.map fun l => Value.string (bs l)).toArray) (hgp : g ≠ p) (hm : m = ls.length) (hm6 : m ≤ 1000) (hl : s.length + (sps k).length + ls.flatten.length + 1 ≤ 1000000) :
    Calls Tryz.prog 49 #[.pointer (some ⟨p, 0, none⟩), .slice (some ⟨g, 0, none⟩) m m] w fun e w' => e = .returned (.tuple #[]) ∧ PS w' p (s ++ sps k ++ ls.flatten ++ [10]) k ∧ PK p w w' := by
  have HP := Lib.hid h
  have HG := Lib.hid hg
  have HM := Lib.hid hm
  have HLT := Lib.hid hl
  have x3 := h.ind
  have hp := h.lt
  clear h hg hm hl
  go_enter Tryz.func49, Tryz.ntmps49
  go_wp2_with (fail)
  go_region_held3 (fun w' => w'.cell? ⟨p, 3, none⟩ = some (.int .i64 (k : Int)) ∧ Hid (PK p w w'))
    (first
      | (exact ⟨x3, Lib.hid ⟨⟨rfl, rfl, rfl, Nat.le_refl _, fun _ _ => rfl⟩, (Lib.OthersKept.refl _ _ _).drew⟩⟩)
      | (exact ⟨z3, zb⟩))
    ((first
      | (go_at_call 96
         with_reducible refine (rep_any hk).mono ?_
         rintro e w1 ⟨rfl, hb1⟩
         have HP1 := Lib.hid (HP.out.below (show Below w.heap.size w w1 from (show Below w.heap.size w w.drew from ⟨rfl, rfl, rfl, Nat.le_refl _, fun _ _ => rfl⟩).trans hb1))
         have z3 := HP1.out.ind
         have zb := Lib.hid (PK.of_below (show Below w.heap.size w w1 from (show Below w.heap.size w w.drew from ⟨rfl, rfl, rfl, Nat.le_refl _, fun _ _ => rfl⟩).trans hb1) (Nat.le_of_lt hp))
         clear hb1)
      | (go_at_call 95
         refine (wstr_any HP1.out (by have := HLT.out; omega)).mono ?_
         rintro e w2 ⟨rfl, hps, hpk⟩
         have HP2 := Lib.hid hps
         have z3 := hps.ind
         have zb := Lib.hid (zb.out.trans hpk)
         clear hps hpk)))
  have HZ := zb
  clear x3 z3 HP1
  go_wp2_with (fail)
  go_loopw [17] (fun q wr => ∃ i : Nat, i ≤ m ∧ q = .int .i64 i ∧ Hid (PS wr p (s ++ sps k ++ (ls.take i).flatten) k) ∧ Hid (PK p w wr)) (fun q _ => m - (intOf q).toNat)
  case atStart => exact ⟨0, Nat.zero_le _, rfl, by show PS w2 p (s ++ sps k ++ []) k; rw [List.append_nil]; exact HP2.out, HZ.out⟩
  case round =>
    obtain ⟨i, him, rfl, HPr, HKr⟩ := hrel
    by_cases hlt : i < m
    · have hi : i < ls.length := by rw [← HM.out]; exact hlt
      have hc : wr.cell? ⟨g, i, none⟩ = some (.string (bs ls[i])) := by
        rw [(HKr.out.blk HG.out (by decide) hgp).cell]
        simp [hi]
      have HLi := Lib.hid (show (ls.take (i + 1)).flatten = (ls.take i).flatten ++ ls[i] by rw [List.take_succ_eq_append_getElem hi, List.flatten_append]; simp [List.flatten])
      have hle : (ls.take (i + 1)).flatten.length ≤ ls.flatten.length := by
        have e := congrArg (fun l => (List.flatten l).length) (List.take_append_drop (i + 1) ls)
        simp only [List.flatten_append, List.length_append] at e
        omega
      have HLE := Lib.hid hle
      generalize ls[i] = x at hc HLi
      clear hle
      go_wp2_with (fail)
      refine (wstr_any HPr.out (l := x) (by
        have h1 := HLT.out
        have h2 := HLE.out
        rw [HLi.out] at h2
        simp only [List.length_append] at h2 ⊢
        omega)).mono ?_
      rintro e w3 ⟨rfl, hps, hpk⟩
      have HP3 := Lib.hid (show PS w3 p (s ++ sps k ++ (ls.take (i + 1)).flatten) k by rw [HLi.out, ← List.append_assoc]; exact hps)
      have HK3 := Lib.hid (HKr.out.trans hpk)
      clear hps hpk hc
      go_wp2_with (fail)
      go_roundw
      case rel => exact ⟨i + 1, hlt, by go_num, HP3.out, HK3.out⟩
      case measure => simp [intOf]; omega
    · have HP3 := Lib.hid (show PS wr p (s ++ sps k ++ ls.flatten) k by
        have h := HPr.out
        rw [List.take_of_length_le (by rw [← HM.out]; omega)] at h
        exact h)
      go_wp2_with (fail)
      refine (wbyte_any HP3.out (by have := HLT.out; simp only [List.length_append]; omega)).mono ?_
      rintro e w4 ⟨rfl, hps, hpk⟩
      have HP4 := Lib.hid hps
      have HK4 := Lib.hid (HKr.out.trans hpk)
      clear hps hpk
      go_wp2_with (fail)
      go_end0
      exact ⟨rfl, HP4.out, HK4.out⟩
end Go.Proofs.YticpjdjdimpglaaGreatDoor
/- The printer's within and block by their contracts. -/
namespace Go.Proofs.YticpjdjdimpglaaGreatDoor
set_option linter.unusedVariables false
set_option linter.unusedSimpArgs false
open Go.RowKit
/-- How a piece of printing ends. -/
def PPst (p k : Nat) (s out : List UInt8) (w : World) (e : Ending) (w' : World) : Prop := e = .returned (.tuple #[]) ∧ PS w' p (s ++ out) k ∧ PK p w w'
set_option maxHeartbeats 8000000 in
set_option maxRecDepth 100000 in
theorem pwithin_any {p k : Nat} {s : List UInt8} {w : World} (f : FuncId) (caps : Array Value) (out : List UInt8) (h : PS w p s k) (hk : k ≤ 900) (eg : ∀ args w, (callFunc f args).run Tryz.prog w = .ok (.enter f args) w)
    (hbody : ∀ w', PS w' p s (k + 1) → PK p w w' → Calls Tryz.prog f caps w' (PPst p (k + 1) s out w')) :
    Calls Tryz.prog 94 #[.pointer (some ⟨p, 0, none⟩), .func (.func f) #[] caps] w (PPst p k s out w) := by
  have e1 : ((k + 1 : Nat) : Int) = (k : Int) + 1 := by omega
  have hs1 := h.setInd (k + 1)
  rw [e1] at hs1
  have HB := Lib.hid (hbody _ hs1 (PK.setInd w p _))
  have HK1 := Lib.hid (PK.setInd w p (.int .i64 ((k : Int) + 1)))
  have x3 := h.ind
  have f3 := h.fz 3
  clear h hs1 hbody e1
  go_enter Tryz.func94, Tryz.ntmps94
  go_wp2_with (fail)
  refine HB.out.mono ?_
  rintro e w2 ⟨rfl, hps, hpk⟩
  have HP2 := Lib.hid hps
  have HK2 := Lib.hid (HK1.out.trans hpk)
  clear x3 f3 hpk
  have x3 := hps.ind
  rw [show ((k + 1 : Nat) : Int) = (k : Int) + 1 by omega] at x3
  have f3 := hps.fz 3
  clear hps HB
  have hw : (k : Int) + 1 - 1 = k := by omega
  go_wp2_with (fail)
  go_end0
  exact ⟨rfl, HP2.out.setInd k, HK2.out.trans (PK.setInd _ _ _)⟩
set_option maxHeartbeats 8000000 in
set_option maxRecDepth 100000 in
theorem block_any {p k : Nat} {s : List UInt8} {w : World} (head : List UInt8) (f : FuncId) (caps : Array Value) (out : List UInt8) (h : PS w p s k) (hk : k ≤ 900) (eg : ∀ args w, (callFunc f args).run Tryz.prog w = .ok (.enter f args) w)
    (hl : s.length + 2 * (k * 2) + head.length + out.length + 10 ≤ 1000000)
    (hbody : ∀ w', PS w' p (s ++ (sps k ++ head ++ [32, 123, 10])) (k + 1) → PK p w w' → Calls Tryz.prog f caps w' (PPst p (k + 1) (s ++ (sps k ++ head ++ [32, 123, 10])) out w')) :
    Calls Tryz.prog 47 #[.pointer (some ⟨p, 0, none⟩), .string (bs head), .func (.func f) #[] caps] w (PPst p k s (sps k ++ head ++ [32, 123, 10] ++ out ++ sps k ++ [125, 10]) w) := by
  have HP := Lib.hid h
  have HB := Lib.hid hbody
  have HL := Lib.hid hl
  have hp := h.lt
  clear h hbody hl
  go_enter Tryz.func47, Tryz.ntmps47
  go_wp2_with (fail)
  first | (refine calls_named ?_; intro W hW) | (refine body_named ?_; intro W hW) | (refine wpList_named ?_; intro W hW) | (refine wp_named ?_; intro W hW)
  have hb1 : Below w.heap.size w W := by rw [← hW]; exact (Below.refl _ _).alloc (Nat.le_refl _) _
  have hx1 : Blk W w.heap.size 9 #[.string (bs head), .string (bs [32, 123])] := by rw [← hW]; exact Blk.new w _ _
  clear hW
  have HP1 := Lib.hid (HP.out.below hb1)
  have HK1 := Lib.hid (PK.of_below hb1 (Nat.le_of_lt hp))
  refine (line_any w.heap.size 2 [head, [32, 123]] HP1.out (by omega) hx1 (by omega) rfl (by omega) (by rw [sps_len]; simp; have := HL.out; omega)).mono ?_
  rintro e w1 ⟨rfl, hps, hpk⟩
  have HP2 := Lib.hid (show PS w1 p (s ++ (sps k ++ head ++ [32, 123, 10])) k by simpa [List.append_assoc] using hps)
  have HK2 := Lib.hid (HK1.out.trans hpk)
  clear hps hpk hb1 hx1 HP1 HK1
  go_wp2_with (fail)
  refine (pwithin_any f caps out HP2.out hk eg (fun w' h1 h2 => HB.out w' h1 (HK2.out.trans h2))).mono ?_
  rintro e w3 ⟨rfl, hps, hpk⟩
  have HP3 := Lib.hid hps
  have HK3 := Lib.hid (HK2.out.trans hpk)
  clear hps hpk
  go_wp2_with (fail)
  first | (refine calls_named ?_; intro W4 hW4) | (refine body_named ?_; intro W4 hW4) | (refine wpList_named ?_; intro W4 hW4) | (refine wp_named ?_; intro W4 hW4)
  have hb4 : Below w3.heap.size w3 W4 := by rw [← hW4]; exact (Below.refl _ _).alloc (Nat.le_refl _) _
  have hx4 : Blk W4 w3.heap.size 9 #[.string (bs [125])] := by rw [← hW4]; exact Blk.new w3 _ _
  clear hW4
  have HP4 := Lib.hid (HP3.out.below hb4)
  have hp3 := HP3.out.lt
  have HK4 := Lib.hid (HK3.out.trans (PK.of_below hb4 (Nat.le_of_lt hp3)))
  refine (line_any w3.heap.size 1 [[125]] HP4.out (by omega) hx4 (by omega) rfl (by omega) (by simp [sps_len]; have := HL.out; omega)).mono ?_
  rintro e w5 ⟨rfl, hps, hpk⟩
  have HP5 := Lib.hid (show PS w5 p (s ++ (sps k ++ head ++ [32, 123, 10] ++ out ++ sps k ++ [125, 10])) k by simpa [List.append_assoc] using hps)
  have HK5 := Lib.hid (HK4.out.trans hpk)
  clear hps hpk hb4 hx4
  go_wp2_with (fail)
  go_end0
  exact ⟨rfl, HP5.out, HK5.out⟩
end Go.Proofs.YticpjdjdimpglaaGreatDoor
/- format.core, the reference's core by their contracts. -/
namespace Go.Proofs.YticpjdjdimpglaaGreatDoor
set_option linter.unusedVariables false
set_option linter.unusedSimpArgs false
open Go.RowKit
theorem coreF_single {k v n : Int} {x : CT} (hk : k = 2 ∨ k = 3) : core ⟨k, v, n, .one x .nil⟩ = core x := by
  show coreF k v n (.cons x.k x.v x.n x.ps .nil) = coreF x.k x.v x.n x.ps
  rw [coreF, if_pos ⟨hk, rfl⟩]
theorem core_stays {c : CT} (h : ¬ ((c.k = 2 ∨ c.k = 3) ∧ c.ps.len = 1)) : core c = c := by
  obtain ⟨k, v, n, ps⟩ := c
  cases ps with
  | nil => rfl
  | cons k' v' n' ps' r' =>
    show coreF k v n (.cons k' v' n' ps' r') = _
    rw [coreF, if_neg]
    rintro ⟨h1, rfl⟩
    exact h ⟨h1, rfl⟩
theorem len1 {F : CF} {x : CT} (h : F.len = 1) (hx : F.toL[0]? = some x) : F = .one x .nil := by
  cases F with
  | nil => cases h
  | cons k v n ps r =>
    cases r with
    | nil => simp [CF.toL] at hx; subst hx; rfl
    | cons => simp [CF.len] at h
theorem cnt_one (x : CT) : (CF.one x .nil).cnt = x.ps.cnt + 1 := by simp [CF.one, CF.cnt]
set_option maxHeartbeats 4000000 in
set_option maxRecDepth 100000 in
theorem core_any {S : Nat → Prop} {c : CT} {A : Option Addr} {m d : Nat} {w : World} (h : RepH S w c.ps A m d) : Calls Tryz.prog 82 #[cV c A m d] w fun e w' => (∃ A' m' d', e = .returned (cV (core c) A' m' d') ∧ RepH S w (core c).ps A' m' d') ∧ Below w.heap.size w w' := by
  have HR := Lib.hid h
  clear h
  unfold cV
  go_enter Tryz.func82, Tryz.ntmps82
  go_wp2_with (fail)
  first | (refine calls_named ?_; intro W hW) | (refine body_named ?_; intro W hW) | (refine wpList_named ?_; intro W hW) | (refine wp_named ?_; intro W hW)
  have hb1 : Below w.heap.size w W := by rw [← hW]; exact ((Below.refl _ _).alloc (Nat.le_refl _) _).alloc (by simp) _
  have hx1 : Blk W w.heap.size 24 #[vi c.k, vi c.v, vi c.n, .slice A m d] := by rw [← hW]; exact (Blk.new w _ _).alloc _
  have hy1 : Blk W (w.heap.size + 1) 75 #[.int .i64 0, .int .i64 0, .int .i64 0, .slice none 0 0] := by
    rw [← hW, ← World.size_alloc w]
    exact Blk.new _ _ _
  clear hW
  have HB1 := Lib.hid hb1
  have HX1 := Lib.hid hx1
  have HY1 := Lib.hid hy1
  clear hb1 hx1 hy1
  go_loopg [] (c.ps.cnt + 1) (fun gk wr => ∃ (x : CT) (A' : Option Addr) (m' d' : Nat), x.ps.cnt + 1 ≤ gk ∧ Hid (Below w.heap.size w wr) ∧ Hid (Blk wr w.heap.size 24 #[vi x.k, vi x.v, vi x.n, .slice A' m' d']) ∧ Hid (Blk wr (w.heap.size + 1) 75 #[.int .i64 0, .int .i64 0, .int .i64 0, .slice none 0 0]) ∧ Hid (core c = core x) ∧ Hid (RepH S w x.ps A' m' d'))
  case atStart => exact ⟨c, A, m, d, Nat.le_refl _, HB1.out, HX1.out, HY1.out, rfl, HR.out⟩
  case round =>
    obtain ⟨x, A', m', d', hgk, HB, HX, HY, HE, HR'⟩ := hrel
    have x0 : wr.cell? ⟨w.heap.size, 0, none⟩ = some (.int .i64 x.k) := HX.out.cell 0
    have x1 : wr.cell? ⟨w.heap.size, 1, none⟩ = some (.int .i64 x.v) := HX.out.cell 1
    have x2 : wr.cell? ⟨w.heap.size, 2, none⟩ = some (.int .i64 x.n) := HX.out.cell 2
    have x3 : wr.cell? ⟨w.heap.size, 3, none⟩ = some (.slice A' m' d') := HX.out.cell 3
    have f0 := HX.out.frozen 0
    have f1 := HX.out.frozen 1
    have f2 := HX.out.frozen 2
    have f3 := HX.out.frozen 3
    have hlt := HX.out.lt
    by_cases hc : (x.k = 2 ∨ x.k = 3) ∧ m' = 1
    · obtain ⟨hk, rfl⟩ := hc
      obtain ⟨b, off, y, B, n, e, rfl, hb, hS, hy, h0, h1, h2, h3, hr⟩ := HR'.out.elem (i := 0) (by omega)
      rw [← HB.out.cell hb, Nat.zero_mul, Nat.add_zero] at h0 h1 h2 h3
      have hne : b ≠ w.heap.size := by omega
      have hps : x.ps = .one y .nil := len1 HR'.out.len.symm hy
      have HRy := Lib.hid hr
      have HE2 := Lib.hid (show core c = core y by
        rw [HE.out]
        obtain ⟨k, v, n, ps⟩ := x
        dsimp only at hps hk
        rw [hps]
        exact coreF_single hk)
      have HC := Lib.hid (show y.ps.cnt + 1 < gk by rw [hps, cnt_one] at hgk; omega)
      clear hr hy hps
      rcases hk with hk | hk
      · have k2 : (x.k == 2) = true := by rw [hk]; rfl
        clear hk
        go_wp2_with (fail)
        have hx2 := HX.out.set4 (y0 := .int .i64 y.k) (y1 := .int .i64 y.v) (y2 := .int .i64 y.n) (y3 := .slice B n e)
        have HB2 := Lib.hid (hx2.2.below HB.out HB.out.size (fun k hk => Nat.le_of_eq hk.symm))
        have HY2 := Lib.hid (HY.out.only hx2.2 (by omega))
        have HX2 := Lib.hid hx2.1
        clear hx2 x0 x1 x2 x3 f0 f1 f2 f3
        go_roundg (gk - 1)
        case measure => have := HC.out; omega
        case rel => exact ⟨y, B, n, e, by have := HC.out; omega, HB2.out, HX2.out, HY2.out, HE2.out, HRy.out⟩
      · have k2 : (x.k == 2) = false := by rw [hk]; rfl
        have k3 : (x.k == 3) = true := by rw [hk]; rfl
        clear hk
        go_wp2_with (fail)
        have hx2 := HX.out.set4 (y0 := .int .i64 y.k) (y1 := .int .i64 y.v) (y2 := .int .i64 y.n) (y3 := .slice B n e)
        have HB2 := Lib.hid (hx2.2.below HB.out HB.out.size (fun k hk => Nat.le_of_eq hk.symm))
        have HY2 := Lib.hid (HY.out.only hx2.2 (by omega))
        have HX2 := Lib.hid hx2.1
        clear hx2 x0 x1 x2 x3 f0 f1 f2 f3
        go_roundg (gk - 1)
        case measure => have := HC.out; omega
        case rel => exact ⟨y, B, n, e, by have := HC.out; omega, HB2.out, HX2.out, HY2.out, HE2.out, HRy.out⟩
    · have HE2 := Lib.hid (show core c = x by
        rw [HE.out]
        exact core_stays (fun h => hc ⟨h.1, HR'.out.len.trans h.2⟩))
      have HRc := Lib.hid (show RepH S w (core c).ps A' m' d' by rw [HE2.out]; exact HR'.out)
      clear HE
      obtain ⟨y0, y1, y2, y3, g0, g1, g2, g3⟩ := HY.out.four
      have hylt := HY.out.lt
      by_cases hk2 : x.k = 2
      · have hm : ((m' : Int) == 1) = false := beq_eq_false_iff_ne.2 (fun e => hc ⟨.inl hk2, by omega⟩)
        have k2 : (x.k == 2) = true := by rw [hk2]; rfl
        clear hk2 hc
        go_wp2_with (fail)
        have hs := HY.out.set4 (y0 := .int .i64 x.k) (y1 := .int .i64 x.v) (y2 := .int .i64 x.n) (y3 := .slice A' m' d')
        first | (refine calls_named ?_; intro W3 hW3) | (refine body_named ?_; intro W3 hW3) | (refine wpList_named ?_; intro W3 hW3) | (refine wp_named ?_; intro W3 hW3)
        rw [hW3] at hs
        have HB3 := Lib.hid (hs.2.below HB.out HB.out.size (fun k hk => by rw [show k = w.heap.size + 1 from hk]; omega))
        obtain ⟨r0, r1, r2, r3, _⟩ := hs.1.four
        clear hW3 hs
        refine bodyPost_ret (v := .agg #[.int .i64 x.k, .int .i64 x.v, .int .i64 x.n, .slice A' m' d']) (by simp [results, Tryz.results82, go_sem, r0, r1, r2, r3]; try rfl) rfl ⟨⟨A', m', d', by rw [HE2.out]; rfl, HRc.out⟩, HB3.out⟩
      · have k2 : (x.k == 2) = false := beq_eq_false_iff_ne.2 hk2
        by_cases hk3 : x.k = 3
        · have hm : ((m' : Int) == 1) = false := beq_eq_false_iff_ne.2 (fun e => hc ⟨.inr hk3, by omega⟩)
          have k3 : (x.k == 3) = true := by rw [hk3]; rfl
          clear hk2 hk3 hc
          go_wp2_with (fail)
          have hs := HY.out.set4 (y0 := .int .i64 x.k) (y1 := .int .i64 x.v) (y2 := .int .i64 x.n) (y3 := .slice A' m' d')
          first | (refine calls_named ?_; intro W3 hW3) | (refine body_named ?_; intro W3 hW3) | (refine wpList_named ?_; intro W3 hW3) | (refine wp_named ?_; intro W3 hW3)
          rw [hW3] at hs
          have HB3 := Lib.hid (hs.2.below HB.out HB.out.size (fun k hk => by rw [show k = w.heap.size + 1 from hk]; omega))
          obtain ⟨r0, r1, r2, r3, _⟩ := hs.1.four
          clear hW3 hs
          refine bodyPost_ret (v := .agg #[.int .i64 x.k, .int .i64 x.v, .int .i64 x.n, .slice A' m' d']) (by simp [results, Tryz.results82, go_sem, r0, r1, r2, r3]; try rfl) rfl ⟨⟨A', m', d', by rw [HE2.out]; rfl, HRc.out⟩, HB3.out⟩
        · have k3 : (x.k == 3) = false := beq_eq_false_iff_ne.2 hk3
          clear hk2 hk3 hc
          go_wp2_with (fail)
          have hs := HY.out.set4 (y0 := .int .i64 x.k) (y1 := .int .i64 x.v) (y2 := .int .i64 x.n) (y3 := .slice A' m' d')
          first | (refine calls_named ?_; intro W3 hW3) | (refine body_named ?_; intro W3 hW3) | (refine wpList_named ?_; intro W3 hW3) | (refine wp_named ?_; intro W3 hW3)
          rw [hW3] at hs
          have HB3 := Lib.hid (hs.2.below HB.out HB.out.size (fun k hk => by rw [show k = w.heap.size + 1 from hk]; omega))
          obtain ⟨r0, r1, r2, r3, _⟩ := hs.1.four
          clear hW3 hs
          refine bodyPost_ret (v := .agg #[.int .i64 x.k, .int .i64 x.v, .int .i64 x.n, .slice A' m' d']) (by simp [results, Tryz.results82, go_sem, r0, r1, r2, r3]; try rfl) rfl ⟨⟨A', m', d', by rw [HE2.out]; rfl, HRc.out⟩, HB3.out⟩
end Go.Proofs.YticpjdjdimpglaaGreatDoor
/- Plain laws: how long texts of conditions are; the text of the core. No program. -/
namespace Go.Proofs.YticpjdjdimpglaaGreatDoor
set_option linter.unusedVariables false
set_option linter.unusedSimpArgs false
theorem ftext_core (f : Nat) (c : CT) : ftext f (core c) = ftext f c := by
  cases f with
  | zero => rfl
  | succ f => simp only [ftext, core_idem]
theorem foper_def (f : Nat) (p : CT) : foper (f + 1) p = if (core p).k = 2 ∨ (core p).k = 3 then 40 :: (ftext f (core p) ++ [41]) else ftext f (core p) := rfl
theorem ftext_def (f : Nat) (c : CT) : ftext (f + 1) c = if (core c).k = 1 then varW (core c).v ++ [32, 62, 61, 32] ++ dec (core c).n
    else if (core c).k = 4 then [110, 111, 116, 32] ++ (match (core c).ps.toL with | p :: _ => foper f p | [] => [])
    else if (core c).k = 2 then joinW [32, 97, 110, 100, 32] ((core c).ps.toL.map (foper f))
    else joinW [32, 111, 114, 32] ((core c).ps.toL.map fun p => if (core p).k = 3 then foper f p else ftext f p) := rfl
def cntL : List CT → Nat
  | [] => 0
  | c :: r => c.ps.cnt + 1 + cntL r
theorem cnt_L : ∀ F : CF, F.cnt = cntL F.toL
  | .nil => rfl
  | .cons k v n ps r => by
    rw [CF.cnt, CF.toL, cntL, cnt_L r]
theorem cntL_mem {l : List CT} {p : CT} (h : p ∈ l) : p.ps.cnt + 1 ≤ cntL l := by
  induction l with
  | nil => cases h
  | cons c r ih =>
    rw [cntL]
    rcases List.mem_cons.1 h with rfl | h
    · omega
    · have := ih h; omega
theorem coreF_cnt : ∀ (ps : CF) (k v n : Int), (coreF k v n ps).ps.cnt ≤ ps.cnt
  | .nil, k, v, n => Nat.le_refl _
  | .cons k' v' n' ps' r', k, v, n => by
    rw [coreF]
    split
    · have := coreF_cnt ps' k' v' n'
      rw [CF.cnt]; omega
    · exact Nat.le_refl _
theorem core_cnt (c : CT) : (core c).ps.cnt ≤ c.ps.cnt := coreF_cnt c.ps c.k c.v c.n
theorem varW_len (v : Int) : (varW v).length ≤ 8 := by
  unfold varW
  split
  · decide
  · split
    · decide
    · split <;> decide
theorem decN_len : ∀ f n, (decN f n).length ≤ f
  | 0, n => Nat.le_refl _
  | f + 1, n => by
    unfold decN
    split
    · simp
    · simp; exact decN_len f _
theorem dec_len22 (n : Int) : (dec n).length ≤ 21 := by
  unfold dec
  split
  · have := decN_len 20 n.natAbs; simp; omega
  · have := decN_len 20 n.natAbs; omega
theorem joinW_len {sep : List UInt8} {g : CT → List UInt8} (hs : sep.length ≤ 5) : ∀ {l : List CT}, (∀ p ∈ l, (g p).length + 12 ≤ 50 * (p.ps.cnt + 1)) → (joinW sep (l.map g)).length ≤ 50 * cntL l
  | [], _ => Nat.zero_le _
  | [x], h => by
    have := h x (by simp)
    simp only [List.map_cons, List.map_nil, joinW, cntL]
    omega
  | x :: y :: r, h => by
    have h1 := h x (by simp)
    have h2 := joinW_len (l := y :: r) hs fun p hp => h p (by simp [hp])
    simp only [List.map_cons, joinW, cntL, List.length_append] at h1 h2 ⊢
    omega
theorem text_len : ∀ (f : Nat) (c : CT), (ftext f c).length + 14 ≤ 50 * (c.ps.cnt + 1) ∧ (foper f c).length + 12 ≤ 50 * (c.ps.cnt + 1)
  | 0, c => ⟨by show 0 + 14 ≤ _; omega, by show 0 + 12 ≤ _; omega⟩
  | f + 1, c => by
    have ih := text_len f
    have hc := core_cnt c
    constructor
    · rw [ftext_def]
      have hL := cnt_L (core c).ps
      split
      · have h1 := varW_len (core c).v
        have h2 := dec_len22 (core c).n
        simp only [List.length_append, List.length_cons, List.length_nil]
        omega
      · split
        · cases hp : (core c).ps.toL with
          | nil => simp only [List.append_nil, List.length_cons, List.length_nil]; omega
          | cons p r =>
            have h1 := (ih p).2
            rw [hp, cntL] at hL
            simp only [List.length_append, List.length_cons, List.length_nil]
            omega
        · split
          · have := joinW_len (sep := [32, 97, 110, 100, 32]) (g := foper f) (by decide) (l := (core c).ps.toL) fun p _ => (ih p).2
            omega
          · have := joinW_len (sep := [32, 111, 114, 32]) (g := fun p => if (core p).k = 3 then foper f p else ftext f p) (by decide) (l := (core c).ps.toL) fun p _ => by
              show (if _ then _ else _ : List UInt8).length + 12 ≤ _
              split
              · exact (ih p).2
              · have := (ih p).1; omega
            omega
    · rw [foper_def]
      have h1 := (ih (core c)).1
      split
      · simp only [List.length_cons, List.length_append, List.length_nil]; omega
      · omega
end Go.Proofs.YticpjdjdimpglaaGreatDoor
/- format's text, operand, atLeast, not, and, or by their contracts. -/
namespace Go.Proofs.YticpjdjdimpglaaGreatDoor
set_option linter.unusedVariables false
set_option linter.unusedSimpArgs false
open Go.RowKit
theorem wrapI {n : Int} (h : -9223372036854775808 ≤ n ∧ n ≤ 9223372036854775807) : IntKind.i64.wrap n = n := by
  simp [IntKind.wrap, IntKind.bits, IntKind.signed]; omega
theorem itoa_by {n : Int} (h : -99 ≤ n ∧ n ≤ 99) {w : World} (hg : FG w) (p : BelowBy w) : Calls Tryz.prog 50 #[.int .i64 n] p.w' fun e w' => e = .returned (.string (bs (dec n))) ∧ ∃ q : BelowBy w, w' = q.w' :=
  calls_by (fun W hW => itoa_any h W (hg.below hW).now) p
theorem ix_vars (i : Nat) (h : i < 5) (W : World) : (Instr.indexAt 179 (.pointer (some ⟨2, 0, none⟩)) (.int .i64 (i : Int))).run Tryz.prog W = .ok (.pointer (some ⟨2, i, none⟩)) W := by
  have hz : (Go.sizeOf 9).run Tryz.prog W = .ok 1 W := by kernel_rfl
  have h0 : (0 : Int) ≤ (i : Int) ∧ (i : Int) < 5 := by omega
  simp [Instr.indexAt, run_underlying Tryz.underlying179, Instr.sureAddr, asIntOf, hz, h0, Addr.add, h]
  intro e
  exact e.symm
theorem bs_add (a b : List UInt8) : bs a ++ bs b = bs (a ++ b) := by
  apply ByteArray.ext
  simp [bs]
set_option maxHeartbeats 4000000 in
set_option maxRecDepth 100000 in
theorem atleast_any (c : CT) (A : Option Addr) (m d : Nat) (w : World) (hv : 1 ≤ c.v ∧ c.v ≤ 4) (hn : 0 ≤ c.n ∧ c.n ≤ 64) (hg : FG w) : Calls Tryz.prog 83 #[cV c A m d] w fun e w' => e = .returned (.string (bs (varW c.v ++ [32, 62, 61, 32] ++ dec c.n))) ∧ Below w.heap.size w w' := by
  have HG := Lib.hid hg
  obtain ⟨k, v, n, ps⟩ := c
  dsimp only at hv hn ⊢
  have hl1 := varW_len v
  have hl2 := dec_len22 n
  unfold cV
  dsimp only [vi]
  clear hg
  go_enter Tryz.func83, Tryz.ntmps83
  go_wp2_with (fail)
  first | (refine calls_named ?_; intro W hW) | (refine body_named ?_; intro W hW) | (refine wpList_named ?_; intro W hW) | (refine wp_named ?_; intro W hW)
  have hb1 : Below w.heap.size w W := by rw [← hW]; exact (Below.refl _ _).alloc (Nat.le_refl _) _
  have hx1 : Blk W w.heap.size 75 #[.int .i64 k, .int .i64 v, .int .i64 n, .slice A m d] := by rw [← hW]; exact Blk.new w _ _
  clear hW
  have HG1 := Lib.hid (HG.out.below hb1)
  obtain ⟨i, hi, hi5, hcell⟩ := vars_at HG1.out.now hv.1 hv.2
  have HB1 := Lib.hid hb1
  have hlt := hx1.lt
  have hlv := World.block_lt_of_cell? W _ hcell
  have X1 := cell_by hlt (show W.cell? ⟨w.heap.size, 1, none⟩ = some (.int .i64 v) from hx1.cell 1)
  have X2 := cell_by hlt (show W.cell? ⟨w.heap.size, 2, none⟩ = some (.int .i64 n) from hx1.cell 2)
  have X3 := cell_by hlv hcell
  have hci := itoa_by (n := n) (by omega) HG1.out
  subst hi
  have hi0 : (0 : Int) ≤ (i : Int) := by omega
  have hi6 : (i : Int) < 5 := by omega
  clear hb1 hx1 hcell hlt hlv
  generalize e1 : varW (i : Int) = s1 at *
  generalize e2 : dec n = s2 at *
  have HS1 := Lib.hid e1
  have HS2 := Lib.hid e2
  clear e1 e2
  have hs1 : ¬ (9223372036854775807 < s1.length + 4) := by omega
  have hs2 : ¬ (9223372036854775807 < s1.length + 4 + s2.length) := by omega
  have ixv := ix_vars i hi5
  refine wp_region_below mixF (by kernel_rfl) ?_
  repeat (quiet_step (first | (go_at_call 50; exact hci _) | (go_at_fn 50; exact hci _)))
  refine wpQuiet_nil ?_
  intro _ hw'
  obtain ⟨⟨wq, hbq⟩, hw2⟩ := hw'
  subst hw2
  have HB2 := Lib.hid (HB1.out.trans (hbq.mono HB1.out.size))
  clear X1 X2 X3 hci ixv hbq
  go_wp2_with (fail)
  go_ret
  exact ⟨congrArg (fun s => Ending.returned (.string s)) (by rw [show ({ data := #[32, 62, 61, 32] } : ByteArray) = bs [32, 62, 61, 32] from rfl, bs_add, bs_add, HS1.out, HS2.out]), HB2.out⟩
/-- The contracts of text and operand with fuel f. -/
def TX (f : Nat) : Prop := ∀ (S : Nat → Prop) (c : CT) (A : Option Addr) (m d : Nat) (w : World), okC c = true → 2 * dpt c ≤ f + 1 → c.ps.cnt ≤ 10000 → RepH S w c.ps A m d → FG w →
  Calls Tryz.prog 41 #[cV c A m d] w fun e w' => e = .returned (.string (bs (ftext f c))) ∧ Below w.heap.size w w'
def OP (f : Nat) : Prop := ∀ (S : Nat → Prop) (c : CT) (A : Option Addr) (m d : Nat) (w : World), okC c = true → 2 * dpt c ≤ f → c.ps.cnt ≤ 10000 → RepH S w c.ps A m d → FG w →
  Calls Tryz.prog 142 #[cV c A m d] w fun e w' => e = .returned (.string (bs (foper f c))) ∧ Below w.heap.size w w'
set_option maxHeartbeats 4000000 in
set_option maxRecDepth 100000 in
theorem op_of (f : Nat) (ih : TX f) : OP (f + 1) := by
  intro S c A m d w hok hd hcnt h hg
  have HI := Lib.hid ih
  have HR := Lib.hid h
  have HG := Lib.hid hg
  have HOK := Lib.hid (core_ok hok).1
  have HD := Lib.hid (show 2 * dpt (core c) ≤ f + 1 by have := core_dep c; omega)
  have HC := Lib.hid (show (core c).ps.cnt ≤ 10000 by have := core_cnt c; omega)
  have hl := (text_len f (core c)).1
  have HE := Lib.hid (foper_def f c)
  have hcc := HC.out
  have hl2 : (ftext f (core c)).length ≤ 1000000 := by omega
  clear ih h hg hok hd hl hcc
  unfold cV
  go_enter Tryz.func142, Tryz.ntmps142
  go_wp2_with (fail)
  first | (refine calls_named ?_; intro W hW) | (refine body_named ?_; intro W hW) | (refine wpList_named ?_; intro W hW) | (refine wp_named ?_; intro W hW)
  have hb1 : Below w.heap.size w W := by rw [← hW]; exact (Below.refl _ _).alloc (Nat.le_refl _) _
  clear hW
  have HB1 := Lib.hid hb1
  clear hb1
  refine (core_any (c := c) (HR.out.below HB1.out)).mono ?_
  rintro e w1 ⟨⟨A1, m1, d1, rfl, hr1⟩, hb1⟩
  have HB2 := Lib.hid (HB1.out.trans (hb1.mono HB1.out.size))
  have HR1 := Lib.hid (hr1.below hb1)
  clear hr1 hb1 HB1
  generalize core c = x at *
  unfold cV
  dsimp only [vi]
  by_cases h2 : x.k = 2 ∨ x.k = 3
  · have HE2 := Lib.hid (HE.out.trans (if_pos h2))
    clear HE
    have hs1 : ¬ (9223372036854775807 < 1 + (ftext f x).length) := by omega
    have hs2 : ¬ (9223372036854775807 < 1 + (ftext f x).length + 1) := by omega
    by_cases k2 : x.k = 2
    · have k2b : (x.k == 2) = true := by rw [k2]; rfl
      clear h2 k2
      go_wp2_with (fail)
      first | (refine calls_named ?_; intro W3 hW3) | (refine body_named ?_; intro W3 hW3) | (refine wpList_named ?_; intro W3 hW3) | (refine wp_named ?_; intro W3 hW3)
      have hb3 : Below w1.heap.size w1 W3 := by rw [← hW3]; exact (Below.refl _ _).alloc (Nat.le_refl _) _
      clear hW3
      have HB3 := Lib.hid (HB2.out.trans (hb3.mono HB2.out.size))
      have HR3 := Lib.hid (HR1.out.below hb3)
      clear hb3
      refine (HI.out S x A1 m1 d1 W3 HOK.out HD.out HC.out HR3.out (HG.out.below HB3.out)).mono ?_
      rintro e w4 ⟨rfl, hb4⟩
      have HB4 := Lib.hid (HB3.out.trans (hb4.mono HB3.out.size))
      clear hb4
      go_wp2_with (fail)
      go_ret
      exact ⟨congrArg (fun s => Ending.returned (.string s)) (by rw [HE2.out, show ({ data := #[40] } : ByteArray) = bs [40] from rfl, show ({ data := #[41] } : ByteArray) = bs [41] from rfl, bs_add, bs_add]; rfl), HB4.out⟩
    · have k2b : (x.k == 2) = false := beq_eq_false_iff_ne.2 k2
      have k3b : (x.k == 3) = true := by rw [h2.resolve_left k2]; rfl
      clear h2 k2
      go_wp2_with (fail)
      first | (refine calls_named ?_; intro W3 hW3) | (refine body_named ?_; intro W3 hW3) | (refine wpList_named ?_; intro W3 hW3) | (refine wp_named ?_; intro W3 hW3)
      have hb3 : Below w1.heap.size w1 W3 := by rw [← hW3]; exact (Below.refl _ _).alloc (Nat.le_refl _) _
      clear hW3
      have HB3 := Lib.hid (HB2.out.trans (hb3.mono HB2.out.size))
      have HR3 := Lib.hid (HR1.out.below hb3)
      clear hb3
      refine (HI.out S x A1 m1 d1 W3 HOK.out HD.out HC.out HR3.out (HG.out.below HB3.out)).mono ?_
      rintro e w4 ⟨rfl, hb4⟩
      have HB4 := Lib.hid (HB3.out.trans (hb4.mono HB3.out.size))
      clear hb4
      go_wp2_with (fail)
      go_ret
      exact ⟨congrArg (fun s => Ending.returned (.string s)) (by rw [HE2.out, show ({ data := #[40] } : ByteArray) = bs [40] from rfl, show ({ data := #[41] } : ByteArray) = bs [41] from rfl, bs_add, bs_add]; rfl), HB4.out⟩
  · have HE2 := Lib.hid (HE.out.trans (if_neg h2))
    have k2 : (x.k == 2) = false := beq_eq_false_iff_ne.2 (fun e => h2 (.inl e))
    have k3 : (x.k == 3) = false := beq_eq_false_iff_ne.2 (fun e => h2 (.inr e))
    clear HE h2
    go_wp2_with (fail)
    first | (refine calls_named ?_; intro W3 hW3) | (refine body_named ?_; intro W3 hW3) | (refine wpList_named ?_; intro W3 hW3) | (refine wp_named ?_; intro W3 hW3)
    have hb3 : Below w1.heap.size w1 W3 := by rw [← hW3]; exact (Below.refl _ _).alloc (Nat.le_refl _) _
    clear hW3
    have HB3 := Lib.hid (HB2.out.trans (hb3.mono HB2.out.size))
    have HR3 := Lib.hid (HR1.out.below hb3)
    clear hb3
    refine (HI.out S x A1 m1 d1 W3 HOK.out HD.out HC.out HR3.out (HG.out.below HB3.out)).mono ?_
    rintro e w4 ⟨rfl, hb4⟩
    have HB4 := Lib.hid (HB3.out.trans (hb4.mono HB3.out.size))
    clear hb4
    go_wp2_with (fail)
    go_ret
    exact ⟨congrArg (fun s => Ending.returned (.string s)) (by rw [HE2.out]), HB4.out⟩
end Go.Proofs.YticpjdjdimpglaaGreatDoor
/- format's not, and, or by their contracts. -/
namespace Go.Proofs.YticpjdjdimpglaaGreatDoor
set_option linter.unusedVariables false
set_option linter.unusedSimpArgs false
open Go.RowKit
theorem elemStr : Elem Tryz.prog 123 9 1 16 := Elem.mk' Tryz.underlying123 (z := .string ⟨#[]⟩) (by kernel_rfl) rfl (by omega)
theorem part_ok {x : CT} {p : CT} (hok : okC x = true) (hk : x.k = 2 ∨ x.k = 3 ∨ x.k = 4) (hp : p ∈ x.ps.toL) : okC p = true ∧ dpt p + 1 ≤ dpt x ∧ p.ps.cnt + 1 ≤ x.ps.cnt := by
  have hB : x.ps.okB = true := by
    rcases okC_cases hok with h | h | h
    · have := h.1; omega
    · exact h.2.2.2.2
    · exact h.2.2.2.2.2
  refine ⟨okB_mem hB p hp, ?_, ?_⟩
  · have := dep_mem p hp
    unfold dpt at this ⊢
    omega
  · rw [cnt_L x.ps]; exact cntL_mem hp
theorem mem_at {α : Type} {l : List α} {i : Nat} {x : α} (h : l[i]? = some x) : x ∈ l := by
  obtain ⟨h1, h2⟩ := List.getElem?_eq_some_iff.1 h
  rw [← h2]
  exact List.getElem_mem h1
set_option maxHeartbeats 4000000 in
set_option maxRecDepth 100000 in
theorem not_of (f : Nat) (ih : OP f) (S : Nat → Prop) (x : CT) (A : Option Addr) (m d : Nat) (w : World) (hok : okC x = true) (hk : x.k = 4) (hd : 2 * dpt x ≤ f + 2) (hcnt : x.ps.cnt ≤ 10000) (h : RepH S w x.ps A m d) (hg : FG w) :
    Calls Tryz.prog 86 #[cV x A m d] w fun e w' => e = .returned (.string (bs ([110, 111, 116, 32] ++ (match x.ps.toL with | p :: _ => foper f p | [] => [])))) ∧ Below w.heap.size w w' := by
  have hm : m = 1 := by
    rcases okC_cases hok with h1 | h1 | h1
    · have := h1.1; omega
    · have := h1.2.2.2.1
      rw [num_len] at this
      rw [h.len, this]
    · have := h1.1; omega
  subst hm
  obtain ⟨b, off, p, B, n, e, rfl, hb, hS, hp, h0, h1, h2, h3, hr⟩ := h.elem (i := 0) (by omega)
  have hps : x.ps = .one p .nil := len1 h.len.symm hp
  have hpm := part_ok hok (by omega) (mem_at hp)
  rw [show (match x.ps.toL with | p :: _ => foper f p | [] => []) = foper f p by rw [hps]; rfl]
  have hl := (text_len f p).2
  have HI := Lib.hid (fun W hR hG => ih S p B n e W hpm.1 (by omega) (by omega) hR hG)
  have HR := Lib.hid hr
  have HG := Lib.hid hg
  have hs1 : ¬ (9223372036854775807 < 4 + (foper f p).length) := by omega
  rw [Nat.zero_mul, Nat.add_zero] at h0 h1 h2 h3
  obtain ⟨k, v, nn, ps⟩ := x
  clear h hg hok hk hd hcnt hp hps hpm hr ih hl
  unfold cV
  dsimp only [vi]
  go_enter Tryz.func86, Tryz.ntmps86
  go_wp2_with (fail)
  first | (refine calls_named ?_; intro W hW) | (refine body_named ?_; intro W hW) | (refine wpList_named ?_; intro W hW) | (refine wp_named ?_; intro W hW)
  have hb1 : Below w.heap.size w W := by rw [← hW]; exact (Below.refl _ _).alloc (Nat.le_refl _) _
  clear hW
  have HB1 := Lib.hid hb1
  clear hb1
  refine (HI.out W (HR.out.below HB1.out) (HG.out.below HB1.out)).mono ?_
  rintro e w4 ⟨rfl, hb4⟩
  have HB4 := Lib.hid (HB1.out.trans (hb4.mono HB1.out.size))
  clear hb4
  go_wp2_with (fail)
  go_ret
  exact ⟨congrArg (fun s => Ending.returned (.string s)) (by rw [show ({ data := #[110, 111, 116, 32] } : ByteArray) = bs [110, 111, 116, 32] from rfl, bs_add]; rfl), HB4.out⟩
set_option maxHeartbeats 4000000 in
set_option maxRecDepth 100000 in
theorem and_of (f : Nat) (ih : OP f) (S : Nat → Prop) (x : CT) (A : Option Addr) (m d : Nat) (w : World) (hok : okC x = true) (hk : x.k = 2) (hd : 2 * dpt x ≤ f + 2) (hcnt : x.ps.cnt ≤ 10000) (h : RepH S w x.ps A m d) (hg : FG w) :
    Calls Tryz.prog 84 #[cV x A m d] w fun e w' => e = .returned (.string (bs (joinW [32, 97, 110, 100, 32] (x.ps.toL.map (foper f))))) ∧ Below w.heap.size w w' := by
  have HI := Lib.hid ih
  have hm16 : m ≤ 16 ∧ 0 < m := by
    rcases okC_cases hok with h1 | h1 | h1
    · have := h1.1; omega
    · have := h1.1; omega
    · have := h1.2.2.2.1
      have := h1.2.2.2.2.1
      rw [num_len] at *
      rw [h.len]; omega
  obtain ⟨hm16, hm0⟩ := hm16
  have HLEN := Lib.hid (show (joinW [32, 97, 110, 100, 32] (x.ps.toL.map (foper f))).length ≤ 1000000 by
    have h1 := joinW_len (sep := [32, 97, 110, 100, 32]) (g := (foper f)) (by decide) (l := x.ps.toL) fun p _ => by
      exact (text_len f p).2
    rw [← cnt_L] at h1
    omega)
  have HOK := Lib.hid hok
  have HK := Lib.hid hk
  have HR := Lib.hid h
  have HL := Lib.hid h.len
  have HG := Lib.hid hg
  clear h hg hok ih hk
  unfold cV
  dsimp only [vi]
  go_enter Tryz.func84, Tryz.ntmps84
  go_wp2_with (fail)
  first | (refine calls_named ?_; intro W hW) | (refine body_named ?_; intro W hW) | (refine wpList_named ?_; intro W hW) | (refine wp_named ?_; intro W hW)
  have hb1 : Below w.heap.size w W := by rw [← hW]; exact (Below.refl _ _).alloc (Nat.le_refl _) _
  clear hW
  have HB1 := Lib.hid hb1
  clear hb1
  go_loopw [3, 9] (fun o s wr => ∃ (i : Nat) (A' : Option Addr) (c' : Nat), i ≤ m ∧ s = .int .i64 i ∧ o = .slice A' i c' ∧ Hid (wr.ownsRow w.heap.size 9 1 (.slice A' i c') i ((x.ps.toL.take i).map fun p => .string (bs (foper f p)))) ∧ Hid (Below w.heap.size w wr)) (fun _ s _ => m - (intOf s).toNat)
  case atStart => exact ⟨0, none, 0, Nat.zero_le _, rfl, rfl, World.ownsRow_nil _ _ _ _, HB1.out⟩
  case round =>
    obtain ⟨i, A', c', him, rfl, rfl, HO, HB⟩ := hrel
    by_cases hlt : i < m
    · obtain ⟨b, off, p, B, n, e, rfl, hb, hS, hp, h0, h1, h2, h3, hr⟩ := HR.out.elem hlt
      rw [← HB.out.cell hb] at h0 h1 h2 h3
      have HP := Lib.hid hp
      have HPM := Lib.hid (part_ok HOK.out (by have := HK.out; omega) (mem_at hp))
      have HRp := Lib.hid hr
      clear hp hr
      go_wp2_with (fail)
      first | (refine calls_named ?_; intro W3 hW3) | (refine body_named ?_; intro W3 hW3) | (refine wpList_named ?_; intro W3 hW3) | (refine wp_named ?_; intro W3 hW3)
      have hb3 : Below wr.heap.size wr W3 := by rw [← hW3]; exact (Below.refl _ _).alloc (Nat.le_refl _) _
      clear hW3
      have HB3 := Lib.hid (HB.out.trans (hb3.mono HB.out.size))
      have HO3 := Lib.hid (own_below_all HO.out hb3)
      clear hb3
      refine (HI.out S p B n e W3 HPM.out.1 (by have := HPM.out.2.1; omega) (by have := HPM.out.2.2; omega) (HRp.out.below HB3.out) (HG.out.below HB3.out)).mono ?_
      rintro e w5 ⟨rfl, hb5⟩
      have HB5 := Lib.hid (HB3.out.trans (hb5.mono HB3.out.size))
      have HO5 := Lib.hid (own_below_all HO3.out hb5)
      clear hb5 h0 h1 h2 h3
      go_wp2_with (at_builtin; refine Hid.out ?_)
      refine Lib.hid ?_
      first | (refine calls_named ?_; intro W6 hW6) | (refine body_named ?_; intro W6 hW6) | (refine wpList_named ?_; intro W6 hW6) | (refine wp_named ?_; intro W6 hW6)
      have hb6 : Below w5.heap.size w5 W6 := by rw [← hW6]; exact (Below.refl _ _).alloc (Nat.le_refl _) _
      have hnew : ∀ j u, [Value.string (bs (foper f p))][j]? = some u → W6.cell? ⟨w5.heap.size, j, none⟩ = some u := by
        rw [← hW6]; exact new_cells _ _ _
      clear hW6
      have hsz := HB5.out.size
      refine wpList_push elemStr rfl (.tmp 13) (.tmp 16) rfl w.heap.size A' i c' _ rfl (own_below_all HO5.out hb6) w5.heap.size rfl [_] rfl hnew (by simp [Value.oneCell']) (by omega) (by omega) (Nat.le_trans hsz hb6.size) ?_
      intro A2 c2 w7 hO7 hB7 hG7
      have HO7 := Lib.hid (show w7.ownsRow w.heap.size 9 1 (.slice A2 (i + 1) c2) (i + 1) ((x.ps.toL.take (i + 1)).map fun p => .string (bs (foper f p))) by
        rw [take_map (fun p => Value.string (bs (foper f p))) HP.out]
        exact hO7)
      have HB7 := Lib.hid (HB5.out.trans ((hb6.mono hsz).trans hB7))
      clear hO7 hB7 hG7 hb6 hnew
      go_wp2
      go_roundw
      case rel => exact ⟨i + 1, A2, c2, hlt, by go_num, rfl, HO7.out, HB7.out⟩
      case measure => simp [intOf]; omega
    · have hi : i = m := by omega
      have hO := HO.out
      rw [List.take_of_length_le (by rw [toL_len, ← HL.out]; omega)] at hO
      subst hi
      have hrd := own_rd hO
      have HJ := Lib.hid (sjoin_any A' i c' (x.ps.toL.map (foper f)) [32, 97, 110, 100, 32] wr (by rw [List.map_map]; exact hrd) (by omega) HLEN.out (by omega))
      clear hO hrd
      go_wp2_with (fail)
      refine HJ.out.mono ?_
      rintro e w5 ⟨rfl, hb5⟩
      have HB5 := Lib.hid (HB.out.trans (hb5.mono HB.out.size))
      clear hb5
      go_wp2_with (fail)
      go_ret
      exact ⟨rfl, HB5.out⟩
set_option maxHeartbeats 4000000 in
set_option maxRecDepth 100000 in
theorem or_of (f : Nat) (ih : OP f) (IH2 : TX f) (S : Nat → Prop) (x : CT) (A : Option Addr) (m d : Nat) (w : World) (hok : okC x = true) (hk : x.k = 3) (hd : 2 * dpt x ≤ f + 2) (hcnt : x.ps.cnt ≤ 10000) (h : RepH S w x.ps A m d) (hg : FG w) :
    Calls Tryz.prog 85 #[cV x A m d] w fun e w' => e = .returned (.string (bs (joinW [32, 111, 114, 32] (x.ps.toL.map fun p => if (core p).k = 3 then foper f p else ftext f p)))) ∧ Below w.heap.size w w' := by
  have HI := Lib.hid ih
  have HI2 := Lib.hid IH2
  have hm16 : m ≤ 16 ∧ 0 < m := by
    rcases okC_cases hok with h1 | h1 | h1
    · have := h1.1; omega
    · have := h1.1; omega
    · have := h1.2.2.2.1
      have := h1.2.2.2.2.1
      rw [num_len] at *
      rw [h.len]; omega
  obtain ⟨hm16, hm0⟩ := hm16
  have HLEN := Lib.hid (show (joinW [32, 111, 114, 32] (x.ps.toL.map fun p => if (core p).k = 3 then foper f p else ftext f p)).length ≤ 1000000 by
    have h1 := joinW_len (sep := [32, 111, 114, 32]) (g := fun p => if (core p).k = 3 then foper f p else ftext f p) (by decide) (l := x.ps.toL) fun p _ => by
      show (if _ then _ else _ : List UInt8).length + 12 ≤ _
      split
      · exact (text_len f p).2
      · have := (text_len f p).1; omega
    rw [← cnt_L] at h1
    omega)
  have HOK := Lib.hid hok
  have HK := Lib.hid hk
  have HR := Lib.hid h
  have HL := Lib.hid h.len
  have HG := Lib.hid hg
  clear h hg hok ih IH2 hk
  unfold cV
  dsimp only [vi]
  go_enter Tryz.func85, Tryz.ntmps85
  go_wp2_with (fail)
  first | (refine calls_named ?_; intro W hW) | (refine body_named ?_; intro W hW) | (refine wpList_named ?_; intro W hW) | (refine wp_named ?_; intro W hW)
  have hb1 : Below w.heap.size w W := by rw [← hW]; exact (Below.refl _ _).alloc (Nat.le_refl _) _
  clear hW
  have HB1 := Lib.hid hb1
  clear hb1
  go_loopw [3, 10] (fun o s wr => ∃ (i : Nat) (A' : Option Addr) (c' : Nat), i ≤ m ∧ s = .int .i64 i ∧ o = .slice A' i c' ∧ Hid (wr.ownsRow w.heap.size 9 1 (.slice A' i c') i ((x.ps.toL.take i).map fun p => .string (bs (if (core p).k = 3 then foper f p else ftext f p)))) ∧ Hid (Below w.heap.size w wr)) (fun _ s _ => m - (intOf s).toNat)
  case atStart => exact ⟨0, none, 0, Nat.zero_le _, rfl, rfl, World.ownsRow_nil _ _ _ _, HB1.out⟩
  case round =>
    obtain ⟨i, A', c', him, rfl, rfl, HO, HB⟩ := hrel
    by_cases hlt : i < m
    · obtain ⟨b, off, p, B, n, e, rfl, hb, hS, hp, h0, h1, h2, h3, hr⟩ := HR.out.elem hlt
      rw [← HB.out.cell hb] at h0 h1 h2 h3
      have HP := Lib.hid hp
      have HPM := Lib.hid (part_ok HOK.out (by have := HK.out; omega) (mem_at hp))
      have HRp := Lib.hid hr
      clear hp hr
      go_wp2_with (fail)
      first | (refine calls_named ?_; intro W3 hW3) | (refine body_named ?_; intro W3 hW3) | (refine wpList_named ?_; intro W3 hW3) | (refine wp_named ?_; intro W3 hW3)
      have hb3 : Below wr.heap.size wr W3 := by rw [← hW3]; exact (Below.refl _ _).alloc (Nat.le_refl _) _
      have hx3 : Blk W3 wr.heap.size 24 #[.int .i64 p.k, .int .i64 p.v, .int .i64 p.n, .slice B n e] := by rw [← hW3]; exact Blk.new wr _ _
      clear hW3
      have HB3 := Lib.hid (HB.out.trans (hb3.mono HB.out.size))
      have HO3 := Lib.hid (own_below_all HO.out hb3)
      have HX3 := Lib.hid hx3
      clear hb3 hx3 h0 h1 h2 h3
      refine (core_any (c := p) (HRp.out.below HB3.out)).mono ?_
      rintro e' w4 ⟨⟨A1, m1, d1, rfl, hr1⟩, hb4⟩
      have HB4 := Lib.hid (HB3.out.trans (hb4.mono HB3.out.size))
      have HO4 := Lib.hid (own_below_all HO3.out hb4)
      have HX4 := Lib.hid (HX3.out.below hb4 HX3.out.lt)
      have HRc := Lib.hid (hr1.below hb4)
      clear hb4 hr1 HX3 HO3
      unfold cV
      dsimp only [vi]
      by_cases hk3 : (core p).k = 3
      · have k3 : ((core p).k != 3) = false := by rw [hk3]; rfl
        have HK3 := Lib.hid hk3
        have q0 := HX4.out.cell 0
        have q1 := HX4.out.cell 1
        have q2 := HX4.out.cell 2
        have q3 := HX4.out.cell 3
        have ql := HX4.out.lt
        clear hk3
        go_wp2_with (fail)
        first | (refine calls_named ?_; intro W5 hW5) | (refine body_named ?_; intro W5 hW5) | (refine wpList_named ?_; intro W5 hW5) | (refine wp_named ?_; intro W5 hW5)
        have hb5 : Below w4.heap.size w4 W5 := by rw [← hW5]; exact (Below.refl _ _).alloc (Nat.le_refl _) _
        clear hW5
        have HB5' := Lib.hid (HB4.out.trans (hb5.mono HB4.out.size))
        have HO5' := Lib.hid (own_below_all HO4.out hb5)
        clear hb5 q0 q1 q2 q3 ql HX4
        refine (HI.out S p B n e W5 HPM.out.1 (by have := HPM.out.2.1; omega) (by have := HPM.out.2.2; omega) (HRp.out.below HB5'.out) (HG.out.below HB5'.out)).mono ?_
        rintro e w5 ⟨rfl, hb5⟩
        have HB5 := Lib.hid (HB5'.out.trans (hb5.mono HB5'.out.size))
        have HO5 := Lib.hid (own_below_all HO5'.out hb5)
        clear hb5 HB5' HO5' HO4
        go_wp2_with (at_builtin; refine Hid.out ?_)
        refine Lib.hid ?_
        first | (refine calls_named ?_; intro W6 hW6) | (refine body_named ?_; intro W6 hW6) | (refine wpList_named ?_; intro W6 hW6) | (refine wp_named ?_; intro W6 hW6)
        have hb6 : Below w5.heap.size w5 W6 := by rw [← hW6]; exact (Below.refl _ _).alloc (Nat.le_refl _) _
        have hnew : ∀ j u, [Value.string (bs (foper f p))][j]? = some u → W6.cell? ⟨w5.heap.size, j, none⟩ = some u := by
          rw [← hW6]; exact new_cells _ _ _
        clear hW6
        have hsz := HB5.out.size
        refine wpList_push elemStr rfl (.tmp 24) (.tmp 27) rfl w.heap.size A' i c' _ rfl (own_below_all HO5.out hb6) w5.heap.size rfl [_] rfl hnew (by simp [Value.oneCell']) (by omega) (by omega) (Nat.le_trans hsz hb6.size) ?_
        intro A2 c2 w7 hO7 hB7 hG7
        have HO7 := Lib.hid (show w7.ownsRow w.heap.size 9 1 (.slice A2 (i + 1) c2) (i + 1) ((x.ps.toL.take (i + 1)).map fun p => .string (bs (if (core p).k = 3 then foper f p else ftext f p))) by
          rw [take_map (fun p => Value.string (bs (if (core p).k = 3 then foper f p else ftext f p))) HP.out]
          rw [if_pos HK3.out]
          exact hO7)
        have HB7 := Lib.hid (HB5.out.trans ((hb6.mono hsz).trans hB7))
        clear hO7 hB7 hG7 hb6 hnew
        go_wp2
        go_roundw
        case rel => exact ⟨i + 1, A2, c2, hlt, by go_num, rfl, HO7.out, HB7.out⟩
        case measure => simp [intOf]; omega
      · have k3 : ((core p).k != 3) = true := bne_iff_ne.2 hk3
        have HK3 := Lib.hid hk3
        clear hk3
        go_wp2_with (fail)
        first | (refine calls_named ?_; intro W5 hW5) | (refine body_named ?_; intro W5 hW5) | (refine wpList_named ?_; intro W5 hW5) | (refine wp_named ?_; intro W5 hW5)
        have hb5 : Below w4.heap.size w4 W5 := by rw [← hW5]; exact (Below.refl _ _).alloc (Nat.le_refl _) _
        clear hW5
        have HB5' := Lib.hid (HB4.out.trans (hb5.mono HB4.out.size))
        have HO5' := Lib.hid (own_below_all HO4.out hb5)
        have HRc5 := Lib.hid (HRc.out.below hb5)
        clear hb5 HX4
        refine (HI2.out S (core p) A1 m1 d1 W5 (core_ok HPM.out.1).1 (by have := HPM.out.2.1; have := core_dep p; omega) (by have := HPM.out.2.2; have := core_cnt p; omega) HRc5.out (HG.out.below HB5'.out)).mono ?_
        rintro e w5 ⟨rfl, hb5⟩
        rw [ftext_core]
        have HB5 := Lib.hid (HB5'.out.trans (hb5.mono HB5'.out.size))
        have HO5 := Lib.hid (own_below_all HO5'.out hb5)
        clear hb5 HB5' HO5' HO4
        go_wp2_with (at_builtin; refine Hid.out ?_)
        refine Lib.hid ?_
        first | (refine calls_named ?_; intro W6 hW6) | (refine body_named ?_; intro W6 hW6) | (refine wpList_named ?_; intro W6 hW6) | (refine wp_named ?_; intro W6 hW6)
        have hb6 : Below w5.heap.size w5 W6 := by rw [← hW6]; exact (Below.refl _ _).alloc (Nat.le_refl _) _
        have hnew : ∀ j u, [Value.string (bs (ftext f p))][j]? = some u → W6.cell? ⟨w5.heap.size, j, none⟩ = some u := by
          rw [← hW6]; exact new_cells _ _ _
        clear hW6
        have hsz := HB5.out.size
        refine wpList_push elemStr rfl (.tmp 19) (.tmp 22) rfl w.heap.size A' i c' _ rfl (own_below_all HO5.out hb6) w5.heap.size rfl [_] rfl hnew (by simp [Value.oneCell']) (by omega) (by omega) (Nat.le_trans hsz hb6.size) ?_
        intro A2 c2 w7 hO7 hB7 hG7
        have HO7 := Lib.hid (show w7.ownsRow w.heap.size 9 1 (.slice A2 (i + 1) c2) (i + 1) ((x.ps.toL.take (i + 1)).map fun p => .string (bs (if (core p).k = 3 then foper f p else ftext f p))) by
          rw [take_map (fun p => Value.string (bs (if (core p).k = 3 then foper f p else ftext f p))) HP.out]
          rw [if_neg HK3.out]
          exact hO7)
        have HB7 := Lib.hid (HB5.out.trans ((hb6.mono hsz).trans hB7))
        clear hO7 hB7 hG7 hb6 hnew
        go_wp2
        go_roundw
        case rel => exact ⟨i + 1, A2, c2, hlt, by go_num, rfl, HO7.out, HB7.out⟩
        case measure => simp [intOf]; omega
    · have hi : i = m := by omega
      have hO := HO.out
      rw [List.take_of_length_le (by rw [toL_len, ← HL.out]; omega)] at hO
      subst hi
      have hrd := own_rd hO
      have HJ := Lib.hid (sjoin_any A' i c' (x.ps.toL.map fun p => if (core p).k = 3 then foper f p else ftext f p) [32, 111, 114, 32] wr (by rw [List.map_map]; exact hrd) (by omega) HLEN.out (by omega))
      clear hO hrd
      go_wp2_with (fail)
      refine HJ.out.mono ?_
      rintro e w5 ⟨rfl, hb5⟩
      have HB5 := Lib.hid (HB.out.trans (hb5.mono HB.out.size))
      clear hb5
      go_wp2_with (fail)
      go_ret
      exact ⟨rfl, HB5.out⟩
end Go.Proofs.YticpjdjdimpglaaGreatDoor
/- format's text and Cond by their contracts. -/
namespace Go.Proofs.YticpjdjdimpglaaGreatDoor
set_option linter.unusedVariables false
set_option linter.unusedSimpArgs false
open Go.RowKit
theorem Only.imp {S S' : Nat → Prop} {w w' : World} (h : Only S w w') (hs : ∀ k, S k → S' k) : Only S' w w' := ⟨h.os, h.tape, h.output, h.size, fun k hk hn => h.block k hk (fun e => hn (hs k e))⟩
theorem tx_zero : TX 0 := fun S c A m d w hok hd => by unfold dpt at hd; omega
set_option maxHeartbeats 4000000 in
set_option maxRecDepth 100000 in
theorem tx_of (f : Nat) (ih : OP f) (ih2 : TX f) : TX (f + 1) := by
  intro S c A m d w hok hd hcnt h hg
  have HI := Lib.hid ih
  have HI2 := Lib.hid ih2
  have HR := Lib.hid h.new
  have HG := Lib.hid hg
  have HOK := Lib.hid (core_ok hok).1
  have HD := Lib.hid (show 2 * dpt (core c) ≤ f + 2 by have := core_dep c; omega)
  have HC := Lib.hid (show (core c).ps.cnt ≤ 10000 by have := core_cnt c; omega)
  have HE := Lib.hid (ftext_def f c)
  clear ih ih2 h hg hok hd
  unfold cV
  dsimp only [vi]
  go_enter Tryz.func41, Tryz.ntmps41
  go_wp2_with (fail)
  first | (refine calls_named ?_; intro W hW) | (refine body_named ?_; intro W hW) | (refine wpList_named ?_; intro W hW) | (refine wp_named ?_; intro W hW)
  have hb1 : Below w.heap.size w W := by rw [← hW]; exact (Below.refl _ _).alloc (Nat.le_refl _) _
  have hx1 : Blk W w.heap.size 75 #[.int .i64 c.k, .int .i64 c.v, .int .i64 c.n, .slice A m d] := by rw [← hW]; exact Blk.new w _ _
  clear hW
  have HB1 := Lib.hid hb1
  have HX1 := Lib.hid hx1
  clear hb1 hx1
  refine (core_any (c := c) (HR.out.below HB1.out)).mono ?_
  rintro e w1 ⟨⟨A1, m1, d1, rfl, hr1⟩, hb1⟩
  have HB2 := Lib.hid (HB1.out.trans (hb1.mono HB1.out.size))
  have HR1 := Lib.hid (hr1.below hb1)
  have HX2 := Lib.hid (HX1.out.below hb1 HX1.out.lt)
  clear hr1 hb1 HB1 HX1
  generalize core c = x at *
  obtain ⟨k, v, n, ps⟩ := x
  unfold cV
  dsimp only [vi] at HE HOK HD HC HR1 ⊢
  obtain ⟨y0, y1, y2, y3, g0, g1, g2, g3⟩ := HX2.out.four
  have hlt := HX2.out.lt
  have hc := okC_cases HOK.out
  have hk : k = 1 ∨ k = 4 ∨ k = 2 ∨ k = 3 := by
    rcases hc with h | h | h
    · exact .inl h.1
    · exact .inr (.inl h.1)
    · exact .inr (.inr h.1)
  rcases hk with rfl | rfl | rfl | rfl
  · have HV := Lib.hid (show (1 ≤ v ∧ v ≤ 4) ∧ 0 ≤ n ∧ n ≤ 64 by
      rcases hc with h | h | h
      · exact ⟨⟨h.2.1, h.2.2.1⟩, h.2.2.2.1, h.2.2.2.2.1⟩
      · have e : (1 : Int) = 4 := h.1
        omega
      · have e : (1 : Int) = 2 ∨ (1 : Int) = 3 := h.1
        omega)
    clear hc
    have HE2 := Lib.hid (HE.out.trans (if_pos rfl))
    clear HE
    go_wp2_with (fail)
    first | (refine calls_named ?_; intro W3 hW3) | (refine body_named ?_; intro W3 hW3) | (refine wpList_named ?_; intro W3 hW3) | (refine wp_named ?_; intro W3 hW3)
    have hO3 : Only (fun k => k = w.heap.size ∨ w1.heap.size ≤ k) w1 W3 := by
      rw [← hW3]
      exact ((HX2.out.set4 (y0 := .int .i64 1) (y1 := .int .i64 v) (y2 := .int .i64 n) (y3 := .slice A1 m1 d1)).2.new (S' := fun _ => False) (Only.of_below ((Below.refl _ _).alloc (Nat.le_refl _) _)) (fun _ h => False.elim h)).imp (fun k hk => .inl hk)
    have HB3 := Lib.hid (show Below w.heap.size w W3 from hO3.below HB2.out HB2.out.size (fun k hk => by have := HB2.out.size; rcases hk with e | e <;> omega))
    have HR3 := Lib.hid (HR1.out.only hO3 (fun k hk => .inr (by have := HB2.out.size; rcases hk with e | e <;> omega)))
    clear hW3 hO3 y0 y1 y2 y3 g0 g1 g2 g3 HX2
    refine (atleast_any ⟨1, v, n, ps⟩ A1 m1 d1 W3 HV.out.1 HV.out.2 (HG.out.below HB3.out)).mono ?_
    rintro e w5 ⟨he, hb5⟩
    obtain rfl : e = .returned (.string (bs (ftext (f + 1) c))) := he.trans (by rw [HE2.out]; try rfl)
    clear he
    have HB5 := Lib.hid (HB3.out.trans (hb5.mono HB3.out.size))
    clear hb5
    go_wp2_with (fail)
    go_ret
    exact ⟨rfl, HB5.out⟩
  · clear hc
    have HE2 := Lib.hid (HE.out.trans ((if_neg (by decide)).trans (if_pos rfl)))
    clear HE
    go_wp2_with (fail)
    first | (refine calls_named ?_; intro W3 hW3) | (refine body_named ?_; intro W3 hW3) | (refine wpList_named ?_; intro W3 hW3) | (refine wp_named ?_; intro W3 hW3)
    have hO3 : Only (fun k => k = w.heap.size ∨ w1.heap.size ≤ k) w1 W3 := by
      rw [← hW3]
      exact ((HX2.out.set4 (y0 := .int .i64 4) (y1 := .int .i64 v) (y2 := .int .i64 n) (y3 := .slice A1 m1 d1)).2.new (S' := fun _ => False) (Only.of_below ((Below.refl _ _).alloc (Nat.le_refl _) _)) (fun _ h => False.elim h)).imp (fun k hk => .inl hk)
    have HB3 := Lib.hid (show Below w.heap.size w W3 from hO3.below HB2.out HB2.out.size (fun k hk => by have := HB2.out.size; rcases hk with e | e <;> omega))
    have HR3 := Lib.hid (HR1.out.only hO3 (fun k hk => .inr (by have := HB2.out.size; rcases hk with e | e <;> omega)))
    clear hW3 hO3 y0 y1 y2 y3 g0 g1 g2 g3 HX2
    refine (not_of f HI.out _ ⟨4, v, n, ps⟩ A1 m1 d1 W3 HOK.out rfl HD.out HC.out HR3.out (HG.out.below HB3.out)).mono ?_
    rintro e w5 ⟨he, hb5⟩
    obtain rfl : e = .returned (.string (bs (ftext (f + 1) c))) := he.trans (by rw [HE2.out]; try rfl)
    clear he
    have HB5 := Lib.hid (HB3.out.trans (hb5.mono HB3.out.size))
    clear hb5
    go_wp2_with (fail)
    go_ret
    exact ⟨rfl, HB5.out⟩
  · clear hc
    have HE2 := Lib.hid (HE.out.trans ((if_neg (by decide)).trans ((if_neg (by decide)).trans (if_pos rfl))))
    clear HE
    go_wp2_with (fail)
    first | (refine calls_named ?_; intro W3 hW3) | (refine body_named ?_; intro W3 hW3) | (refine wpList_named ?_; intro W3 hW3) | (refine wp_named ?_; intro W3 hW3)
    have hO3 : Only (fun k => k = w.heap.size ∨ w1.heap.size ≤ k) w1 W3 := by
      rw [← hW3]
      exact ((HX2.out.set4 (y0 := .int .i64 2) (y1 := .int .i64 v) (y2 := .int .i64 n) (y3 := .slice A1 m1 d1)).2.new (S' := fun _ => False) (Only.of_below ((Below.refl _ _).alloc (Nat.le_refl _) _)) (fun _ h => False.elim h)).imp (fun k hk => .inl hk)
    have HB3 := Lib.hid (show Below w.heap.size w W3 from hO3.below HB2.out HB2.out.size (fun k hk => by have := HB2.out.size; rcases hk with e | e <;> omega))
    have HR3 := Lib.hid (HR1.out.only hO3 (fun k hk => .inr (by have := HB2.out.size; rcases hk with e | e <;> omega)))
    clear hW3 hO3 y0 y1 y2 y3 g0 g1 g2 g3 HX2
    refine (and_of f HI.out _ ⟨2, v, n, ps⟩ A1 m1 d1 W3 HOK.out rfl HD.out HC.out HR3.out (HG.out.below HB3.out)).mono ?_
    rintro e w5 ⟨he, hb5⟩
    obtain rfl : e = .returned (.string (bs (ftext (f + 1) c))) := he.trans (by rw [HE2.out]; try rfl)
    clear he
    have HB5 := Lib.hid (HB3.out.trans (hb5.mono HB3.out.size))
    clear hb5
    go_wp2_with (fail)
    go_ret
    exact ⟨rfl, HB5.out⟩
  · clear hc
    have HE2 := Lib.hid (HE.out.trans ((if_neg (by decide)).trans ((if_neg (by decide)).trans (if_neg (by decide)))))
    clear HE
    go_wp2_with (fail)
    first | (refine calls_named ?_; intro W3 hW3) | (refine body_named ?_; intro W3 hW3) | (refine wpList_named ?_; intro W3 hW3) | (refine wp_named ?_; intro W3 hW3)
    have hO3 : Only (fun k => k = w.heap.size ∨ w1.heap.size ≤ k) w1 W3 := by
      rw [← hW3]
      exact ((HX2.out.set4 (y0 := .int .i64 3) (y1 := .int .i64 v) (y2 := .int .i64 n) (y3 := .slice A1 m1 d1)).2.new (S' := fun _ => False) (Only.of_below ((Below.refl _ _).alloc (Nat.le_refl _) _)) (fun _ h => False.elim h)).imp (fun k hk => .inl hk)
    have HB3 := Lib.hid (show Below w.heap.size w W3 from hO3.below HB2.out HB2.out.size (fun k hk => by have := HB2.out.size; rcases hk with e | e <;> omega))
    have HR3 := Lib.hid (HR1.out.only hO3 (fun k hk => .inr (by have := HB2.out.size; rcases hk with e | e <;> omega)))
    clear hW3 hO3 y0 y1 y2 y3 g0 g1 g2 g3 HX2
    refine (or_of f HI.out HI2.out _ ⟨3, v, n, ps⟩ A1 m1 d1 W3 HOK.out rfl HD.out HC.out HR3.out (HG.out.below HB3.out)).mono ?_
    rintro e w5 ⟨he, hb5⟩
    obtain rfl : e = .returned (.string (bs (ftext (f + 1) c))) := he.trans (by rw [HE2.out]; try rfl)
    clear he
    have HB5 := Lib.hid (HB3.out.trans (hb5.mono HB3.out.size))
    clear hb5
    go_wp2_with (fail)
    go_ret
    exact ⟨rfl, HB5.out⟩
-- AFTER
theorem tx_all : ∀ f, TX f ∧ OP f
  | 0 => ⟨tx_zero, fun S c A m d w hok hd => by unfold dpt at hd; omega⟩
  | f + 1 => ⟨tx_of f (tx_all f).2 (tx_all f).1, op_of f (tx_all f).1⟩
set_option maxHeartbeats 4000000 in
set_option maxRecDepth 100000 in
/-- format.Cond. -/
theorem fcond_any (S : Nat → Prop) (c : CT) (A : Option Addr) (m d : Nat) (w : World) (h : RepH S w c.ps A m d) (hz : c.ps.cnt ≤ 10000) (hg : FG w) : Calls Tryz.prog 13 #[cV c A m d] w fun e w' => e = .returned (.tuple #[.string (bs (fcond c).1), .int .i64 (fcond c).2]) ∧ Below w.heap.size w w' := by
  have HR := Lib.hid h
  have HG := Lib.hid hg
  clear h hg
  have HE := Lib.hid (show fcond c = if tcond c ≠ 0 then ([], tcond c) else (ftext 100 c, 0) from rfl)
  unfold cV
  dsimp only [vi]
  go_enter Tryz.func13, Tryz.ntmps13
  go_wp2_with (fail)
  first | (refine calls_named ?_; intro W hW) | (refine body_named ?_; intro W hW) | (refine wpList_named ?_; intro W hW) | (refine wp_named ?_; intro W hW)
  have hb1 : Below w.heap.size w W := by rw [← hW]; exact (Below.refl _ _).alloc (Nat.le_refl _) _
  have hx1 : Blk W w.heap.size 24 #[.int .i64 c.k, .int .i64 c.v, .int .i64 c.n, .slice A m d] := by rw [← hW]; exact Blk.new w _ _
  clear hW
  have HB1 := Lib.hid hb1
  have HX1 := Lib.hid hx1
  clear hb1 hx1
  refine (tcond_any S c A m d W (HR.out.below HB1.out) (by omega)).mono ?_
  rintro e w1 ⟨rfl, hb1⟩
  have HB2 := Lib.hid (HB1.out.trans (hb1.mono HB1.out.size))
  have HX2 := Lib.hid (HX1.out.below hb1 HX1.out.lt)
  clear hb1 HB1 HX1
  by_cases ht : tcond c = 0
  · have HT := Lib.hid ht
    have HE2 := Lib.hid (HE.out.trans (if_neg (Classical.not_not.2 ht)))
    rw [ht]
    clear ht HE
    obtain ⟨y0, y1, y2, y3, g0, g1, g2, g3⟩ := HX2.out.four
    go_wp2_with (fail)
    refine ((tx_all 100).1 S c A m d w1 (tcond_zero HT.out).2.2 (by have := (tcond_zero HT.out).2.1; have e : (CF.one c .nil).dep = c.ps.dep + 1 := by simp [CF.one, CF.dep]
                                                                    unfold dpt; omega) hz (HR.out.below HB2.out) (HG.out.below HB2.out)).mono ?_
    rintro e w5 ⟨rfl, hb5⟩
    have HB5 := Lib.hid (HB2.out.trans (hb5.mono HB2.out.size))
    clear hb5
    go_wp2_with (fail)
    go_ret2
    exact ⟨by rw [HE2.out]; rfl, HB5.out⟩
  · have htb : (tcond c != 0) = true := bne_iff_ne.2 ht
    have HE2 := Lib.hid (HE.out.trans (if_pos ht))
    clear ht HE
    generalize tcond c = tq at htb HE2 ⊢
    go_wp2_with (fail)
    go_ret2
    exact ⟨by rw [HE2.out]; rfl, HB2.out⟩
end Go.Proofs.YticpjdjdimpglaaGreatDoor
