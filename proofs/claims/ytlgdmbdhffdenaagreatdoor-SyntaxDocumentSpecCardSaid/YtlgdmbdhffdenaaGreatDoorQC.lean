/- The reference parser's zones by their contract. -/
import Derived.Test.YtlgdmbdhffdenaaGreatDoorQB
import Derived.Test.YtlgdmbdhffdenaaGreatDoorYRules
import Derived.Test.YtlgdmbdhffdenaaGreatDoorQA
import Derived.Test.YtlgdmbdhffdenaaGreatDoorQE
import Derived.Test.YtlgdmbdhffdenaaGreatDoorYWhole
namespace Go.Proofs.YtlgdmbdhffdenaaGreatDoor
set_option linter.unusedVariables false
set_option linter.unusedSimpArgs false
open Go.RowKit

/-- The row of zones that is being made: the zones l, where nothing stopped the parser. -/
structure QZS (w0 wr : World) (B g : Nat) (A : Option Addr) (n c : Nat) (T : List Tok) (q : Res Unit) (l : List ZT) (m : Nat) (A' : Option Addr) (c' : Nat) : Prop where
  st : QSt wr B g A n c T q
  only : Only (· = g) w0 wr
  glt : g < w0.heap.size
  row : ∃ xs, wr.ownsRow w0.heap.size 55 3 (.slice A' m c') m xs ∧ (∀ b, q = .ok () b → l.length = m ∧ xs = l.flatMap zoneCells)
section
variable {w0 wr w3 W w1 : World} {B g n c c' m : Nat} {A A' : Option Addr} {T : List Tok} {l : List ZT} {q q' : Res Unit}
theorem QZS.go (h : QZS w0 wr B g A n c T q l m A' c') (hp : QSt W B g A n c T q') (ho : Only (· = g) wr W) (hq : ∀ b, q' = .ok () b → ∃ a, q = .ok () a) : QZS w0 W B g A n c T q' l m A' c' := by
  obtain ⟨xs, h1, h2⟩ := h.row
  refine ⟨hp, h.only.trans ho, h.glt, xs, own_only h1 ho (fun k hk => by have := (h1.lt k hk).1; have := h.glt; omega), fun b e => ?_⟩
  obtain ⟨a, e2⟩ := hq b e
  exact h2 a e2
theorem QZS.below (h : QZS w0 wr B g A n c T q l m A' c') (hb : Below wr.heap.size wr W) : QZS w0 W B g A n c T q l m A' c' := h.go (h.st.below hb) (Only.of_below hb) (fun b e => ⟨b, e⟩)
/-- A zone's box, made behind the row, was written in between. -/
theorem QZS.far (h : QZS w0 w3 B g A n c T q l m A' c') {zb : Nat} (hz : w3.heap.size ≤ zb) (ho : Only (fun k => k = g ∨ k = zb) w3 W) (hp : QSt W B g A n c T q') (hq : ∀ b, q' = .ok () b → ∃ a, q = .ok () a) : QZS w0 W B g A n c T q' l m A' c' := by
  obtain ⟨xs, h1, h2⟩ := h.row
  have hgl := h.glt
  have hsz := h.only.size
  refine ⟨hp, ⟨ho.os.trans h.only.os, ho.tape.trans h.only.tape, ho.output.trans h.only.output, Nat.le_trans hsz ho.size, fun i hi hn => ?_⟩, hgl, xs, own_only h1 ho (fun k hk hS => ?_), fun b e => ?_⟩
  · exact (ho.block i (Nat.lt_of_lt_of_le hi hsz) (fun hS => by rcases hS with e | e; exact hn e; omega)).trans (h.only.block i hi hn)
  · have := h1.lt k hk
    rcases hS with e | e <;> omega
  · obtain ⟨a, e2⟩ := hq b e
    exact h2 a e2
theorem QZS.push (h : QZS w0 W B g A n c T q l m A' c') {xs : List Value} {v0 v1 v2 : Value} {z : ZT} {A2 : Option Addr} {cc : Nat}
    (hn : ∀ b, q = .ok () b → l.length = m ∧ xs = l.flatMap zoneCells ∧ [v0, v1, v2] = zoneCells z)
    (hl : ∀ k, (Value.slice A' m c').ownBlock = some k → w0.heap.size ≤ k)
    (hg : W.grownBy w1 (Value.slice A' m c').ownBlock) (hown : w1.ownsRow w0.heap.size 55 3 (.slice A2 (m + 1) cc) (m + 1) (xs ++ [v0, v1, v2])) : QZS w0 w1 B g A n c T q (l ++ [z]) (m + 1) A2 cc := by
  have ho : Only (fun k => (Value.slice A' m c').ownBlock = some k) W w1 := Only.of_grown hg (fun k hk => hk)
  have hgl := h.glt
  refine ⟨h.st.only ho (fun e => by have := hl _ e; omega) (fun k hk => by have := hl k hk; have := h.st.lb; omega), h.only.new ho (fun k hk => hl k hk), hgl, _, hown, fun b e => ?_⟩
  obtain ⟨e1, h2, h3⟩ := hn b e
  refine ⟨by simp [e1], ?_⟩
  rw [h2, h3]
  simp
theorem QZS.zv (h : QZS w0 wr B g A n c T q l m A' c') {b : Nat} (e : q = .ok () b) : ZV w0 l wr (.slice A' m c') := by
  obtain ⟨xs, h1, h2⟩ := h.row
  obtain ⟨_, e2⟩ := h2 b e
  subst e2
  exact ⟨_, _, _, rfl, own_rd h1, fun _ p hp hS => by subst hp; have := (h1.lt p.block rfl).1; omega⟩
end
set_option maxHeartbeats 8000000 in
set_option maxRecDepth 100000 in
theorem zzones_any (B g : Nat) (A : Option Addr) (n c : Nat) (T : List Tok) (s : Res Unit) (w : World) (h : QSt w B g A n c T s) (hT : TOk T) (ha : posA s ≤ 65537) :
    Calls Tryz.prog 65 #[.pointer (some ⟨g, 0, none⟩)] w (QPost w B g A n c T (s.bind fun _ a => shut (pzones T T.length a)) (ZV w) JS) := by
  have H := Lib.hid h
  have HT := Lib.hid hT
  have hTl := hT.len
  have hgw := h.lt
  obtain ⟨R, eR⟩ : ∃ R, R = s.bind fun _ a => shut (pzones T T.length a) := ⟨_, rfl⟩
  have ER := Lib.hid eR
  rw [← eR]
  clear h hT eR
  go_enter Tryz.func65, Tryz.ntmps65
  go_wp2_with (fail)
  first | (refine calls_named ?_; intro W0 hW0) | (refine body_named ?_; intro W0 hW0) | (refine wpList_named ?_; intro W0 hW0) | (refine wp_named ?_; intro W0 hW0)
  have hJ0 : QZS w W0 B g A n c T s [] 0 (some ⟨w.heap.size, 0, none⟩) 0 := by
    rw [← hW0]
    have hb : Below w.heap.size w (w.alloc (.cells #[] 55)) := (Below.refl _ _).alloc (Nat.le_refl _) _
    exact ⟨H.out.below hb, Only.of_below hb, hgw, [], own_of_blk (m := 0) (xs := []) (Blk.new w _ _) rfl (Nat.le_refl _) (by decide), fun b e => ⟨rfl, rfl⟩⟩
  have HJ0 := Lib.hid hJ0
  clear hW0 hJ0
  go_loopg [3] (T.length + 1) (fun gk sv wr => ∃ (q : Res Unit) (l : List ZT) (m : Nat) (A' : Option Addr) (c' fu : Nat), Hid (∀ b, q = .ok () b → 1 ≤ gk ∧ T.length + 1 ≤ gk + b ∧ T.length ≤ fu + b ∧ m ≤ b) ∧ posA s ≤ posA q ∧ posA q ≤ 65537 ∧ m ≤ 65540 ∧ sv = .slice A' m c' ∧ Hid (QZS w wr B g A n c T q l m A' c') ∧
    Hid (R = q.bind fun _ b => (shut (pzones T fu b)).map (l ++ ·)))
  case atStart =>
    refine ⟨s, [], 0, _, 0, T.length, fun b e => ⟨by omega, by omega, by omega, by omega⟩, Nat.le_refl _, ha, by omega, rfl, HJ0.out, ?_⟩
    rw [ER.out]
    cases s with
    | bad n => rfl
    | ok u a =>
      show shut (pzones T T.length a) = (shut (pzones T T.length a)).map ([] ++ ·)
      cases shut (pzones T T.length a) <;> rfl
  case round =>
    obtain ⟨q, l, m, A', c', fu, HG, hsq, hq65, hm, rfl, HZ, HR⟩ := hrel
    clear HJ0 ER
    cases q with
    | bad p =>
      have HR2 := Lib.hid (show R = .bad p from HR.out)
      have c2 : wr.cell? ⟨g, 2, none⟩ = some (.bool true) := HZ.out.st.bad
      have hgl := HZ.out.st.lt
      clear HR HG
      go_wp2_with (fail)
      go_ret
      refine ⟨HZ.out.only, ?_, _, rfl, ⟨_, _, _, rfl⟩, fun x j e => ?_⟩
      · rw [HR2.out]; exact HZ.out.st
      · rw [HR2.out] at e; cases e
    | ok u b =>
      obtain ⟨hg1, hg2, hg3, hg4⟩ := HG.out b rfl
      have hb65 : b ≤ 65537 := hq65
      have hsb : posA s ≤ b := hsq
      have c2 : wr.cell? ⟨g, 2, none⟩ = some (.bool false) := HZ.out.st.bad
      have hgl := HZ.out.st.lt
      have HR' : R = (shut (pzones T fu b)).map (l ++ ·) := HR.out
      have HC := zis_any B g A n c T (.ok u b) kRB wr HZ.out.st (by show b ≤ 70000; omega)
      clear HG hsq hq65 HR
      cases hB : isB T b kRB with
      | true =>
        rw [show qis T (.ok u b) kRB = true from hB] at HC
        have HC := Lib.hid HC
        have HR2 := Lib.hid (show R = .ok l b by
          rw [HR', pzones_step hg3, if_pos hB]
          show Res.ok (l ++ []) (b + 1 - 1) = _
          rw [List.append_nil]
          rfl)
        clear hB HR'
        go_wp2_with (fail)
        refine HC.out.mono ?_
        rintro e w1 ⟨rfl, hb1⟩
        have HZ1 := Lib.hid (HZ.out.below hb1)
        clear hb1 c2
        go_wp2_with (fail)
        go_ret
        refine ⟨HZ1.out.only, ?_, _, rfl, ⟨_, _, _, rfl⟩, fun x j e => ?_⟩
        · rw [HR2.out]; exact HZ1.out.st
        · rw [HR2.out] at e
          cases e
          exact HZ1.out.zv rfl
      | false =>
        rw [show qis T (.ok u b) kRB = false from hB] at HC
        have HC := Lib.hid HC
        obtain ⟨r1, e1⟩ : ∃ r1, r1 = pname T b := ⟨_, rfl⟩
        obtain ⟨r2, e2⟩ : ∃ r2, r2 = r1.st.bind fun _ n => pint T n := ⟨_, rfl⟩
        have HNO := Lib.hid (fun (r3 : Res Unit) hq e3 => HR'.trans (zone_one (l := l) (r3 := r3) hg3 hB e1 e2 hq e3))
        have HTO := Lib.hid (fun (a : Nat) (r4 : Res Int) (r5 : Res Unit) ea hq e4 e5 => HR'.trans (zone_two (l := l) (a := a) (r4 := r4) (r5 := r5) hg3 hB e1 e2 ea hq e4 e5))
        have i1 := (pname_in T b).pos
        have i1' : ∀ b', r1.st = .ok () b' → b < b' := fun b' e => by
          have := pname_in T b
          rw [← e1] at this
          obtain ⟨x, rfl⟩ := st_ok e
          exact this.1
        rw [← e1] at i1
        have i2 := bind_in (L := T.length) (s := r1.st) (p := fun a => pint T a) (fun a => pint_in T a)
        rw [← e2] at i2
        have o2 : ∀ b', r2.st = .ok () b' → ∃ a, r1.st = .ok () a := fun b' e => by
          cases h : r1.st with
          | ok u a => exact ⟨a, rfl⟩
          | bad p => rw [e2, h] at e; cases e
        have E1 := Lib.hid e1
        have E2 := Lib.hid e2
        have O2 := Lib.hid o2
        clear hB HR' e1 e2 o2
        go_wp2_with (fail)
        refine HC.out.mono ?_
        rintro e w1 ⟨rfl, hb1⟩
        have HZ1 := Lib.hid (HZ.out.below hb1)
        clear hb1 c2
        go_wp2_with (fail)
        have C2 := zname_any B g A n c T (.ok u b) w1 HZ1.out.st (by show b ≤ 65600; omega)
        rw [show ((Res.ok u b : Res Unit).bind fun _ a => pname T a) = r1 from E1.out.symm] at C2
        refine C2.mono ?_
        clear C2
        rintro e w2 ⟨ho2, hq2, _, rfl, ⟨sn, rfl⟩, hv2⟩
        have HZ2 := Lib.hid (HZ1.out.go hq2 ho2 (fun _ _ => ⟨b, rfl⟩))
        have HV2 := Lib.hid hv2
        clear ho2 hq2 hv2
        go_wp2_with (fail)
        have C3 := zinteger_any B g A n c T r1.st w2 HZ2.out.st HT.out (by omega)
        rw [← E2.out] at C3
        refine C3.mono ?_
        clear C3
        rintro e w3 ⟨ho3, hq3, _, rfl, ⟨x, rfl, _, _⟩, hv3⟩
        have HZ3 := Lib.hid (HZ2.out.go hq3 ho3 O2.out)
        have HV3 := Lib.hid hv3
        clear ho3 hq3 hv3
        go_wp2_with (fail)
        first | (refine calls_named ?_; intro W4 hW4) | (refine body_named ?_; intro W4 hW4) | (refine wpList_named ?_; intro W4 hW4) | (refine wp_named ?_; intro W4 hW4)
        have hbx4 : Blk W4 w3.heap.size 55 #[.string (bs sn), .int .i64 x, .int .i64 x] := by rw [← hW4]; exact Blk.new w3 _ _
        have hb4 : Below w3.heap.size w3 W4 := by rw [← hW4]; exact (Below.refl _ _).alloc (Nat.le_refl _) _
        have Q4 := Lib.hid (HZ3.out.st.below hb4)
        have hg3 : g < w3.heap.size := HZ3.out.st.lt
        have hw3 : w.heap.size ≤ w3.heap.size := HZ3.out.only.size
        have OZ4 := Lib.hid (Only.of_below (S := fun k => k = g ∨ k = w3.heap.size) hb4)
        clear hW4 hb4
        generalize hzb : w3.heap.size = zb at *
        have HZB := Lib.hid (Nat.le_of_eq hzb)
        have wk : ∀ (u v : World), Only (· = g) u v → Only (fun k => k = g ∨ k = zb) u v := fun _ _ ho => ⟨ho.os, ho.tape, ho.output, ho.size, fun k hk hn => ho.block k hk (fun e => hn (.inl e))⟩
        have WK := Lib.hid wk
        clear hzb wk
        have HC5 := zis_any B g A n c T r2.st kTo W4 Q4.out (by omega)
        cases hB : qis T r2.st kTo with
        | false =>
          rw [hB] at HC5
          obtain ⟨r3, e3⟩ : ∃ r3, r3 = r2.st.bind fun _ n => pwant T [kSemi] n := ⟨_, rfl⟩
          have HR2 := Lib.hid (HNO.out r3 hB e3)
          have i3 := bind_in0 (L := T.length) (s := r2.st) (p := fun a => pwant T [kSemi] a) (fun a => pwant_in0 T _ a)
          rw [← e3, st_unit] at i3
          have o3 : ∀ b', r3 = .ok () b' → ∃ a, r2.st = .ok () a := fun b' e => by
            cases h : r2.st with
            | ok u a => exact ⟨a, rfl⟩
            | bad p => rw [e3, h] at e; cases e
          have E3 := Lib.hid e3
          have O3 := Lib.hid o3
          clear hB HNO HTO e3 o3
          refine HC5.mono ?_
          clear HC5
          rintro e w5 ⟨rfl, hb5⟩
          have Q5 := Lib.hid (Q4.out.below hb5)
          have hbx5 := hbx4.below hb5 hbx4.lt
          have OZ5 := Lib.hid (OZ4.out.trans (Only.of_below hb5))
          have hg5 : g < w5.heap.size := Q5.out.lt
          have hz5 : zb < w5.heap.size := hbx5.lt
          clear hb5 hbx4
          go_wp2_with (fail)
          first | (refine calls_named ?_; intro W6 hW6) | (refine body_named ?_; intro W6 hW6) | (refine wpList_named ?_; intro W6 hW6) | (refine wp_named ?_; intro W6 hW6)
          have hb6 : Below w5.heap.size w5 W6 := by rw [← hW6]; exact (Below.refl _ _).alloc (Nat.le_refl _) _
          have hk6 : Blk W6 w5.heap.size 9 #[.string (bs kSemi)] := by rw [← hW6]; exact Blk.new _ _ _
          have Q6 := Lib.hid (Q5.out.below hb6)
          have hbx6 := hbx5.below hb6 hbx5.lt
          have OZ6 := Lib.hid (OZ5.out.trans (Only.of_below hb6))
          clear hW6 hb6 hbx5
          generalize w5.heap.size = s5 at *
          have C7 := zwant_any B g A n c T r2.st (some ⟨s5, 0, none⟩) 1 1 W6.heap.size [kSemi] W6 Q6.out (by omega) (rd_texts (ws := [kSemi]) hk6 (by decide)) (Nat.le_refl _) (fun p hp => by injection hp with hp; rw [← hp]; show s5 ≠ g; omega) (by omega)
          rw [← E3.out] at C7
          refine C7.mono ?_
          clear C7
          rintro e w7 ⟨ho7, hq7, _, rfl, rfl, _⟩
          rw [st_unit] at hq7
          have hbx7 := hbx6.only ho7 (by omega)
          have HZ7 := Lib.hid (HZ3.out.far HZB.out (OZ6.out.trans (WK.out _ _ ho7)) hq7 (fun b' e => O3.out b' e))
          have z0 : w7.cell? ⟨zb, 0, none⟩ = some (.string (bs sn)) := by rw [hbx7.cell]; rfl
          have z1 : w7.cell? ⟨zb, 1, none⟩ = some (.int .i64 x) := by rw [hbx7.cell]; rfl
          have z2 : w7.cell? ⟨zb, 2, none⟩ = some (.int .i64 x) := by rw [hbx7.cell]; rfl
          clear ho7 hq7 hk6 hbx6 hbx7
          go_wp2_with (at_builtin; refine Hid.out ?_)
          refine Lib.hid ?_
          clear z0 z1 z2
          have hbb : Below w7.heap.size w7 (w7.alloc (.cells #[.string (bs sn), .int .i64 x, .int .i64 x] 55)) := (Below.refl _ _).alloc (Nat.le_refl _) _
          obtain ⟨xs, hrow, hrep⟩ := HZ7.out.row
          refine wpList_push_apart elemZone rfl (.tmp 39) (.tmp 41) rfl w.heap.size A' m c' xs rfl (own_below_all hrow hbb) w7.heap.size rfl [.string (bs sn), .int .i64 x, .int .i64 x] rfl (new_cells _ _ _) (by intro u hu; simp at hu; rcases hu with rfl | rfl | rfl <;> rfl) (by omega) (by omega) (by have := HZ7.out.only.size; simp only [World.size_alloc]; omega) ?_
          intro AX cX wX hownX hbX hgX hapX
          have HX := Lib.hid (QZS.push (HZ7.out.below hbb) (xs := xs) (v0 := .string (bs sn)) (v1 := .int .i64 x) (v2 := .int .i64 x) (z := ⟨r1.val [], r2.val 0, r2.val 0⟩) (fun b' e => by
            refine ⟨(hrep b' e).1, (hrep b' e).2, ?_⟩
            obtain ⟨p2, e2⟩ := O3.out b' e
            obtain ⟨p1, e1⟩ := O2.out _ e2
            obtain ⟨y, e1⟩ := st_ok e1
            obtain ⟨i, e2⟩ := st_ok e2
            have t1 := HV2.out y p1 e1
            have t2 := HV3.out i p2 e2
            rw [e1, e2, t1, t2]
            rfl) (fun k hk => (hrow.lt k hk).1) hgX hownX)
          clear hrow hrep hbb hownX hbX hgX hapX
          go_wp2_with (fail)
          go_roundg (gk - 1)
          case measure => omega
          case rel =>
            refine ⟨r3, _, m + 1, AX, cX, fu - 1, fun b' e => ?_, by omega, by omega, by omega, rfl, HX.out, HR2.out⟩
            obtain ⟨p2, e2⟩ := O3.out b' e
            obtain ⟨p1, e1⟩ := O2.out _ e2
            have j1 := i1' p1 e1
            rw [e1] at i1 i2
            rw [e2] at i2 i3
            rw [e] at i3
            have k1 : p1 ≤ T.length ∨ p1 = b := i1.2
            have k2 : p1 ≤ p2 := i2.1
            have k3 : p2 ≤ T.length ∨ p2 = p1 := i2.2
            have k4 : p2 ≤ b' := i3.1
            have k5 : b' ≤ T.length ∨ b' = p2 := i3.2
            omega
        | true =>
          rw [hB] at HC5
          obtain ⟨a2, ea, hi⟩ : ∃ a, r2.st = .ok () a ∧ isB T a kTo = true := by
            cases h : r2.st with
            | ok u a => rw [h] at hB; exact ⟨a, rfl, hB⟩
            | bad _ => rw [h] at hB; cases hB
          have hlt := isB_lt T hi
          obtain ⟨r4, e4⟩ : ∃ r4, r4 = pint T (a2 + 1) := ⟨_, rfl⟩
          obtain ⟨r5, e5⟩ : ∃ r5, r5 = r4.st.bind fun _ n => pwant T [kSemi] n := ⟨_, rfl⟩
          have HR2 := Lib.hid (HTO.out a2 r4 r5 ea hi e4 e5)
          have i4 := (pint_in T (a2 + 1)).pos
          rw [← e4] at i4
          have i5 := bind_in0 (L := T.length) (s := r4.st) (p := fun a => pwant T [kSemi] a) (fun a => pwant_in0 T _ a)
          rw [← e5, st_unit] at i5
          have o5 : ∀ b', r5 = .ok () b' → ∃ a, r4.st = .ok () a := fun b' e => by
            cases h : r4.st with
            | ok u a => exact ⟨a, rfl⟩
            | bad p => rw [e5, h] at e; cases e
          have EA := Lib.hid ea
          have E4 := Lib.hid e4
          have E5 := Lib.hid e5
          have O5 := Lib.hid o5
          have j2 : b < a2 ∧ a2 ≤ 65537 := by
            obtain ⟨p1, e1⟩ := O2.out _ ea
            have j1 := i1' p1 e1
            rw [e1] at i2
            rw [ea] at i2
            have k2 : p1 ≤ a2 := i2.1
            omega
          clear hB hi HNO HTO e4 e5 o5
          refine HC5.mono ?_
          clear HC5
          rintro e w5 ⟨rfl, hb5⟩
          have q5 := Q4.out.below hb5
          rw [ea] at q5
          have y1 : w5.cell? ⟨g, 1, none⟩ = some (.int .i64 (a2 : Int)) := q5.at_
          have fz := q5.free 1
          have hgl5 := q5.lt
          have ho5 : Only (· = g) w5 (w5.setCell ⟨g, 1, none⟩ (.int .i64 (posA (.ok () (a2 + 1)) : Int))) := Only.set (S := (· = g)) w5 (p := ⟨g, 1, none⟩) rfl _
          have Q5 := Lib.hid (QSt.move q5 (s' := .ok () (a2 + 1)) rfl)
          have hbx5 := (hbx4.below hb5 hbx4.lt).only ho5 (by omega)
          have OZ5 := Lib.hid ((OZ4.out.trans (Only.of_below hb5)).trans (WK.out _ _ ho5))
          have hs5 : zb < w5.heap.size := (hbx4.below hb5 hbx4.lt).lt
          clear hb5 q5 ho5 hbx4 ea
          go_wp2_with (fail)
          have C6 := zinteger_any B g A n c T (.ok () (a2 + 1)) _ Q5.out HT.out (by show a2 + 1 ≤ 65600; omega)
          rw [show ((Res.ok () (a2 + 1) : Res Unit).bind fun _ a => pint T a) = r4 from E4.out.symm] at C6
          refine C6.mono ?_
          clear C6
          rintro e w6 ⟨ho6, hq6, _, rfl, ⟨y, rfl, _, _⟩, hv6⟩
          have Q6 := Lib.hid hq6
          have HV6 := Lib.hid hv6
          have hbx6 := hbx5.only ho6 (by omega)
          have OZ6 := Lib.hid (OZ5.out.trans (WK.out _ _ ho6))
          have cz2 : w6.cell? ⟨zb, 2, none⟩ = some (.int .i64 x) := by rw [hbx6.cell]; rfl
          have f2 := hbx6.frozen 2
          have hl6 := hbx6.lt
          have hg6 : g < w6.heap.size := hq6.lt
          clear ho6 hq6 hv6 hbx5 y1 fz
          go_wp2_with (fail)
          first | (refine calls_named ?_; intro W7 hW7) | (refine body_named ?_; intro W7 hW7) | (refine wpList_named ?_; intro W7 hW7) | (refine wp_named ?_; intro W7 hW7)
          have ho7 : Only (· = zb) w6 (w6.setCell ⟨zb, 2, none⟩ (.int .i64 y)) := Only.set (S := (· = zb)) w6 (p := ⟨zb, 2, none⟩) rfl _
          have hbx7' := hbx6.set 2 (.int .i64 y)
          have q7' := Q6.out.only ho7 (by omega) (fun k e => by rw [e]; have := Q6.out.lb; omega)
          have hs7 : (w6.setCell ⟨zb, 2, none⟩ (.int .i64 y)).heap.size = w6.heap.size := World.size_setCell _ _ _
          have wk7 : Only (fun k => k = g ∨ k = zb) w6 (w6.setCell ⟨zb, 2, none⟩ (.int .i64 y)) := ⟨ho7.os, ho7.tape, ho7.output, ho7.size, fun k hk hn => ho7.block k hk (fun e => hn (.inr e))⟩
          generalize w6.setCell ⟨zb, 2, none⟩ (.int .i64 y) = v7 at *
          have hb7 : Below v7.heap.size v7 W7 := by rw [← hW7]; exact (Below.refl _ _).alloc (Nat.le_refl _) _
          have hk7 : Blk W7 w6.heap.size 9 #[.string (bs kSemi)] := by rw [← hW7, ← hs7]; exact Blk.new _ _ _
          have hbx7 : Blk W7 zb 55 #[.string (bs sn), .int .i64 x, .int .i64 y] := Blk.below hbx7' hb7 (by omega)
          have Q7 := Lib.hid (q7'.below hb7)
          have OZ7 := Lib.hid (OZ6.out.trans (wk7.trans (Only.of_below hb7)))
          clear hW7 ho7 hbx7' q7' wk7 hb7 hbx6 cz2 f2 hl6 hs7
          generalize w6.heap.size = s6 at *
          have C8 := zwant_any B g A n c T r4.st (some ⟨s6, 0, none⟩) 1 1 W7.heap.size [kSemi] W7 Q7.out (by omega) (rd_texts (ws := [kSemi]) hk7 (by decide)) (Nat.le_refl _) (fun p hp => by injection hp with hp; rw [← hp]; show s6 ≠ g; omega) (by omega)
          rw [← E5.out] at C8
          refine C8.mono ?_
          clear C8
          rintro e w8 ⟨ho8, hq8, _, rfl, rfl, _⟩
          rw [st_unit] at hq8
          have hbx8 := hbx7.only ho8 (by omega)
          have HZ8 := Lib.hid (HZ3.out.far HZB.out (OZ7.out.trans (WK.out _ _ ho8)) hq8 (fun b' _ => ⟨_, EA.out⟩))
          have z0 : w8.cell? ⟨zb, 0, none⟩ = some (.string (bs sn)) := by rw [hbx8.cell]; rfl
          have z1 : w8.cell? ⟨zb, 1, none⟩ = some (.int .i64 x) := by rw [hbx8.cell]; rfl
          have z2 : w8.cell? ⟨zb, 2, none⟩ = some (.int .i64 y) := by rw [hbx8.cell]; rfl
          clear ho8 hq8 hk7 hbx7 hbx8
          go_wp2_with (at_builtin; refine Hid.out ?_)
          refine Lib.hid ?_
          clear z0 z1 z2
          have hbb : Below w8.heap.size w8 (w8.alloc (.cells #[.string (bs sn), .int .i64 x, .int .i64 y] 55)) := (Below.refl _ _).alloc (Nat.le_refl _) _
          obtain ⟨xs, hrow, hrep⟩ := HZ8.out.row
          refine wpList_push_apart elemZone rfl (.tmp 39) (.tmp 41) rfl w.heap.size A' m c' xs rfl (own_below_all hrow hbb) w8.heap.size rfl [.string (bs sn), .int .i64 x, .int .i64 y] rfl (new_cells _ _ _) (by intro u hu; simp at hu; rcases hu with rfl | rfl | rfl <;> rfl) (by omega) (by omega) (by have := HZ8.out.only.size; simp only [World.size_alloc]; omega) ?_
          intro AX cX wX hownX hbX hgX hapX
          have HX := Lib.hid (QZS.push (HZ8.out.below hbb) (xs := xs) (v0 := .string (bs sn)) (v1 := .int .i64 x) (v2 := .int .i64 y) (z := ⟨r1.val [], r2.val 0, r4.val 0⟩) (fun b' e => by
            refine ⟨(hrep b' e).1, (hrep b' e).2, ?_⟩
            obtain ⟨p4, e4⟩ := O5.out b' e
            obtain ⟨p1, e1⟩ := O2.out _ EA.out
            obtain ⟨s, e1⟩ := st_ok e1
            obtain ⟨i, e2⟩ := st_ok EA.out
            obtain ⟨j, e4⟩ := st_ok e4
            have t1 := HV2.out s p1 e1
            have t2 := HV3.out i _ e2
            have t4 := HV6.out j p4 e4
            rw [e1, e2, e4, t1, t2, t4]
            rfl) (fun k hk => (hrow.lt k hk).1) hgX hownX)
          clear hrow hrep hbb hownX hbX hgX hapX
          go_wp2_with (fail)
          go_roundg (gk - 1)
          case measure => omega
          case rel =>
            refine ⟨r5, _, m + 1, AX, cX, fu - 1, fun b' e => ?_, by omega, by omega, by omega, rfl, HX.out, HR2.out⟩
            rw [e] at i5
            have k4 : posA r4.st ≤ b' := i5.1
            have k5 : b' ≤ T.length ∨ b' = posA r4.st := i5.2
            omega
end Go.Proofs.YtlgdmbdhffdenaaGreatDoor

/- The reference parser's rules by their contract (printed by wip/bin/genyrefr.py). -/
namespace Go.Proofs.YtlgdmbdhffdenaaGreatDoor
set_option linter.unusedVariables false
set_option linter.unusedSimpArgs false
open Go.RowKit
/-- Rules: the state behind the thirteen calls, and what they are. -/
theorem rules_run {T : List Tok} {s : Res Unit} {r0 : Res Unit} {r1 : Res (List UInt8)} {r2 : Res Unit} {r3 : Res Int} {r4 : Res Unit} {r5 : Res Int} {r6 : Res Unit} {r7 : Res Int} {r8 : Res Unit} {r9 : Res SF} {r10 : Res Unit} {r11 : Res (List ZT)} {r12 : Res Unit} (e0 : r0 = s.bind fun _ n => pwant T [kRules] n) (e1 : r1 = r0.bind fun _ n => pname T n) (e2 : r2 = r1.st.bind fun _ n => pwant T [kLB, kWin] n) (e3 : r3 = r2.bind fun _ n => pint T n) (e4 : r4 = r3.st.bind fun _ n => pwant T [kDraw] n) (e5 : r5 = r4.bind fun _ n => pint T n) (e6 : r6 = r5.st.bind fun _ n => pwant T [kLoss] n) (e7 : r7 = r6.bind fun _ n => pint T n) (e8 : r8 = r7.st.bind fun _ n => pwant T [kSemi, kOrder, kLB] n) (e9 : r9 = r8.bind fun _ n => shut (psteps T T.length n)) (e10 : r10 = r9.st.bind fun _ n => pwant T [kRB, kZones, kLB] n) (e11 : r11 = r10.bind fun _ n => shut (pzones T T.length n)) (e12 : r12 = r11.st.bind fun _ n => pwant T [kRB, kRB] n) :
    (s.bind fun _ a => prules T a).st = r12 ∧ ∀ x m, (s.bind fun _ a => prules T a) = .ok x m → ∃ n1 n3 n5 n7 n9 n11, r1 = .ok x.name n1 ∧ r3 = .ok x.win n3 ∧ r5 = .ok x.draw n5 ∧ r7 = .ok x.loss n7 ∧ r9 = .ok x.order n9 ∧ r11 = .ok x.zones n11 ∧ r12 = .ok () m := by
  cases s with
  | bad n => subst e0; subst e1; subst e2; subst e3; subst e4; subst e5; subst e6; subst e7; subst e8; subst e9; subst e10; subst e11; subst e12; exact ⟨rfl, fun x m e => by cases e⟩
  | ok u a =>
    show (prules T a).st = _ ∧ ∀ x m, prules T a = _ → _
    unfold prules
    have f0 : r0 = pwant T [kRules] a := e0
    show ((pwant T [kRules] a).bind _).st = _ ∧ ∀ x m, ((pwant T [kRules] a).bind _) = _ → _
    rw [← f0]
    clear e0 f0
    cases r0 with
    | bad n => subst e1; subst e2; subst e3; subst e4; subst e5; subst e6; subst e7; subst e8; subst e9; subst e10; subst e11; subst e12; exact ⟨rfl, fun x m e => by cases e⟩
    | ok u n0 =>
      have f1 : r1 = pname T n0 := e1
      show ((pname T n0).bind _).st = _ ∧ ∀ x m, ((pname T n0).bind _) = _ → _
      rw [← f1]
      clear e1 f1
      cases r1 with
      | bad n => subst e2; subst e3; subst e4; subst e5; subst e6; subst e7; subst e8; subst e9; subst e10; subst e11; subst e12; exact ⟨rfl, fun x m e => by cases e⟩
      | ok sn n1 =>
        have f2 : r2 = pwant T [kLB, kWin] n1 := e2
        show ((pwant T [kLB, kWin] n1).bind _).st = _ ∧ ∀ x m, ((pwant T [kLB, kWin] n1).bind _) = _ → _
        rw [← f2]
        clear e2 f2
        cases r2 with
        | bad n => subst e3; subst e4; subst e5; subst e6; subst e7; subst e8; subst e9; subst e10; subst e11; subst e12; exact ⟨rfl, fun x m e => by cases e⟩
        | ok u n2 =>
          have f3 : r3 = pint T n2 := e3
          show ((pint T n2).bind _).st = _ ∧ ∀ x m, ((pint T n2).bind _) = _ → _
          rw [← f3]
          clear e3 f3
          cases r3 with
          | bad n => subst e4; subst e5; subst e6; subst e7; subst e8; subst e9; subst e10; subst e11; subst e12; exact ⟨rfl, fun x m e => by cases e⟩
          | ok i1 n3 =>
            have f4 : r4 = pwant T [kDraw] n3 := e4
            show ((pwant T [kDraw] n3).bind _).st = _ ∧ ∀ x m, ((pwant T [kDraw] n3).bind _) = _ → _
            rw [← f4]
            clear e4 f4
            cases r4 with
            | bad n => subst e5; subst e6; subst e7; subst e8; subst e9; subst e10; subst e11; subst e12; exact ⟨rfl, fun x m e => by cases e⟩
            | ok u n4 =>
              have f5 : r5 = pint T n4 := e5
              show ((pint T n4).bind _).st = _ ∧ ∀ x m, ((pint T n4).bind _) = _ → _
              rw [← f5]
              clear e5 f5
              cases r5 with
              | bad n => subst e6; subst e7; subst e8; subst e9; subst e10; subst e11; subst e12; exact ⟨rfl, fun x m e => by cases e⟩
              | ok i2 n5 =>
                have f6 : r6 = pwant T [kLoss] n5 := e6
                show ((pwant T [kLoss] n5).bind _).st = _ ∧ ∀ x m, ((pwant T [kLoss] n5).bind _) = _ → _
                rw [← f6]
                clear e6 f6
                cases r6 with
                | bad n => subst e7; subst e8; subst e9; subst e10; subst e11; subst e12; exact ⟨rfl, fun x m e => by cases e⟩
                | ok u n6 =>
                  have f7 : r7 = pint T n6 := e7
                  show ((pint T n6).bind _).st = _ ∧ ∀ x m, ((pint T n6).bind _) = _ → _
                  rw [← f7]
                  clear e7 f7
                  cases r7 with
                  | bad n => subst e8; subst e9; subst e10; subst e11; subst e12; exact ⟨rfl, fun x m e => by cases e⟩
                  | ok i3 n7 =>
                    have f8 : r8 = pwant T [kSemi, kOrder, kLB] n7 := e8
                    show ((pwant T [kSemi, kOrder, kLB] n7).bind _).st = _ ∧ ∀ x m, ((pwant T [kSemi, kOrder, kLB] n7).bind _) = _ → _
                    rw [← f8]
                    clear e8 f8
                    cases r8 with
                    | bad n => subst e9; subst e10; subst e11; subst e12; exact ⟨rfl, fun x m e => by cases e⟩
                    | ok u n8 =>
                      have f9 : r9 = shut (psteps T T.length n8) := e9
                      have f10 := shut_want (psteps_closed T T.length n8) [kZones, kLB]
                      rw [← f9, ← e10] at f10
                      clear e9 e10
                      show ((psteps T T.length n8).bind _).st = _ ∧ ∀ x m, ((psteps T T.length n8).bind _) = _ → _
                      cases hp9 : psteps T T.length n8 with
                      | bad n =>
                        rw [hp9] at f9 f10
                        subst f9; subst f10; subst e11; subst e12
                        exact ⟨rfl, fun x m e => by cases e⟩
                      | ok fo n9 =>
                        rw [hp9] at f9 f10
                        have e10 : r10 = pwant T [kZones, kLB] n9 := f10
                        clear f10
                        subst f9
                        have f10 : r10 = pwant T [kZones, kLB] n9 := e10
                        show ((pwant T [kZones, kLB] n9).bind _).st = _ ∧ ∀ x m, ((pwant T [kZones, kLB] n9).bind _) = _ → _
                        rw [← f10]
                        clear e10 f10
                        cases r10 with
                        | bad n => subst e11; subst e12; exact ⟨rfl, fun x m e => by cases e⟩
                        | ok u n10 =>
                          have f11 : r11 = shut (pzones T T.length n10) := e11
                          have f12 := shut_want (pzones_closed T T.length n10) [kRB]
                          rw [← f11, ← e12] at f12
                          clear e11 e12
                          show ((pzones T T.length n10).bind _).st = _ ∧ ∀ x m, ((pzones T T.length n10).bind _) = _ → _
                          cases hp11 : pzones T T.length n10 with
                          | bad n =>
                            rw [hp11] at f11 f12
                            subst f11; subst f12
                            exact ⟨rfl, fun x m e => by cases e⟩
                          | ok zs n11 =>
                            rw [hp11] at f11 f12
                            have e12 : r12 = pwant T [kRB] n11 := f12
                            clear f12
                            subst f11
                            show ((pwant T [kRB] n11).map _).st = _ ∧ ∀ x m, ((pwant T [kRB] n11).map _) = _ → _
                            rw [← e12]
                            cases r12 with
                            | bad n => exact ⟨rfl, fun x m e => by cases e⟩
                            | ok u n => exact ⟨rfl, fun x m e => by cases e; exact ⟨_, _, _, _, _, _, rfl, rfl, rfl, rfl, rfl, rfl, rfl⟩⟩
theorem only_y {x : Nat} {w : World} {i : Nat} {v : Value} : Only (· = x) w (w.setCell ⟨x, i, none⟩ v) := Only.set (S := (· = x)) w (p := ⟨x, i, none⟩) rfl _
theorem le_of_in {a b L M : Nat} (h : a ≤ b ∧ (b ≤ L ∨ b = a)) (ha : a ≤ M) (hL : L ≤ M) : b ≤ M := by omega
theorem rv_read {w w' : World} {S : Nat → Prop} {r : RT} {A A' : Option Addr} {m c m' c' : Nat} (h1 : RepT S w' r.order A m c) (h2 : RepZ S w' r.zones A' m' c') (hs : ∀ k, k < w.heap.size → S k) :
    RV w r w' (.agg #[.string (bs r.name), .int .i64 r.win, .int .i64 r.draw, .int .i64 r.loss, .slice A m c, .slice A' m' c']) := ⟨A, m, c, A', m', c', rfl, h1.sub hs, h2.sub hs⟩
theorem zv_read {w w' : World} {l : List ZT} {A : Option Addr} {m c : Nat} (h : ZV w l w' (.slice A m c)) : RepZ (fun k => k < w.heap.size) w' l A m c := by
  obtain ⟨A', m', c', e, hr⟩ := h
  injection e with e1 e2 e3
  subst e1; subst e2; subst e3
  exact hr
/-- Rules' value in any case. -/
def JR (_ : World) (v : Value) : Prop := ∃ (x : List UInt8) (i j k : Int) (A A' : Option Addr) (m c m' c' : Nat), v = .agg #[.string (bs x), .int .i64 i, .int .i64 j, .int .i64 k, .slice A m c, .slice A' m' c']
set_option maxHeartbeats 1500000 in
set_option maxRecDepth 100000 in
theorem zrules_any (B g : Nat) (A : Option Addr) (n c : Nat) (T : List Tok) (s : Res Unit) (w : World) (h : QSt w B g A n c T s) (hT : TOk T) (ha : posA s ≤ 65537) :
    Calls Tryz.prog 27 #[.pointer (some ⟨g, 0, none⟩)] w (QPost w B g A n c T (s.bind fun _ a => prules T a) (RV w) JR) := by
  have H := Lib.hid h
  have HT := Lib.hid hT
  have hTl := hT.len
  have hgw := h.lt
  clear h hT
  obtain ⟨R, eR⟩ : ∃ R, R = s.bind fun _ a => prules T a := ⟨_, rfl⟩
  obtain ⟨r0, e0⟩ : ∃ r0, r0 = s.bind fun _ n => pwant T [kRules] n := ⟨_, rfl⟩
  obtain ⟨r1, e1⟩ : ∃ r1, r1 = r0.bind fun _ n => pname T n := ⟨_, rfl⟩
  obtain ⟨r2, e2⟩ : ∃ r2, r2 = r1.st.bind fun _ n => pwant T [kLB, kWin] n := ⟨_, rfl⟩
  obtain ⟨r3, e3⟩ : ∃ r3, r3 = r2.bind fun _ n => pint T n := ⟨_, rfl⟩
  obtain ⟨r4, e4⟩ : ∃ r4, r4 = r3.st.bind fun _ n => pwant T [kDraw] n := ⟨_, rfl⟩
  obtain ⟨r5, e5⟩ : ∃ r5, r5 = r4.bind fun _ n => pint T n := ⟨_, rfl⟩
  obtain ⟨r6, e6⟩ : ∃ r6, r6 = r5.st.bind fun _ n => pwant T [kLoss] n := ⟨_, rfl⟩
  obtain ⟨r7, e7⟩ : ∃ r7, r7 = r6.bind fun _ n => pint T n := ⟨_, rfl⟩
  obtain ⟨r8, e8⟩ : ∃ r8, r8 = r7.st.bind fun _ n => pwant T [kSemi, kOrder, kLB] n := ⟨_, rfl⟩
  obtain ⟨r9, e9⟩ : ∃ r9, r9 = r8.bind fun _ n => shut (psteps T T.length n) := ⟨_, rfl⟩
  obtain ⟨r10, e10⟩ : ∃ r10, r10 = r9.st.bind fun _ n => pwant T [kRB, kZones, kLB] n := ⟨_, rfl⟩
  obtain ⟨r11, e11⟩ : ∃ r11, r11 = r10.bind fun _ n => shut (pzones T T.length n) := ⟨_, rfl⟩
  obtain ⟨r12, e12⟩ : ∃ r12, r12 = r11.st.bind fun _ n => pwant T [kRB, kRB] n := ⟨_, rfl⟩
  have hrun := rules_run e0 e1 e2 e3 e4 e5 e6 e7 e8 e9 e10 e11 e12
  rw [← eR] at hrun ⊢
  have HRUN := Lib.hid hrun
  have i0 := bind_in0 (L := T.length) (s := s) (p := fun n => pwant T [kRules] n) (fun a => pwant_in0 T _ a)
  rw [← e0, st_unit] at i0
  have p0 := le_of_in i0 ha hTl
  clear i0
  have E0 := Lib.hid e0
  have i1 := bind_in0 (L := T.length) (s := r0) (p := fun n => pname T n) (fun a => (pname_in T a).in0)
  rw [← e1] at i1
  have p1 := le_of_in i1 p0 hTl
  clear i1
  have E1 := Lib.hid e1
  have i2 := bind_in0 (L := T.length) (s := r1.st) (p := fun n => pwant T [kLB, kWin] n) (fun a => pwant_in0 T _ a)
  rw [← e2, st_unit] at i2
  have p2 := le_of_in i2 p1 hTl
  clear i2
  have E2 := Lib.hid e2
  have i3 := bind_in0 (L := T.length) (s := r2) (p := fun n => pint T n) (fun a => (pint_in T a).in0)
  rw [← e3] at i3
  have p3 := le_of_in i3 p2 hTl
  clear i3
  have E3 := Lib.hid e3
  have i4 := bind_in0 (L := T.length) (s := r3.st) (p := fun n => pwant T [kDraw] n) (fun a => pwant_in0 T _ a)
  rw [← e4, st_unit] at i4
  have p4 := le_of_in i4 p3 hTl
  clear i4
  have E4 := Lib.hid e4
  have i5 := bind_in0 (L := T.length) (s := r4) (p := fun n => pint T n) (fun a => (pint_in T a).in0)
  rw [← e5] at i5
  have p5 := le_of_in i5 p4 hTl
  clear i5
  have E5 := Lib.hid e5
  have i6 := bind_in0 (L := T.length) (s := r5.st) (p := fun n => pwant T [kLoss] n) (fun a => pwant_in0 T _ a)
  rw [← e6, st_unit] at i6
  have p6 := le_of_in i6 p5 hTl
  clear i6
  have E6 := Lib.hid e6
  have i7 := bind_in0 (L := T.length) (s := r6) (p := fun n => pint T n) (fun a => (pint_in T a).in0)
  rw [← e7] at i7
  have p7 := le_of_in i7 p6 hTl
  clear i7
  have E7 := Lib.hid e7
  have i8 := bind_in0 (L := T.length) (s := r7.st) (p := fun n => pwant T [kSemi, kOrder, kLB] n) (fun a => pwant_in0 T _ a)
  rw [← e8, st_unit] at i8
  have p8 := le_of_in i8 p7 hTl
  clear i8
  have E8 := Lib.hid e8
  have i9 := bind_in0 (L := T.length) (s := r8) (p := fun n => shut (psteps T T.length n)) (fun a => shut_in (psteps_in T _ a))
  rw [← e9] at i9
  have p9 := le_of_in i9 p8 hTl
  clear i9
  have E9 := Lib.hid e9
  have i10 := bind_in0 (L := T.length) (s := r9.st) (p := fun n => pwant T [kRB, kZones, kLB] n) (fun a => pwant_in0 T _ a)
  rw [← e10, st_unit] at i10
  have p10 := le_of_in i10 p9 hTl
  clear i10
  have E10 := Lib.hid e10
  have i11 := bind_in0 (L := T.length) (s := r10) (p := fun n => shut (pzones T T.length n)) (fun a => shut_in (pzones_in T _ a))
  rw [← e11] at i11
  have p11 := le_of_in i11 p10 hTl
  clear i11
  have E11 := Lib.hid e11
  have i12 := bind_in0 (L := T.length) (s := r11.st) (p := fun n => pwant T [kRB, kRB] n) (fun a => pwant_in0 T _ a)
  rw [← e12, st_unit] at i12
  have p12 := le_of_in i12 p11 hTl
  clear i12
  have E12 := Lib.hid e12
  clear hrun eR e0 e1 e2 e3 e4 e5 e6 e7 e8 e9 e10 e11 e12
  go_enter Tryz.func27, Tryz.ntmps27
  go_wp2_with (fail)
  first | (refine calls_named ?_; intro W0 hW0) | (refine body_named ?_; intro W0 hW0) | (refine wpList_named ?_; intro W0 hW0) | (refine wp_named ?_; intro W0 hW0)
  have hb0 : Below w.heap.size w W0 := by rw [← hW0]; exact ((Below.refl _ _).alloc (Nat.le_refl _) _).alloc (by simp) _
  have hk0 : Blk W0 (w.heap.size + 1) 9 #[.string (bs kRules)] := by rw [← hW0, ← World.size_alloc]; exact Blk.new _ _ _
  have HX0 := Lib.hid (show Blk W0 w.heap.size 28 #[.string ⟨#[]⟩, .int .i64 0, .int .i64 0, .int .i64 0, .slice none 0 0, .slice none 0 0] by rw [← hW0]; exact (Blk.new w _ _).alloc _)
  have Q0a := Lib.hid (H.out.below hb0)
  have OA0 := Lib.hid (Only.of_below (S := (· = g)) hb0)
  have hgs0 : g < w.heap.size + 1 := by omega
  clear hW0 hb0
  generalize hsb0 : w.heap.size + 1 = sb0 at hk0 hgs0 ⊢
  clear hsb0
  have C0 := zwant_any B g A n c T s (some ⟨sb0, 0, none⟩) 1 1 W0.heap.size [kRules] W0 Q0a.out (by omega) (rd_texts (ws := [kRules]) hk0 (by decide)) (Nat.le_refl _) (fun p hp => by injection hp with hp; rw [← hp]; show sb0 ≠ g; omega) (by omega)
  rw [← E0.out] at C0
  refine C0.mono ?_
  clear C0
  rintro e w0 ⟨ho0, hq0, _, rfl, rfl, _⟩
  rw [st_unit] at hq0
  have Q0 := Lib.hid hq0
  have OA0b := Lib.hid (OA0.out.trans ho0)
  have HX0b := Lib.hid (HX0.out.only ho0 (by omega))
  clear ho0 hq0 hk0 HX0
  go_wp2_with (fail)
  have C1 := zname_any B g A n c T r0 w0 Q0.out (by omega)
  rw [← E1.out] at C1
  refine C1.mono ?_
  clear C1
  rintro e w1 ⟨ho1, hq1, _, rfl, ⟨sn, rfl⟩, hv1⟩
  have Q1 := Lib.hid hq1
  have HV1 := Lib.hid hv1
  have OA1 := Lib.hid (OA0b.out.trans ho1)
  have HX1 := Lib.hid (HX0b.out.only ho1 (by omega))
  have hbw1 : w.heap.size < w1.heap.size := HX1.out.lt
  clear ho1 hq1 hv1 HX0b
  go_wp2_with (fail)
  first | (refine calls_named ?_; intro W2 hW2) | (refine body_named ?_; intro W2 hW2) | (refine wpList_named ?_; intro W2 hW2) | (refine wp_named ?_; intro W2 hW2)
  have hbx2 : Blk W2 w1.heap.size 28 #[.string (bs sn), .int .i64 0, .int .i64 0, .int .i64 0, .slice none 0 0, .slice none 0 0] := by rw [← hW2]; exact (Blk.new w1 _ _).alloc _
  have hk2 : Blk W2 (w1.heap.size + 1) 9 #[.string (bs kLB), .string (bs kWin)] := by rw [← hW2, ← World.size_alloc]; exact Blk.new _ _ _
  have hb2 : Below w1.heap.size w1 W2 := by rw [← hW2]; exact ((Below.refl _ _).alloc (Nat.le_refl _) _).alloc (by simp) _
  have Q2a := Lib.hid (Q1.out.below hb2)
  have OZ2a := Lib.hid (Only.of_below (S := fun k => k = g ∨ k = w1.heap.size) hb2)
  have hg1 : g < w1.heap.size := Q1.out.lt
  have hw1 : w.heap.size ≤ w1.heap.size := OA1.out.size
  have hlb : B ≤ g := H.out.lb
  clear hW2 hb2
  generalize hrb : w1.heap.size = rb at *
  have HRB := Lib.hid hrb
  have wk : ∀ (u v : World), Only (· = g) u v → Only (fun k => k = g ∨ k = rb) u v := fun _ _ ho => ⟨ho.os, ho.tape, ho.output, ho.size, fun k hk hn => ho.block k hk (fun e => hn (.inl e))⟩
  have WK := Lib.hid wk
  clear hrb wk
  generalize hsb2 : rb + 1 = sb2 at hk2 ⊢
  have hgs2 : g < sb2 := by omega
  clear hsb2
  have C2 := zwant_any B g A n c T r1.st (some ⟨sb2, 0, none⟩) 2 2 W2.heap.size [kLB, kWin] W2 Q2a.out (by omega) (rd_texts (ws := [kLB, kWin]) hk2 (by decide)) (Nat.le_refl _) (fun p hp => by injection hp with hp; rw [← hp]; show sb2 ≠ g; omega) (by omega)
  rw [← E2.out] at C2
  refine C2.mono ?_
  clear C2
  rintro e w2 ⟨ho2, hq2, _, rfl, rfl, _⟩
  rw [st_unit] at hq2
  have Q2 := Lib.hid hq2
  have hbx2b := hbx2.only ho2 (by omega)
  have OZ2 := Lib.hid (OZ2a.out.trans (WK.out _ _ ho2))
  have hrw2 : rb < w2.heap.size := hbx2b.lt
  have hgw2 : g < w2.heap.size := hq2.lt
  clear ho2 hq2 hk2 hbx2
  go_wp2_with (fail)
  have C3 := zinteger_any B g A n c T r2 w2 Q2.out HT.out (by omega)
  rw [← E3.out] at C3
  refine C3.mono ?_
  clear C3
  rintro e w3 ⟨ho3, hq3, _, rfl, ⟨x3v, rfl, _, _⟩, hv3⟩
  have Q3 := Lib.hid hq3
  have HV3 := Lib.hid hv3
  have hbx3 := hbx2b.only ho3 (by omega)
  have OZ3 := Lib.hid (OZ2.out.trans (WK.out _ _ ho3))
  have x3 : w3.cell? ⟨rb, 1, none⟩ = some (.int .i64 0) := by rw [hbx3.cell]; rfl
  have f3 := hbx3.frozen 1
  have l3 := hbx3.lt
  have hg3 : g < w3.heap.size := hq3.lt
  clear ho3 hq3 hv3 hbx2b
  go_wp2_with (fail)
  first | (refine calls_named ?_; intro W4 hW4) | (refine body_named ?_; intro W4 hW4) | (refine wpList_named ?_; intro W4 hW4) | (refine wp_named ?_; intro W4 hW4)
  have ho4 : Only (· = rb) w3 (w3.setCell ⟨rb, 1, none⟩ (.int .i64 x3v)) := Only.set (S := (· = rb)) w3 (p := ⟨rb, 1, none⟩) rfl _
  have hbx4' := hbx3.set 1 (.int .i64 x3v)
  have q4' := Q3.out.only ho4 (by omega) (fun k e => by rw [e]; omega)
  have hs4 : (w3.setCell ⟨rb, 1, none⟩ (.int .i64 x3v)).heap.size = w3.heap.size := World.size_setCell _ _ _
  have wk4 : Only (fun k => k = g ∨ k = rb) w3 (w3.setCell ⟨rb, 1, none⟩ (.int .i64 x3v)) := ⟨ho4.os, ho4.tape, ho4.output, ho4.size, fun k hk hn => ho4.block k hk (fun e => hn (.inr e))⟩
  generalize w3.setCell ⟨rb, 1, none⟩ (.int .i64 x3v) = v4 at *
  have hb4 : Below v4.heap.size v4 W4 := by rw [← hW4]; exact (Below.refl _ _).alloc (Nat.le_refl _) _
  have hk4 : Blk W4 w3.heap.size 9 #[.string (bs kDraw)] := by rw [← hW4, ← hs4]; exact Blk.new _ _ _
  have hbx4 : Blk W4 rb 28 #[.string (bs sn), .int .i64 x3v, .int .i64 0, .int .i64 0, .slice none 0 0, .slice none 0 0] := Blk.below hbx4' hb4 (by omega)
  have Q4a := Lib.hid (q4'.below hb4)
  have hwk4 := wk4.trans (Only.of_below hb4)
  have OZ4a := Lib.hid (OZ3.out.trans hwk4)
  clear hW4 ho4 hbx4' q4' wk4 hwk4 hb4 hbx3 x3 f3 l3 hs4
  generalize w3.heap.size = sb4 at *
  have hgs4 := hg3
  have C4 := zwant_any B g A n c T r3.st (some ⟨sb4, 0, none⟩) 1 1 W4.heap.size [kDraw] W4 Q4a.out (by omega) (rd_texts (ws := [kDraw]) hk4 (by decide)) (Nat.le_refl _) (fun p hp => by injection hp with hp; rw [← hp]; show sb4 ≠ g; omega) (by omega)
  rw [← E4.out] at C4
  refine C4.mono ?_
  clear C4
  rintro e w4 ⟨ho4, hq4, _, rfl, rfl, _⟩
  rw [st_unit] at hq4
  have Q4 := Lib.hid hq4
  have hbx4b := hbx4.only ho4 (by omega)
  have OZ4 := Lib.hid (OZ4a.out.trans (WK.out _ _ ho4))
  have hrw4 : rb < w4.heap.size := hbx4b.lt
  have hgw4 : g < w4.heap.size := hq4.lt
  clear ho4 hq4 hk4 hbx4
  go_wp2_with (fail)
  have C5 := zinteger_any B g A n c T r4 w4 Q4.out HT.out (by omega)
  rw [← E5.out] at C5
  refine C5.mono ?_
  clear C5
  rintro e w5 ⟨ho5, hq5, _, rfl, ⟨x5v, rfl, _, _⟩, hv5⟩
  have Q5 := Lib.hid hq5
  have HV5 := Lib.hid hv5
  have hbx5 := hbx4b.only ho5 (by omega)
  have OZ5 := Lib.hid (OZ4.out.trans (WK.out _ _ ho5))
  have x5 : w5.cell? ⟨rb, 2, none⟩ = some (.int .i64 0) := by rw [hbx5.cell]; rfl
  have f5 := hbx5.frozen 2
  have l5 := hbx5.lt
  have hg5 : g < w5.heap.size := hq5.lt
  clear ho5 hq5 hv5 hbx4b
  go_wp2_with (fail)
  first | (refine calls_named ?_; intro W6 hW6) | (refine body_named ?_; intro W6 hW6) | (refine wpList_named ?_; intro W6 hW6) | (refine wp_named ?_; intro W6 hW6)
  have ho6 : Only (· = rb) w5 (w5.setCell ⟨rb, 2, none⟩ (.int .i64 x5v)) := Only.set (S := (· = rb)) w5 (p := ⟨rb, 2, none⟩) rfl _
  have hbx6' := hbx5.set 2 (.int .i64 x5v)
  have q6' := Q5.out.only ho6 (by omega) (fun k e => by rw [e]; omega)
  have hs6 : (w5.setCell ⟨rb, 2, none⟩ (.int .i64 x5v)).heap.size = w5.heap.size := World.size_setCell _ _ _
  have wk6 : Only (fun k => k = g ∨ k = rb) w5 (w5.setCell ⟨rb, 2, none⟩ (.int .i64 x5v)) := ⟨ho6.os, ho6.tape, ho6.output, ho6.size, fun k hk hn => ho6.block k hk (fun e => hn (.inr e))⟩
  generalize w5.setCell ⟨rb, 2, none⟩ (.int .i64 x5v) = v6 at *
  have hb6 : Below v6.heap.size v6 W6 := by rw [← hW6]; exact (Below.refl _ _).alloc (Nat.le_refl _) _
  have hk6 : Blk W6 w5.heap.size 9 #[.string (bs kLoss)] := by rw [← hW6, ← hs6]; exact Blk.new _ _ _
  have hbx6 : Blk W6 rb 28 #[.string (bs sn), .int .i64 x3v, .int .i64 x5v, .int .i64 0, .slice none 0 0, .slice none 0 0] := Blk.below hbx6' hb6 (by omega)
  have Q6a := Lib.hid (q6'.below hb6)
  have hwk6 := wk6.trans (Only.of_below hb6)
  have OZ6a := Lib.hid (OZ5.out.trans hwk6)
  clear hW6 ho6 hbx6' q6' wk6 hwk6 hb6 hbx5 x5 f5 l5 hs6
  generalize w5.heap.size = sb6 at *
  have hgs6 := hg5
  have C6 := zwant_any B g A n c T r5.st (some ⟨sb6, 0, none⟩) 1 1 W6.heap.size [kLoss] W6 Q6a.out (by omega) (rd_texts (ws := [kLoss]) hk6 (by decide)) (Nat.le_refl _) (fun p hp => by injection hp with hp; rw [← hp]; show sb6 ≠ g; omega) (by omega)
  rw [← E6.out] at C6
  refine C6.mono ?_
  clear C6
  rintro e w6 ⟨ho6, hq6, _, rfl, rfl, _⟩
  rw [st_unit] at hq6
  have Q6 := Lib.hid hq6
  have hbx6b := hbx6.only ho6 (by omega)
  have OZ6 := Lib.hid (OZ6a.out.trans (WK.out _ _ ho6))
  have hrw6 : rb < w6.heap.size := hbx6b.lt
  have hgw6 : g < w6.heap.size := hq6.lt
  clear ho6 hq6 hk6 hbx6
  go_wp2_with (fail)
  have C7 := zinteger_any B g A n c T r6 w6 Q6.out HT.out (by omega)
  rw [← E7.out] at C7
  refine C7.mono ?_
  clear C7
  rintro e w7 ⟨ho7, hq7, _, rfl, ⟨x7v, rfl, _, _⟩, hv7⟩
  have Q7 := Lib.hid hq7
  have HV7 := Lib.hid hv7
  have hbx7 := hbx6b.only ho7 (by omega)
  have OZ7 := Lib.hid (OZ6.out.trans (WK.out _ _ ho7))
  have x7 : w7.cell? ⟨rb, 3, none⟩ = some (.int .i64 0) := by rw [hbx7.cell]; rfl
  have f7 := hbx7.frozen 3
  have l7 := hbx7.lt
  have hg7 : g < w7.heap.size := hq7.lt
  clear ho7 hq7 hv7 hbx6b
  go_wp2_with (fail)
  first | (refine calls_named ?_; intro W8 hW8) | (refine body_named ?_; intro W8 hW8) | (refine wpList_named ?_; intro W8 hW8) | (refine wp_named ?_; intro W8 hW8)
  have ho8 : Only (· = rb) w7 (w7.setCell ⟨rb, 3, none⟩ (.int .i64 x7v)) := Only.set (S := (· = rb)) w7 (p := ⟨rb, 3, none⟩) rfl _
  have hbx8' := hbx7.set 3 (.int .i64 x7v)
  have q8' := Q7.out.only ho8 (by omega) (fun k e => by rw [e]; omega)
  have hs8 : (w7.setCell ⟨rb, 3, none⟩ (.int .i64 x7v)).heap.size = w7.heap.size := World.size_setCell _ _ _
  have wk8 : Only (fun k => k = g ∨ k = rb) w7 (w7.setCell ⟨rb, 3, none⟩ (.int .i64 x7v)) := ⟨ho8.os, ho8.tape, ho8.output, ho8.size, fun k hk hn => ho8.block k hk (fun e => hn (.inr e))⟩
  generalize w7.setCell ⟨rb, 3, none⟩ (.int .i64 x7v) = v8 at *
  have hb8 : Below v8.heap.size v8 W8 := by rw [← hW8]; exact (Below.refl _ _).alloc (Nat.le_refl _) _
  have hk8 : Blk W8 w7.heap.size 9 #[.string (bs kSemi), .string (bs kOrder), .string (bs kLB)] := by rw [← hW8, ← hs8]; exact Blk.new _ _ _
  have hbx8 : Blk W8 rb 28 #[.string (bs sn), .int .i64 x3v, .int .i64 x5v, .int .i64 x7v, .slice none 0 0, .slice none 0 0] := Blk.below hbx8' hb8 (by omega)
  have Q8a := Lib.hid (q8'.below hb8)
  have hwk8 := wk8.trans (Only.of_below hb8)
  have OZ8a := Lib.hid (OZ7.out.trans hwk8)
  clear hW8 ho8 hbx8' q8' wk8 hwk8 hb8 hbx7 x7 f7 l7 hs8
  generalize w7.heap.size = sb8 at *
  have hgs8 := hg7
  have C8 := zwant_any B g A n c T r7.st (some ⟨sb8, 0, none⟩) 3 3 W8.heap.size [kSemi, kOrder, kLB] W8 Q8a.out (by omega) (rd_texts (ws := [kSemi, kOrder, kLB]) hk8 (by decide)) (Nat.le_refl _) (fun p hp => by injection hp with hp; rw [← hp]; show sb8 ≠ g; omega) (by omega)
  rw [← E8.out] at C8
  refine C8.mono ?_
  clear C8
  rintro e w8 ⟨ho8, hq8, _, rfl, rfl, _⟩
  rw [st_unit] at hq8
  have Q8 := Lib.hid hq8
  have hbx8b := hbx8.only ho8 (by omega)
  have OZ8 := Lib.hid (OZ8a.out.trans (WK.out _ _ ho8))
  have hrw8 : rb < w8.heap.size := hbx8b.lt
  have hgw8 : g < w8.heap.size := hq8.lt
  clear ho8 hq8 hk8 hbx8
  go_wp2_with (fail)
  have C9 := zsteps_any B g A n c T r8 w8 Q8.out HT.out (by omega)
  rw [← E9.out] at C9
  refine C9.mono ?_
  clear C9
  rintro e w9 ⟨ho9, hq9, _, rfl, ⟨A9, n9, c9, rfl⟩, hv9⟩
  have Q9 := Lib.hid hq9
  have HV9 := Lib.hid (fun y j e => sv_read (hv9 y j e))
  have hbx9 := hbx8b.only ho9 (by omega)
  have OZ9 := Lib.hid (OZ8.out.trans (WK.out _ _ ho9))
  have O9x9 := Lib.hid (Only.refl (fun k => k = g ∨ k = rb) w9)
  have x9 : w9.cell? ⟨rb, 4, none⟩ = some (.slice none 0 0) := by rw [hbx9.cell]; rfl
  have f9 := hbx9.frozen 4
  have l9 := hbx9.lt
  have hg9 : g < w9.heap.size := hq9.lt
  clear ho9 hq9 hv9 hbx8b
  go_wp2_with (fail)
  first | (refine calls_named ?_; intro W10 hW10) | (refine body_named ?_; intro W10 hW10) | (refine wpList_named ?_; intro W10 hW10) | (refine wp_named ?_; intro W10 hW10)
  have ho10 : Only (· = rb) w9 (w9.setCell ⟨rb, 4, none⟩ (.slice A9 n9 c9)) := Only.set (S := (· = rb)) w9 (p := ⟨rb, 4, none⟩) rfl _
  have hbx10' := hbx9.set 4 (.slice A9 n9 c9)
  have q10' := Q9.out.only ho10 (by omega) (fun k e => by rw [e]; omega)
  have hs10 : (w9.setCell ⟨rb, 4, none⟩ (.slice A9 n9 c9)).heap.size = w9.heap.size := World.size_setCell _ _ _
  have wk10 : Only (fun k => k = g ∨ k = rb) w9 (w9.setCell ⟨rb, 4, none⟩ (.slice A9 n9 c9)) := ⟨ho10.os, ho10.tape, ho10.output, ho10.size, fun k hk hn => ho10.block k hk (fun e => hn (.inr e))⟩
  generalize w9.setCell ⟨rb, 4, none⟩ (.slice A9 n9 c9) = v10 at *
  have hb10 : Below v10.heap.size v10 W10 := by rw [← hW10]; exact (Below.refl _ _).alloc (Nat.le_refl _) _
  have hk10 : Blk W10 w9.heap.size 9 #[.string (bs kRB), .string (bs kZones), .string (bs kLB)] := by rw [← hW10, ← hs10]; exact Blk.new _ _ _
  have hbx10 : Blk W10 rb 28 #[.string (bs sn), .int .i64 x3v, .int .i64 x5v, .int .i64 x7v, .slice A9 n9 c9, .slice none 0 0] := Blk.below hbx10' hb10 (by omega)
  have Q10a := Lib.hid (q10'.below hb10)
  have hwk10 := wk10.trans (Only.of_below hb10)
  have OZ10a := Lib.hid (OZ9.out.trans hwk10)
  have O9x10a := Lib.hid (O9x9.out.trans hwk10)
  clear hW10 ho10 hbx10' q10' wk10 hwk10 hb10 hbx9 x9 f9 l9 hs10
  generalize w9.heap.size = sb10 at *
  have hgs10 := hg9
  have C10 := zwant_any B g A n c T r9.st (some ⟨sb10, 0, none⟩) 3 3 W10.heap.size [kRB, kZones, kLB] W10 Q10a.out (by omega) (rd_texts (ws := [kRB, kZones, kLB]) hk10 (by decide)) (Nat.le_refl _) (fun p hp => by injection hp with hp; rw [← hp]; show sb10 ≠ g; omega) (by omega)
  rw [← E10.out] at C10
  refine C10.mono ?_
  clear C10
  rintro e w10 ⟨ho10, hq10, _, rfl, rfl, _⟩
  rw [st_unit] at hq10
  have Q10 := Lib.hid hq10
  have hbx10b := hbx10.only ho10 (by omega)
  have OZ10 := Lib.hid (OZ10a.out.trans (WK.out _ _ ho10))
  have O9x10 := Lib.hid (O9x10a.out.trans (WK.out _ _ ho10))
  have hrw10 : rb < w10.heap.size := hbx10b.lt
  have hgw10 : g < w10.heap.size := hq10.lt
  clear ho10 hq10 hk10 hbx10
  go_wp2_with (fail)
  have C11 := zzones_any B g A n c T r10 w10 Q10.out HT.out (by omega)
  rw [← E11.out] at C11
  refine C11.mono ?_
  clear C11
  rintro e w11 ⟨ho11, hq11, _, rfl, ⟨A11, n11, c11, rfl⟩, hv11⟩
  have Q11 := Lib.hid hq11
  have HV11 := Lib.hid (fun y j e => zv_read (hv11 y j e))
  have hbx11 := hbx10b.only ho11 (by omega)
  have OZ11 := Lib.hid (OZ10.out.trans (WK.out _ _ ho11))
  have O9x11 := Lib.hid (O9x10.out.trans (WK.out _ _ ho11))
  have O11x11 := Lib.hid (Only.refl (fun k => k = g ∨ k = rb) w11)
  have x11 : w11.cell? ⟨rb, 5, none⟩ = some (.slice none 0 0) := by rw [hbx11.cell]; rfl
  have f11 := hbx11.frozen 5
  have l11 := hbx11.lt
  have hg11 : g < w11.heap.size := hq11.lt
  clear ho11 hq11 hv11 hbx10b
  go_wp2_with (fail)
  first | (refine calls_named ?_; intro W12 hW12) | (refine body_named ?_; intro W12 hW12) | (refine wpList_named ?_; intro W12 hW12) | (refine wp_named ?_; intro W12 hW12)
  have ho12 : Only (· = rb) w11 (w11.setCell ⟨rb, 5, none⟩ (.slice A11 n11 c11)) := Only.set (S := (· = rb)) w11 (p := ⟨rb, 5, none⟩) rfl _
  have hbx12' := hbx11.set 5 (.slice A11 n11 c11)
  have q12' := Q11.out.only ho12 (by omega) (fun k e => by rw [e]; omega)
  have hs12 : (w11.setCell ⟨rb, 5, none⟩ (.slice A11 n11 c11)).heap.size = w11.heap.size := World.size_setCell _ _ _
  have wk12 : Only (fun k => k = g ∨ k = rb) w11 (w11.setCell ⟨rb, 5, none⟩ (.slice A11 n11 c11)) := ⟨ho12.os, ho12.tape, ho12.output, ho12.size, fun k hk hn => ho12.block k hk (fun e => hn (.inr e))⟩
  generalize w11.setCell ⟨rb, 5, none⟩ (.slice A11 n11 c11) = v12 at *
  have hb12 : Below v12.heap.size v12 W12 := by rw [← hW12]; exact (Below.refl _ _).alloc (Nat.le_refl _) _
  have hk12 : Blk W12 w11.heap.size 9 #[.string (bs kRB), .string (bs kRB)] := by rw [← hW12, ← hs12]; exact Blk.new _ _ _
  have hbx12 : Blk W12 rb 28 #[.string (bs sn), .int .i64 x3v, .int .i64 x5v, .int .i64 x7v, .slice A9 n9 c9, .slice A11 n11 c11] := Blk.below hbx12' hb12 (by omega)
  have Q12a := Lib.hid (q12'.below hb12)
  have hwk12 := wk12.trans (Only.of_below hb12)
  have OZ12a := Lib.hid (OZ11.out.trans hwk12)
  have O9x12a := Lib.hid (O9x11.out.trans hwk12)
  have O11x12a := Lib.hid (O11x11.out.trans hwk12)
  clear hW12 ho12 hbx12' q12' wk12 hwk12 hb12 hbx11 x11 f11 l11 hs12
  generalize w11.heap.size = sb12 at *
  have hgs12 := hg11
  have C12 := zwant_any B g A n c T r11.st (some ⟨sb12, 0, none⟩) 2 2 W12.heap.size [kRB, kRB] W12 Q12a.out (by omega) (rd_texts (ws := [kRB, kRB]) hk12 (by decide)) (Nat.le_refl _) (fun p hp => by injection hp with hp; rw [← hp]; show sb12 ≠ g; omega) (by omega)
  rw [← E12.out] at C12
  refine C12.mono ?_
  clear C12
  rintro e w12 ⟨ho12, hq12, _, rfl, rfl, _⟩
  rw [st_unit] at hq12
  have Q12 := Lib.hid hq12
  have hbx12b := hbx12.only ho12 (by omega)
  have OZ12 := Lib.hid (OZ12a.out.trans (WK.out _ _ ho12))
  have O9x12 := Lib.hid (O9x12a.out.trans (WK.out _ _ ho12))
  have O11x12 := Lib.hid (O11x12a.out.trans (WK.out _ _ ho12))
  have hrw12 : rb < w12.heap.size := hbx12b.lt
  have hgw12 : g < w12.heap.size := hq12.lt
  clear ho12 hq12 hk12 hbx12
  have z0 : w12.cell? ⟨rb, 0, none⟩ = some (.string (bs sn)) := by rw [hbx12b.cell]; rfl
  have z1 : w12.cell? ⟨rb, 1, none⟩ = some (.int .i64 x3v) := by rw [hbx12b.cell]; rfl
  have z2 : w12.cell? ⟨rb, 2, none⟩ = some (.int .i64 x5v) := by rw [hbx12b.cell]; rfl
  have z3 : w12.cell? ⟨rb, 3, none⟩ = some (.int .i64 x7v) := by rw [hbx12b.cell]; rfl
  have z4 : w12.cell? ⟨rb, 4, none⟩ = some (.slice A9 n9 c9) := by rw [hbx12b.cell]; rfl
  have z5 : w12.cell? ⟨rb, 5, none⟩ = some (.slice A11 n11 c11) := by rw [hbx12b.cell]; rfl
  have lx := hbx12b.lt
  go_wp2_with (with_reducible refine at_op (Op.store 28 (.tmp 2) (.tmp 43)) rfl ?_; refine Hid.out ?_)
  refine Lib.hid ?_
  clear z0 z1 z2 z3 z4 z5 lx
  have HX12 := Lib.hid (HX1.out.only OZ12.out (fun hS => by rcases hS with e | e <;> omega))
  have lb := HX12.out.lt
  have b0 : w12.cell? ⟨w.heap.size, 0, none⟩ = some (.string ⟨#[]⟩) := by rw [HX12.out.cell]; rfl
  have f0 := HX12.out.frozen 0
  have b1 : w12.cell? ⟨w.heap.size, 1, none⟩ = some (.int .i64 0) := by rw [HX12.out.cell]; rfl
  have f1 := HX12.out.frozen 1
  have b2 : w12.cell? ⟨w.heap.size, 2, none⟩ = some (.int .i64 0) := by rw [HX12.out.cell]; rfl
  have f2 := HX12.out.frozen 2
  have b3 : w12.cell? ⟨w.heap.size, 3, none⟩ = some (.int .i64 0) := by rw [HX12.out.cell]; rfl
  have f3 := HX12.out.frozen 3
  have b4 : w12.cell? ⟨w.heap.size, 4, none⟩ = some (.slice none 0 0) := by rw [HX12.out.cell]; rfl
  have f4 := HX12.out.frozen 4
  have b5 : w12.cell? ⟨w.heap.size, 5, none⟩ = some (.slice none 0 0) := by rw [HX12.out.cell]; rfl
  have f5 := HX12.out.frozen 5
  go_step
  go_step
  go_step
  go_step
  go_step
  go_step
  go_step
  first | (refine calls_named ?_; intro W hW) | (refine body_named ?_; intro W hW) | (refine wpList_named ?_; intro W hW) | (refine wp_named ?_; intro W hW)
  have hk : Blk W w.heap.size 28 #[.string (bs sn), .int .i64 x3v, .int .i64 x5v, .int .i64 x7v, .slice A9 n9 c9, .slice A11 n11 c11] := by rw [← hW]; exact ((((((HX12.out.set 0 (.string (bs sn))).set 1 (.int .i64 x3v)).set 2 (.int .i64 x5v)).set 3 (.int .i64 x7v)).set 4 (.slice A9 n9 c9)).set 5 (.slice A11 n11 c11))
  have hO : Only (· = w.heap.size) w12 W := by rw [← hW]; exact (((((((Only.refl _ _).trans only_y).trans only_y).trans only_y).trans only_y).trans only_y).trans only_y)
  clear hW b0 f0 b1 f1 b2 f2 b3 f3 b4 f4 b5 f5
  have y0 : W.cell? ⟨w.heap.size, 0, none⟩ = some (.string (bs sn)) := by rw [hk.cell]; rfl
  have y1 : W.cell? ⟨w.heap.size, 1, none⟩ = some (.int .i64 x3v) := by rw [hk.cell]; rfl
  have y2 : W.cell? ⟨w.heap.size, 2, none⟩ = some (.int .i64 x5v) := by rw [hk.cell]; rfl
  have y3 : W.cell? ⟨w.heap.size, 3, none⟩ = some (.int .i64 x7v) := by rw [hk.cell]; rfl
  have y4 : W.cell? ⟨w.heap.size, 4, none⟩ = some (.slice A9 n9 c9) := by rw [hk.cell]; rfl
  have y5 : W.cell? ⟨w.heap.size, 5, none⟩ = some (.slice A11 n11 c11) := by rw [hk.cell]; rfl
  refine bodyPost_ret (by simp [results, Tryz.results27, go_sem, y0, y1, y2, y3, y4, y5]; try rfl) rfl ?_
  have hgx : g ≠ w.heap.size := by omega
  have hl12 := Q12.out.lb
  refine ⟨?_, ?_, _, rfl, ⟨_, _, _, _, _, _, _, _, _, _, rfl⟩, fun y j e => ?_⟩
  · have ho := OZ12.out
    have ha := OA1.out
    have hrb := HRB.out
    have h1 : Only (· = g) w w12 := ⟨ho.os.trans ha.os, ho.tape.trans ha.tape, ho.output.trans ha.output, Nat.le_trans ha.size ho.size, fun i hi hn => (ho.block i (Nat.lt_of_lt_of_le hi ha.size) (fun hS => by rcases hS with e | e; exact hn e; omega)).trans (ha.block i hi hn)⟩
    exact h1.new hO (fun k e => by rw [e]; exact Nat.le_refl _)
  · rw [HRUN.out.1]; exact Q12.out.only hO hgx (fun k e => by rw [e]; omega)
  · obtain ⟨m1, m3, m5, m7, m9, m11, e1, e3, e5, e7, e9, e11, _⟩ := HRUN.out.2 y j e
    have t1 := HV1.out _ _ e1
    have t3 := HV3.out _ _ e3
    have t5 := HV5.out _ _ e5
    have t7 := HV7.out _ _ e7
    have t9 := HV9.out _ _ e9
    have t11 := HV11.out _ _ e11
    rw [t1, t3, t5, t7]
    have u9 := ((t9.only O9x12.out (fun k hk => by rcases hk with e | e <;> omega)).only hO (fun k e => by omega)).sub (S' := fun k => k < w.heap.size) (fun k hk => by omega)
    have u11 := ((t11.only O11x12.out (fun k hk => by rcases hk with e | e <;> omega)).only hO (fun k e => by omega)).sub (S' := fun k => k < w.heap.size) (fun k hk => by omega)
    exact rv_read u9 u11 (fun k hk => hk)
  end Go.Proofs.YtlgdmbdhffdenaaGreatDoor

/- The reference's start, Rules and Condition by their contracts (printed by wip/bin/genyreft.py). -/
namespace Go.Proofs.YtlgdmbdhffdenaaGreatDoor
set_option linter.unusedVariables false
set_option linter.unusedSimpArgs false
open Go.RowKit

set_option maxHeartbeats 1000000 in
set_option maxRecDepth 100000 in
theorem zstart_any (A : Option Addr) (n c : Nat) (l : List UInt8) (w : World) (h : Rd w w.heap.size 1 A n c (l.map vb)) (hn : n ≤ 30000) :
    Calls Tryz.prog 26 #[.slice A n c] w fun e w' => Below w.heap.size w w' ∧
      ((∃ q r, (lex l).2 = q :: r ∧ e = .returned (.tuple #[.pointer none, .int .i64 q.at_, .int .i64 q.code])) ∨
       ((lex l).2 = [] ∧ ∃ B g A1 c1, e = .returned (.tuple #[.pointer (some ⟨g, 0, none⟩), .int .i64 0, .int .i64 0]) ∧ w.heap.size ≤ g ∧ QSt w' B g A1 (lex l).1.length c1 (lex l).1 (.ok () 0))) := by
  have hlen := h.blen
  subst hlen
  have C1 := Lib.hid (rtokens_any A l.length c l w h (by omega))
  clear h
  go_enter Tryz.func26, Tryz.ntmps26
  go_wp2_with (fail)
  refine C1.out.mono ?_
  rintro e w1 ⟨A1, A2, c1, c2, rfl, h1, h2, hb1⟩
  have HB1 := Lib.hid hb1
  have HR1 := Lib.hid h1
  have HR2 := Lib.hid h2
  have hcap1 := h1.cap
  have hbig1 := h1.big
  have hcap2 := h2.cap
  have hbig2 := h2.big
  clear h1 h2 hb1 C1
  cases hP : (lex l).2 with
  | cons q rr =>
    have HP := Lib.hid hP
    have HR3 := HR2.out
    rw [hP] at HR3
    obtain ⟨b, off, t, rfl, hbl1, ht, y0, y1⟩ := HR3.prob (k := 0) (by simp)
    obtain rfl : q = t := by simpa using ht
    rw [hP] at hcap2
    clear ht HR3 hP HR2
    rw [Nat.zero_mul, Nat.add_zero] at y0 y1
    have hl0 : 0 < rr.length + 1 := by omega
    simp only [List.length_cons] at hcap2 ⊢
    go_wp2_with (fail)
    go_quiet (fail)
    go_wp2_with (fail)
    refine bodyPost_ret (v := .tuple #[.pointer none, .int .i64 q.at_, .int .i64 q.code]) (by simp [results, Tryz.results26, go_sem]) rfl ?_
    exact ⟨HB1.out.trans (bdrew _ _), .inl ⟨q, rr, HP.out, rfl⟩⟩
  | nil =>
    have HP := Lib.hid hP
    rw [hP] at hcap2
    clear hP
    simp only [List.length_nil]
    go_wp2_with (fail)
    first | (refine calls_named ?_; intro W hW) | (refine body_named ?_; intro W hW) | (refine wpList_named ?_; intro W hW) | (refine wp_named ?_; intro W hW)
    have hbW : Below w1.heap.size w1 W := by rw [← hW]; exact (Below.refl _ _).alloc (Nat.le_refl _) _
    have hk : Blk W w1.heap.size 64 #[.slice A1 (lex l).1.length c1, .int .i64 0, .bool false] := by rw [← hW]; exact Blk.new _ _ _
    clear hW
    refine bodyPost_ret (v := .tuple #[.pointer (some ⟨w1.heap.size, 0, none⟩), .int .i64 0, .int .i64 0]) (by simp [results, Tryz.results26, go_sem]) rfl ?_
    exact ⟨HB1.out.trans (hbW.mono HB1.out.size), .inr ⟨HP.out, w1.heap.size, w1.heap.size, A1, c1, rfl, HB1.out.size, hk, HR1.out.below hbW, Nat.le_refl _⟩⟩
theorem top_bad {α : Type} {z : α} {p : List Tok → Res α} {l : List UInt8} {m : Nat} (h : (lex l).2 = []) (e : p (lex l).1 = .bad m) : topOf z p l = (z, (nx (lex l).1 m).at_, 130) := by
  unfold topOf
  rw [h]
  simp only
  rw [e]
  rfl
theorem top_end {α : Type} {z : α} {p : List Tok → Res α} {l : List UInt8} {x : α} {m : Nat} (h : (lex l).2 = []) (e : p (lex l).1 = .ok x m) (hk : (nx (lex l).1 m).kind ≠ 5) : topOf z p l = (z, (nx (lex l).1 m).at_, 130) := by
  unfold topOf
  rw [h]
  simp only
  rw [e]
  unfold pend
  simp only [Res.bind]
  rw [if_neg hk]
theorem top_lex {α : Type} {z : α} {p : List Tok → Res α} {l : List UInt8} {q : Prob} {r : List Prob} (h : (lex l).2 = q :: r) : topOf z p l = (z, q.at_, q.code) := by
  unfold topOf
  rw [h]
theorem qbind0 {α : Type} (p : Nat → Res α) : ((Res.ok () 0 : Res Unit).bind fun _ a => p a) = p 0 := rfl
theorem rv_rd {w w' : World} {r : RT} {x : List UInt8} {i j k : Int} {A A' : Option Addr} {m c m' c' : Nat} (h : RV w r w' (.agg #[.string (bs x), .int .i64 i, .int .i64 j, .int .i64 k, .slice A m c, .slice A' m' c'])) :
    bs r.name = bs x ∧ r.win = i ∧ r.draw = j ∧ r.loss = k ∧ RepT (fun k => k < w.heap.size) w' r.order A m c ∧ RepZ (fun k => k < w.heap.size) w' r.zones A' m' c' := by
  obtain ⟨B, n, d, B', n', d', e, h1, h2⟩ := h
  simp only [Value.agg.injEq, Array.mk.injEq, List.cons.injEq, Value.int.injEq, Value.slice.injEq, Value.string.injEq, true_and, and_true] at e
  obtain ⟨e0, e1, e2, e3, ⟨rfl, rfl, rfl⟩, rfl, rfl, rfl⟩ := e
  exact ⟨e0.symm, e1.symm, e2.symm, e3.symm, h1, h2⟩
/-- A result's value, its box written behind it. -/
theorem rv_put {w0 w w1 w2 W : World} {r : RT} {x : List UInt8} {i j k : Int} {A A' : Option Addr} {m c m' c' g b : Nat} (h : RV w r w1 (.agg #[.string (bs x), .int .i64 i, .int .i64 j, .int .i64 k, .slice A m c, .slice A' m' c'])) (ho : Only (· = g) w1 w2) (hO : Only (· = b) w2 W)
    (hg : g < w.heap.size) (hb : b < w.heap.size) (h0 : w0.heap.size ≤ w.heap.size) : RV w0 r W (.agg #[.string (bs x), .int .i64 i, .int .i64 j, .int .i64 k, .slice A m c, .slice A' m' c']) := by
  obtain ⟨e0, e1, e2, e3, h1, h2⟩ := rv_rd h
  rw [← e0, ← e1, ← e2, ← e3]
  exact ⟨A, m, c, A', m', c', rfl, ((h1.only ho (fun k hk => by omega)).only hO (fun k hk => by omega)).sub (fun k hk => Nat.lt_of_lt_of_le hk h0), ((h2.only ho (fun k hk => by omega)).only hO (fun k hk => by omega)).sub (fun k hk => Nat.lt_of_lt_of_le hk h0)⟩
theorem cv_put {w0 w w1 w2 W : World} {r : CT} {i j k : Int} {A : Option Addr} {m c g b : Nat} (h : CV w r w1 (.agg #[.int .i64 i, .int .i64 j, .int .i64 k, .slice A m c])) (ho : Only (· = g) w1 w2) (hO : Only (· = b) w2 W)
    (hg : g < w.heap.size) (hb : b < w.heap.size) (h0 : w0.heap.size ≤ w.heap.size) : CV w0 r W (.agg #[.int .i64 i, .int .i64 j, .int .i64 k, .slice A m c]) := by
  obtain ⟨e, h1⟩ := cv_read h
  rw [e]
  exact ⟨A, m, c, rfl, ((h1.only ho (fun k hk => by omega)).only hO (fun k hk => by omega)).sub (fun k hk => Nat.lt_of_lt_of_le hk h0)⟩
set_option maxHeartbeats 4000000 in
set_option maxRecDepth 100000 in
theorem ztopR_any (A : Option Addr) (n c : Nat) (l : List UInt8) (w : World) (h : Rd w w.heap.size 1 A n c (l.map vb)) (hn : n ≤ 30000) :
    Calls Tryz.prog 14 #[.slice A n c] w (TopPost w (topRules l) (RV w)) := by
  have hlen := h.blen
  subst hlen
  have hb0 : Below w.heap.size w (w.alloc (.cells #[.string ⟨#[]⟩, .int .i64 0, .int .i64 0, .int .i64 0, .slice none 0 0, .slice none 0 0] 28)) := (Below.refl _ _).alloc (Nat.le_refl _) _
  have HX0 := Lib.hid (Blk.new w 28 #[.string ⟨#[]⟩, .int .i64 0, .int .i64 0, .int .i64 0, .slice none 0 0, .slice none 0 0])
  have HS := Lib.hid (zstart_any A l.length c l _ ((h.below hb0).more (by simp)) hn)
  have HB0 := Lib.hid hb0
  have HT := Lib.hid (tok_ok hn)
  have hfld : ∀ (x y z : Value) (w : World), Sem.run Tryz.prog (Instr.field 53 (.agg #[x, y, z]) 2) w = .ok z w := fun _ _ _ _ => rfl
  clear h hb0
  go_enter Tryz.func14, Tryz.ntmps14
  go_wp2_with (fail)
  refine HS.out.mono ?_
  rintro e w1 ⟨hb1, ⟨q, rr, hq, rfl⟩ | ⟨hnil, B, g, A1, c1, rfl, hg, hQ⟩⟩
  · have hcode : q.code = 60 := lex_code l q (by rw [hq]; simp)
    have HE := Lib.hid (show topRules l = (RT.zero, q.at_, 60) by rw [← hcode]; exact top_lex hq)
    have hcd : (q.code != 0) = true := by rw [hcode]; rfl
    have HB1 := Lib.hid (HB0.out.trans (hb1.mono HB0.out.size))
    have HX1 := Lib.hid (HX0.out.below hb1 HX0.out.lt)
    have lx := HX1.out.lt
    have x0 : w1.cell? ⟨w.heap.size, 0, none⟩ = some (.string ⟨#[]⟩) := by rw [HX1.out.cell]; rfl
    have f0 := HX1.out.frozen 0
    have x1 : w1.cell? ⟨w.heap.size, 1, none⟩ = some (.int .i64 0) := by rw [HX1.out.cell]; rfl
    have f1 := HX1.out.frozen 1
    have x2 : w1.cell? ⟨w.heap.size, 2, none⟩ = some (.int .i64 0) := by rw [HX1.out.cell]; rfl
    have f2 := HX1.out.frozen 2
    have x3 : w1.cell? ⟨w.heap.size, 3, none⟩ = some (.int .i64 0) := by rw [HX1.out.cell]; rfl
    have f3 := HX1.out.frozen 3
    have x4 : w1.cell? ⟨w.heap.size, 4, none⟩ = some (.slice none 0 0) := by rw [HX1.out.cell]; rfl
    have f4 := HX1.out.frozen 4
    have x5 : w1.cell? ⟨w.heap.size, 5, none⟩ = some (.slice none 0 0) := by rw [HX1.out.cell]; rfl
    have f5 := HX1.out.frozen 5
    clear hb1 hq HX0 HB0 HS
    go_wp2_with (fail)
    first | (refine calls_named ?_; intro W hW) | (refine body_named ?_; intro W hW) | (refine wpList_named ?_; intro W hW) | (refine wp_named ?_; intro W hW)
    have hk : Blk W w.heap.size 28 #[.string ⟨#[]⟩, .int .i64 0, .int .i64 0, .int .i64 0, .slice none 0 0, .slice none 0 0] := by rw [← hW]; exact ((((((HX1.out.set 0 (.string ⟨#[]⟩)).set 1 (.int .i64 0)).set 2 (.int .i64 0)).set 3 (.int .i64 0)).set 4 (.slice none 0 0)).set 5 (.slice none 0 0))
    have hO : Only (· = w.heap.size) w1 W := by rw [← hW]; exact ((((((Only.refl _ _).trans only_y).trans only_y).trans only_y).trans only_y).trans only_y).trans only_y
    clear hW x0 f0 x1 f1 x2 f2 x3 f3 x4 f4 x5 f5
    have y0 : W.cell? ⟨w.heap.size, 0, none⟩ = some (.string ⟨#[]⟩) := by rw [hk.cell]; rfl
    have y1 : W.cell? ⟨w.heap.size, 1, none⟩ = some (.int .i64 0) := by rw [hk.cell]; rfl
    have y2 : W.cell? ⟨w.heap.size, 2, none⟩ = some (.int .i64 0) := by rw [hk.cell]; rfl
    have y3 : W.cell? ⟨w.heap.size, 3, none⟩ = some (.int .i64 0) := by rw [hk.cell]; rfl
    have y4 : W.cell? ⟨w.heap.size, 4, none⟩ = some (.slice none 0 0) := by rw [hk.cell]; rfl
    have y5 : W.cell? ⟨w.heap.size, 5, none⟩ = some (.slice none 0 0) := by rw [hk.cell]; rfl
    refine bodyPost_ret (by simp [results, Tryz.results14, go_sem, Act.put, y0, y1, y2, y3, y4, y5]; try rfl) rfl ?_
    unfold TopPost
    rw [HE.out]
    exact ⟨hO.below HB1.out HB1.out.size (fun k hk => by omega), _, rfl, ⟨none, 0, 0, none, 0, 0, rfl, RepT.nil, RepZ.nil⟩⟩
  · have HN := Lib.hid hnil
    have HQ := Lib.hid hQ
    have HB1 := Lib.hid (HB0.out.trans (hb1.mono HB0.out.size))
    have HX1 := Lib.hid (HX0.out.below hb1 HX0.out.lt)
    have hg1 : g < w1.heap.size := hQ.lt
    have hgx : w.heap.size < g := by simp only [World.size_alloc] at hg; omega
    clear hnil hQ hb1 HS HX0 HB0
    go_wp2_with (fail)
    refine (zrules_any B g A1 (lex l).1.length c1 (lex l).1 (.ok () 0) w1 HQ.out HT.out (Nat.zero_le _)).mono ?_
    rw [qbind0]
    rintro e w2 ⟨ho2, hq2, _, rfl, ⟨sn, i1, i2, i3, B1, B2, m1, d1, m2, d2, rfl⟩, hv2⟩
    have HO2 := Lib.hid ho2
    have HQ2 := Lib.hid hq2
    have HV2 := Lib.hid hv2
    have HX2 := Lib.hid (HX1.out.only ho2 (by omega))
    have hg2 : g < w2.heap.size := hq2.lt
    clear ho2 hq2 hv2 HQ HX1
    obtain ⟨R, eR⟩ : ∃ R, R = prules (lex l).1 0 := ⟨_, rfl⟩
    have ER := Lib.hid eR
    rw [← eR] at HQ2 HV2
    clear eR
    cases R with
    | bad m =>
      have HE := Lib.hid (show topRules l = (RT.zero, (nx (lex l).1 m).at_, 130) from top_bad HN.out ER.out.symm)
      have hm : m ≤ 65600 := by
        have h1 := prules_in (lex l).1 0
        rw [← ER.out] at h1
        have h2 := h1.2
        have h3 := HT.out.len
        omega
      have c2 : w2.cell? ⟨g, 2, none⟩ = some (.bool true) := HQ2.out.bad
      go_wp2_with (fail)
      have hb3 : Below w2.heap.size w2 (w2.alloc (.cells #[.string (bs sn), .int .i64 i1, .int .i64 i2, .int .i64 i3, .slice B1 m1 d1, .slice B2 m2 d2] 28)) := (Below.refl _ _).alloc (Nat.le_refl _) _
      have HR3 := Lib.hid (Blk.new w2 28 #[.string (bs sn), .int .i64 i1, .int .i64 i2, .int .i64 i3, .slice B1 m1 d1, .slice B2 m2 d2])
      have HB2 := HO2.out.below HB1.out HB1.out.size (fun k hk => by omega)
      have HB3 := Lib.hid (HB2.trans (hb3.mono HB2.size))
      have HX3 := Lib.hid (HX2.out.below hb3 HX2.out.lt)
      have HQ3 := Lib.hid (HQ2.out.below hb3)
      have OV3 := Lib.hid (Only.of_below (S := (· = g)) hb3)
      clear hb3 HB2
      generalize hw3 : w2.alloc (.cells #[.string (bs sn), .int .i64 i1, .int .i64 i2, .int .i64 i3, .slice B1 m1 d1, .slice B2 m2 d2] 28) = w3 at *
      clear hw3
      obtain ⟨⟨kk, tx, pa⟩, ht⟩ : ∃ t, nx (lex l).1 m = t := ⟨_, rfl⟩
      rw [ht] at HE
      have CN := znext_any B g A1 (lex l).1.length c1 (lex l).1 (.bad m) w3 HQ3.out (show m ≤ 70000 by omega)
      rw [show nx (lex l).1 (posA (.bad m : Res Unit)) = _ from ht] at CN
      refine CN.mono ?_
      clear CN ht
      rintro e w9 ⟨rfl, hb9⟩
      have HB9 := Lib.hid (HB3.out.trans (hb9.mono HB3.out.size))
      have HX9 := Lib.hid (HX3.out.below hb9 HX3.out.lt)
      have lx := HX9.out.lt
      have x0 : w9.cell? ⟨w.heap.size, 0, none⟩ = some (.string ⟨#[]⟩) := by rw [HX9.out.cell]; rfl
      have f0 := HX9.out.frozen 0
      have x1 : w9.cell? ⟨w.heap.size, 1, none⟩ = some (.int .i64 0) := by rw [HX9.out.cell]; rfl
      have f1 := HX9.out.frozen 1
      have x2 : w9.cell? ⟨w.heap.size, 2, none⟩ = some (.int .i64 0) := by rw [HX9.out.cell]; rfl
      have f2 := HX9.out.frozen 2
      have x3 : w9.cell? ⟨w.heap.size, 3, none⟩ = some (.int .i64 0) := by rw [HX9.out.cell]; rfl
      have f3 := HX9.out.frozen 3
      have x4 : w9.cell? ⟨w.heap.size, 4, none⟩ = some (.slice none 0 0) := by rw [HX9.out.cell]; rfl
      have f4 := HX9.out.frozen 4
      have x5 : w9.cell? ⟨w.heap.size, 5, none⟩ = some (.slice none 0 0) := by rw [HX9.out.cell]; rfl
      have f5 := HX9.out.frozen 5
      clear hb9
      unfold tokV
      dsimp only
      go_wp2_with (fail)
      first | (refine calls_named ?_; intro W hW) | (refine body_named ?_; intro W hW) | (refine wpList_named ?_; intro W hW) | (refine wp_named ?_; intro W hW)
      have hk : Blk W w.heap.size 28 #[.string ⟨#[]⟩, .int .i64 0, .int .i64 0, .int .i64 0, .slice none 0 0, .slice none 0 0] := by rw [← hW]; exact ((((((HX9.out.set 0 (.string ⟨#[]⟩)).set 1 (.int .i64 0)).set 2 (.int .i64 0)).set 3 (.int .i64 0)).set 4 (.slice none 0 0)).set 5 (.slice none 0 0))
      have hO : Only (· = w.heap.size) w9 W := by rw [← hW]; exact ((((((Only.refl _ _).trans only_y).trans only_y).trans only_y).trans only_y).trans only_y).trans only_y
      clear hW x0 f0 x1 f1 x2 f2 x3 f3 x4 f4 x5 f5
      have y0 : W.cell? ⟨w.heap.size, 0, none⟩ = some (.string ⟨#[]⟩) := by rw [hk.cell]; rfl
      have y1 : W.cell? ⟨w.heap.size, 1, none⟩ = some (.int .i64 0) := by rw [hk.cell]; rfl
      have y2 : W.cell? ⟨w.heap.size, 2, none⟩ = some (.int .i64 0) := by rw [hk.cell]; rfl
      have y3 : W.cell? ⟨w.heap.size, 3, none⟩ = some (.int .i64 0) := by rw [hk.cell]; rfl
      have y4 : W.cell? ⟨w.heap.size, 4, none⟩ = some (.slice none 0 0) := by rw [hk.cell]; rfl
      have y5 : W.cell? ⟨w.heap.size, 5, none⟩ = some (.slice none 0 0) := by rw [hk.cell]; rfl
      refine bodyPost_ret (by simp [results, Tryz.results14, go_sem, Act.put, y0, y1, y2, y3, y4, y5]; try rfl) rfl ?_
      unfold TopPost
      rw [HE.out]
      exact ⟨hO.below HB9.out HB9.out.size (fun k hk => by omega), _, rfl, ⟨none, 0, 0, none, 0, 0, rfl, RepT.nil, RepZ.nil⟩⟩
    | ok x m =>
      have hm : m ≤ 65600 := by
        have h1 := prules_in (lex l).1 0
        rw [← ER.out] at h1
        have h2 := h1.2
        have h3 := HT.out.len
        omega
      have c2 : w2.cell? ⟨g, 2, none⟩ = some (.bool false) := HQ2.out.bad
      by_cases hk : (nx (lex l).1 m).kind = 5
      · have HE := Lib.hid (show topRules l = (x, 0, 0) from topOf_mk HN.out ER.out.symm hk)
        have CE := zend_any B g A1 (lex l).1.length c1 (lex l).1 m
        rw [if_pos hk] at CE
        go_wp2_with (fail)
        have hb3 : Below w2.heap.size w2 (w2.alloc (.cells #[.string (bs sn), .int .i64 i1, .int .i64 i2, .int .i64 i3, .slice B1 m1 d1, .slice B2 m2 d2] 28)) := (Below.refl _ _).alloc (Nat.le_refl _) _
        have HR3 := Lib.hid (Blk.new w2 28 #[.string (bs sn), .int .i64 i1, .int .i64 i2, .int .i64 i3, .slice B1 m1 d1, .slice B2 m2 d2])
        have HB2 := HO2.out.below HB1.out HB1.out.size (fun k hk => by omega)
        have HB3 := Lib.hid (HB2.trans (hb3.mono HB2.size))
        have HX3 := Lib.hid (HX2.out.below hb3 HX2.out.lt)
        have HQ3 := Lib.hid (HQ2.out.below hb3)
        have OV3 := Lib.hid (Only.of_below (S := (· = g)) hb3)
        clear hb3 HB2
        generalize hw3 : w2.alloc (.cells #[.string (bs sn), .int .i64 i1, .int .i64 i2, .int .i64 i3, .slice B1 m1 d1, .slice B2 m2 d2] 28) = w3 at *
        clear hw3
        refine (CE w3 HQ3.out hm).mono ?_
        clear CE
        rintro e w4 ⟨ho4, hq4, _, rfl, rfl, _⟩
        have HQ4 := Lib.hid hq4
        have HB4 := Lib.hid (ho4.below HB3.out HB3.out.size (fun k hk => by omega))
        have HX4 := Lib.hid (HX3.out.only ho4 (by omega))
        have HR4 := Lib.hid (HR3.out.only ho4 (by omega))
        have OV4 := Lib.hid (OV3.out.trans ho4)
        have hg4 : g < w4.heap.size := hq4.lt
        clear ho4 hq4 c2
        have c2 : w4.cell? ⟨g, 2, none⟩ = some (.bool false) := HQ4.out.bad
        have lx := HX4.out.lt
        have lr := HR4.out.lt
        have x0 : w4.cell? ⟨w.heap.size, 0, none⟩ = some (.string ⟨#[]⟩) := by rw [HX4.out.cell]; rfl
        have f0 := HX4.out.frozen 0
        have x1 : w4.cell? ⟨w.heap.size, 1, none⟩ = some (.int .i64 0) := by rw [HX4.out.cell]; rfl
        have f1 := HX4.out.frozen 1
        have x2 : w4.cell? ⟨w.heap.size, 2, none⟩ = some (.int .i64 0) := by rw [HX4.out.cell]; rfl
        have f2 := HX4.out.frozen 2
        have x3 : w4.cell? ⟨w.heap.size, 3, none⟩ = some (.int .i64 0) := by rw [HX4.out.cell]; rfl
        have f3 := HX4.out.frozen 3
        have x4 : w4.cell? ⟨w.heap.size, 4, none⟩ = some (.slice none 0 0) := by rw [HX4.out.cell]; rfl
        have f4 := HX4.out.frozen 4
        have x5 : w4.cell? ⟨w.heap.size, 5, none⟩ = some (.slice none 0 0) := by rw [HX4.out.cell]; rfl
        have f5 := HX4.out.frozen 5
        have z0 : w4.cell? ⟨w2.heap.size, 0, none⟩ = some (.string (bs sn)) := by rw [HR4.out.cell]; rfl
        have z1 : w4.cell? ⟨w2.heap.size, 1, none⟩ = some (.int .i64 i1) := by rw [HR4.out.cell]; rfl
        have z2 : w4.cell? ⟨w2.heap.size, 2, none⟩ = some (.int .i64 i2) := by rw [HR4.out.cell]; rfl
        have z3 : w4.cell? ⟨w2.heap.size, 3, none⟩ = some (.int .i64 i3) := by rw [HR4.out.cell]; rfl
        have z4 : w4.cell? ⟨w2.heap.size, 4, none⟩ = some (.slice B1 m1 d1) := by rw [HR4.out.cell]; rfl
        have z5 : w4.cell? ⟨w2.heap.size, 5, none⟩ = some (.slice B2 m2 d2) := by rw [HR4.out.cell]; rfl
        have hne : ¬ w.heap.size = w2.heap.size := by have := HX2.out.lt; omega
        go_wp2_with (fail)
        first | (refine calls_named ?_; intro W hW) | (refine body_named ?_; intro W hW) | (refine wpList_named ?_; intro W hW) | (refine wp_named ?_; intro W hW)
        have hk : Blk W w.heap.size 28 #[.string (bs sn), .int .i64 i1, .int .i64 i2, .int .i64 i3, .slice B1 m1 d1, .slice B2 m2 d2] := by rw [← hW]; exact ((((((HX4.out.set 0 (.string (bs sn))).set 1 (.int .i64 i1)).set 2 (.int .i64 i2)).set 3 (.int .i64 i3)).set 4 (.slice B1 m1 d1)).set 5 (.slice B2 m2 d2))
        have hO : Only (· = w.heap.size) w4 W := by rw [← hW]; exact ((((((Only.refl _ _).trans only_y).trans only_y).trans only_y).trans only_y).trans only_y).trans only_y
        clear hW x0 f0 x1 f1 x2 f2 x3 f3 x4 f4 x5 f5
        have y0 : W.cell? ⟨w.heap.size, 0, none⟩ = some (.string (bs sn)) := by rw [hk.cell]; rfl
        have y1 : W.cell? ⟨w.heap.size, 1, none⟩ = some (.int .i64 i1) := by rw [hk.cell]; rfl
        have y2 : W.cell? ⟨w.heap.size, 2, none⟩ = some (.int .i64 i2) := by rw [hk.cell]; rfl
        have y3 : W.cell? ⟨w.heap.size, 3, none⟩ = some (.int .i64 i3) := by rw [hk.cell]; rfl
        have y4 : W.cell? ⟨w.heap.size, 4, none⟩ = some (.slice B1 m1 d1) := by rw [hk.cell]; rfl
        have y5 : W.cell? ⟨w.heap.size, 5, none⟩ = some (.slice B2 m2 d2) := by rw [hk.cell]; rfl
        refine bodyPost_ret (by simp [results, Tryz.results14, go_sem, Act.put, y0, y1, y2, y3, y4, y5]; try rfl) rfl ?_
        unfold TopPost
        rw [HE.out]
        exact ⟨hO.below HB4.out HB4.out.size (fun k hk => by omega), _, rfl, rv_put (HV2.out x m rfl) OV4.out hO hg1 (by have := HX2.out.lt; omega) HB1.out.size⟩
      · have HE := Lib.hid (show topRules l = (RT.zero, (nx (lex l).1 m).at_, 130) from top_end HN.out ER.out.symm hk)
        have CE := zend_any B g A1 (lex l).1.length c1 (lex l).1 m
        rw [if_neg hk] at CE
        go_wp2_with (fail)
        have hb3 : Below w2.heap.size w2 (w2.alloc (.cells #[.string (bs sn), .int .i64 i1, .int .i64 i2, .int .i64 i3, .slice B1 m1 d1, .slice B2 m2 d2] 28)) := (Below.refl _ _).alloc (Nat.le_refl _) _
        have HR3 := Lib.hid (Blk.new w2 28 #[.string (bs sn), .int .i64 i1, .int .i64 i2, .int .i64 i3, .slice B1 m1 d1, .slice B2 m2 d2])
        have HB2 := HO2.out.below HB1.out HB1.out.size (fun k hk => by omega)
        have HB3 := Lib.hid (HB2.trans (hb3.mono HB2.size))
        have HX3 := Lib.hid (HX2.out.below hb3 HX2.out.lt)
        have HQ3 := Lib.hid (HQ2.out.below hb3)
        have OV3 := Lib.hid (Only.of_below (S := (· = g)) hb3)
        clear hb3 HB2
        generalize hw3 : w2.alloc (.cells #[.string (bs sn), .int .i64 i1, .int .i64 i2, .int .i64 i3, .slice B1 m1 d1, .slice B2 m2 d2] 28) = w3 at *
        clear hw3
        refine (CE w3 HQ3.out hm).mono ?_
        clear CE
        rintro e w4 ⟨ho4, hq4, _, rfl, rfl, _⟩
        have HQ4 := Lib.hid hq4
        have HB4 := Lib.hid (ho4.below HB3.out HB3.out.size (fun k hk => by omega))
        have HX4 := Lib.hid (HX3.out.only ho4 (by omega))
        have HR4 := Lib.hid (HR3.out.only ho4 (by omega))
        have OV4 := Lib.hid (OV3.out.trans ho4)
        have hg4 : g < w4.heap.size := hq4.lt
        clear ho4 hq4 c2
        have c2 : w4.cell? ⟨g, 2, none⟩ = some (.bool true) := HQ4.out.bad
        go_wp2_with (fail)
        obtain ⟨⟨kk, tx, pa⟩, ht⟩ : ∃ t, nx (lex l).1 m = t := ⟨_, rfl⟩
        rw [ht] at HE
        have CN := znext_any B g A1 (lex l).1.length c1 (lex l).1 (.bad m) w4 HQ4.out (show m ≤ 70000 by omega)
        rw [show nx (lex l).1 (posA (.bad m : Res Unit)) = _ from ht] at CN
        refine CN.mono ?_
        clear CN ht
        rintro e w9 ⟨rfl, hb9⟩
        have HB9 := Lib.hid (HB4.out.trans (hb9.mono HB4.out.size))
        have HX9 := Lib.hid (HX4.out.below hb9 HX4.out.lt)
        have lx := HX9.out.lt
        have x0 : w9.cell? ⟨w.heap.size, 0, none⟩ = some (.string ⟨#[]⟩) := by rw [HX9.out.cell]; rfl
        have f0 := HX9.out.frozen 0
        have x1 : w9.cell? ⟨w.heap.size, 1, none⟩ = some (.int .i64 0) := by rw [HX9.out.cell]; rfl
        have f1 := HX9.out.frozen 1
        have x2 : w9.cell? ⟨w.heap.size, 2, none⟩ = some (.int .i64 0) := by rw [HX9.out.cell]; rfl
        have f2 := HX9.out.frozen 2
        have x3 : w9.cell? ⟨w.heap.size, 3, none⟩ = some (.int .i64 0) := by rw [HX9.out.cell]; rfl
        have f3 := HX9.out.frozen 3
        have x4 : w9.cell? ⟨w.heap.size, 4, none⟩ = some (.slice none 0 0) := by rw [HX9.out.cell]; rfl
        have f4 := HX9.out.frozen 4
        have x5 : w9.cell? ⟨w.heap.size, 5, none⟩ = some (.slice none 0 0) := by rw [HX9.out.cell]; rfl
        have f5 := HX9.out.frozen 5
        clear hb9
        unfold tokV
        dsimp only
        go_wp2_with (fail)
        first | (refine calls_named ?_; intro W hW) | (refine body_named ?_; intro W hW) | (refine wpList_named ?_; intro W hW) | (refine wp_named ?_; intro W hW)
        have hk : Blk W w.heap.size 28 #[.string ⟨#[]⟩, .int .i64 0, .int .i64 0, .int .i64 0, .slice none 0 0, .slice none 0 0] := by rw [← hW]; exact ((((((HX9.out.set 0 (.string ⟨#[]⟩)).set 1 (.int .i64 0)).set 2 (.int .i64 0)).set 3 (.int .i64 0)).set 4 (.slice none 0 0)).set 5 (.slice none 0 0))
        have hO : Only (· = w.heap.size) w9 W := by rw [← hW]; exact ((((((Only.refl _ _).trans only_y).trans only_y).trans only_y).trans only_y).trans only_y).trans only_y
        clear hW x0 f0 x1 f1 x2 f2 x3 f3 x4 f4 x5 f5
        have y0 : W.cell? ⟨w.heap.size, 0, none⟩ = some (.string ⟨#[]⟩) := by rw [hk.cell]; rfl
        have y1 : W.cell? ⟨w.heap.size, 1, none⟩ = some (.int .i64 0) := by rw [hk.cell]; rfl
        have y2 : W.cell? ⟨w.heap.size, 2, none⟩ = some (.int .i64 0) := by rw [hk.cell]; rfl
        have y3 : W.cell? ⟨w.heap.size, 3, none⟩ = some (.int .i64 0) := by rw [hk.cell]; rfl
        have y4 : W.cell? ⟨w.heap.size, 4, none⟩ = some (.slice none 0 0) := by rw [hk.cell]; rfl
        have y5 : W.cell? ⟨w.heap.size, 5, none⟩ = some (.slice none 0 0) := by rw [hk.cell]; rfl
        refine bodyPost_ret (by simp [results, Tryz.results14, go_sem, Act.put, y0, y1, y2, y3, y4, y5]; try rfl) rfl ?_
        unfold TopPost
        rw [HE.out]
        exact ⟨hO.below HB9.out HB9.out.size (fun k hk => by omega), _, rfl, ⟨none, 0, 0, none, 0, 0, rfl, RepT.nil, RepZ.nil⟩⟩
set_option maxHeartbeats 4000000 in
set_option maxRecDepth 100000 in
theorem ztopC_any (A : Option Addr) (n c : Nat) (l : List UInt8) (w : World) (h : Rd w w.heap.size 1 A n c (l.map vb)) (hn : n ≤ 30000) :
    Calls Tryz.prog 17 #[.slice A n c] w (TopPost w (topCond l) (CV w)) := by
  have hlen := h.blen
  subst hlen
  have hb0 : Below w.heap.size w (w.alloc (.cells #[.int .i64 0, .int .i64 0, .int .i64 0, .slice none 0 0] 35)) := (Below.refl _ _).alloc (Nat.le_refl _) _
  have HX0 := Lib.hid (Blk.new w 35 #[.int .i64 0, .int .i64 0, .int .i64 0, .slice none 0 0])
  have HS := Lib.hid (zstart_any A l.length c l _ ((h.below hb0).more (by simp)) hn)
  have HB0 := Lib.hid hb0
  have HT := Lib.hid (tok_ok hn)
  have hfld : ∀ (x y z : Value) (w : World), Sem.run Tryz.prog (Instr.field 53 (.agg #[x, y, z]) 2) w = .ok z w := fun _ _ _ _ => rfl
  clear h hb0
  go_enter Tryz.func17, Tryz.ntmps17
  go_wp2_with (fail)
  refine HS.out.mono ?_
  rintro e w1 ⟨hb1, ⟨q, rr, hq, rfl⟩ | ⟨hnil, B, g, A1, c1, rfl, hg, hQ⟩⟩
  · have hcode : q.code = 60 := lex_code l q (by rw [hq]; simp)
    have HE := Lib.hid (show topCond l = (CT.zero, q.at_, 60) by rw [← hcode]; exact top_lex hq)
    have hcd : (q.code != 0) = true := by rw [hcode]; rfl
    have HB1 := Lib.hid (HB0.out.trans (hb1.mono HB0.out.size))
    have HX1 := Lib.hid (HX0.out.below hb1 HX0.out.lt)
    have lx := HX1.out.lt
    have x0 : w1.cell? ⟨w.heap.size, 0, none⟩ = some (.int .i64 0) := by rw [HX1.out.cell]; rfl
    have f0 := HX1.out.frozen 0
    have x1 : w1.cell? ⟨w.heap.size, 1, none⟩ = some (.int .i64 0) := by rw [HX1.out.cell]; rfl
    have f1 := HX1.out.frozen 1
    have x2 : w1.cell? ⟨w.heap.size, 2, none⟩ = some (.int .i64 0) := by rw [HX1.out.cell]; rfl
    have f2 := HX1.out.frozen 2
    have x3 : w1.cell? ⟨w.heap.size, 3, none⟩ = some (.slice none 0 0) := by rw [HX1.out.cell]; rfl
    have f3 := HX1.out.frozen 3
    clear hb1 hq HX0 HB0 HS
    go_wp2_with (fail)
    first | (refine calls_named ?_; intro W hW) | (refine body_named ?_; intro W hW) | (refine wpList_named ?_; intro W hW) | (refine wp_named ?_; intro W hW)
    have hk : Blk W w.heap.size 35 #[.int .i64 0, .int .i64 0, .int .i64 0, .slice none 0 0] := by rw [← hW]; exact ((((HX1.out.set 0 (.int .i64 0)).set 1 (.int .i64 0)).set 2 (.int .i64 0)).set 3 (.slice none 0 0))
    have hO : Only (· = w.heap.size) w1 W := by rw [← hW]; exact ((((Only.refl _ _).trans only_y).trans only_y).trans only_y).trans only_y
    clear hW x0 f0 x1 f1 x2 f2 x3 f3
    have y0 : W.cell? ⟨w.heap.size, 0, none⟩ = some (.int .i64 0) := by rw [hk.cell]; rfl
    have y1 : W.cell? ⟨w.heap.size, 1, none⟩ = some (.int .i64 0) := by rw [hk.cell]; rfl
    have y2 : W.cell? ⟨w.heap.size, 2, none⟩ = some (.int .i64 0) := by rw [hk.cell]; rfl
    have y3 : W.cell? ⟨w.heap.size, 3, none⟩ = some (.slice none 0 0) := by rw [hk.cell]; rfl
    refine bodyPost_ret (by simp [results, Tryz.results17, go_sem, Act.put, y0, y1, y2, y3]; try rfl) rfl ?_
    unfold TopPost
    rw [HE.out]
    exact ⟨hO.below HB1.out HB1.out.size (fun k hk => by omega), _, rfl, ⟨none, 0, 0, rfl, RepH.nil⟩⟩
  · have HN := Lib.hid hnil
    have HQ := Lib.hid hQ
    have HB1 := Lib.hid (HB0.out.trans (hb1.mono HB0.out.size))
    have HX1 := Lib.hid (HX0.out.below hb1 HX0.out.lt)
    have hg1 : g < w1.heap.size := hQ.lt
    have hgx : w.heap.size < g := by simp only [World.size_alloc] at hg; omega
    clear hnil hQ hb1 HS HX0 HB0
    go_wp2_with (fail)
    refine (zcond_any B g A1 (lex l).1.length c1 (lex l).1 (.ok () 0) w1 HQ.out HT.out (Nat.zero_le _)).mono ?_
    rw [qbind0]
    rintro e w2 ⟨ho2, hq2, _, rfl, ⟨i1, i2, i3, B1, m1, d1, rfl⟩, hv2⟩
    have HO2 := Lib.hid ho2
    have HQ2 := Lib.hid hq2
    have HV2 := Lib.hid hv2
    have HX2 := Lib.hid (HX1.out.only ho2 (by omega))
    have hg2 : g < w2.heap.size := hq2.lt
    clear ho2 hq2 hv2 HQ HX1
    obtain ⟨R, eR⟩ : ∃ R, R = pcond (lex l).1 (lex l).1.length 0 := ⟨_, rfl⟩
    have ER := Lib.hid eR
    rw [← eR] at HQ2 HV2
    clear eR
    cases R with
    | bad m =>
      have HE := Lib.hid (show topCond l = (CT.zero, (nx (lex l).1 m).at_, 130) from top_bad HN.out ER.out.symm)
      have hm : m ≤ 65600 := by
        have h1 := pcond_in (lex l).1 (lex l).1.length 0
        rw [← ER.out] at h1
        have h2 := h1.2
        have h3 := HT.out.len
        omega
      have c2 : w2.cell? ⟨g, 2, none⟩ = some (.bool true) := HQ2.out.bad
      go_wp2_with (fail)
      have hb3 : Below w2.heap.size w2 (w2.alloc (.cells #[.int .i64 i1, .int .i64 i2, .int .i64 i3, .slice B1 m1 d1] 35)) := (Below.refl _ _).alloc (Nat.le_refl _) _
      have HR3 := Lib.hid (Blk.new w2 35 #[.int .i64 i1, .int .i64 i2, .int .i64 i3, .slice B1 m1 d1])
      have HB2 := HO2.out.below HB1.out HB1.out.size (fun k hk => by omega)
      have HB3 := Lib.hid (HB2.trans (hb3.mono HB2.size))
      have HX3 := Lib.hid (HX2.out.below hb3 HX2.out.lt)
      have HQ3 := Lib.hid (HQ2.out.below hb3)
      have OV3 := Lib.hid (Only.of_below (S := (· = g)) hb3)
      clear hb3 HB2
      generalize hw3 : w2.alloc (.cells #[.int .i64 i1, .int .i64 i2, .int .i64 i3, .slice B1 m1 d1] 35) = w3 at *
      clear hw3
      obtain ⟨⟨kk, tx, pa⟩, ht⟩ : ∃ t, nx (lex l).1 m = t := ⟨_, rfl⟩
      rw [ht] at HE
      have CN := znext_any B g A1 (lex l).1.length c1 (lex l).1 (.bad m) w3 HQ3.out (show m ≤ 70000 by omega)
      rw [show nx (lex l).1 (posA (.bad m : Res Unit)) = _ from ht] at CN
      refine CN.mono ?_
      clear CN ht
      rintro e w9 ⟨rfl, hb9⟩
      have HB9 := Lib.hid (HB3.out.trans (hb9.mono HB3.out.size))
      have HX9 := Lib.hid (HX3.out.below hb9 HX3.out.lt)
      have lx := HX9.out.lt
      have x0 : w9.cell? ⟨w.heap.size, 0, none⟩ = some (.int .i64 0) := by rw [HX9.out.cell]; rfl
      have f0 := HX9.out.frozen 0
      have x1 : w9.cell? ⟨w.heap.size, 1, none⟩ = some (.int .i64 0) := by rw [HX9.out.cell]; rfl
      have f1 := HX9.out.frozen 1
      have x2 : w9.cell? ⟨w.heap.size, 2, none⟩ = some (.int .i64 0) := by rw [HX9.out.cell]; rfl
      have f2 := HX9.out.frozen 2
      have x3 : w9.cell? ⟨w.heap.size, 3, none⟩ = some (.slice none 0 0) := by rw [HX9.out.cell]; rfl
      have f3 := HX9.out.frozen 3
      clear hb9
      unfold tokV
      dsimp only
      go_wp2_with (fail)
      first | (refine calls_named ?_; intro W hW) | (refine body_named ?_; intro W hW) | (refine wpList_named ?_; intro W hW) | (refine wp_named ?_; intro W hW)
      have hk : Blk W w.heap.size 35 #[.int .i64 0, .int .i64 0, .int .i64 0, .slice none 0 0] := by rw [← hW]; exact ((((HX9.out.set 0 (.int .i64 0)).set 1 (.int .i64 0)).set 2 (.int .i64 0)).set 3 (.slice none 0 0))
      have hO : Only (· = w.heap.size) w9 W := by rw [← hW]; exact ((((Only.refl _ _).trans only_y).trans only_y).trans only_y).trans only_y
      clear hW x0 f0 x1 f1 x2 f2 x3 f3
      have y0 : W.cell? ⟨w.heap.size, 0, none⟩ = some (.int .i64 0) := by rw [hk.cell]; rfl
      have y1 : W.cell? ⟨w.heap.size, 1, none⟩ = some (.int .i64 0) := by rw [hk.cell]; rfl
      have y2 : W.cell? ⟨w.heap.size, 2, none⟩ = some (.int .i64 0) := by rw [hk.cell]; rfl
      have y3 : W.cell? ⟨w.heap.size, 3, none⟩ = some (.slice none 0 0) := by rw [hk.cell]; rfl
      refine bodyPost_ret (by simp [results, Tryz.results17, go_sem, Act.put, y0, y1, y2, y3]; try rfl) rfl ?_
      unfold TopPost
      rw [HE.out]
      exact ⟨hO.below HB9.out HB9.out.size (fun k hk => by omega), _, rfl, ⟨none, 0, 0, rfl, RepH.nil⟩⟩
    | ok x m =>
      have hm : m ≤ 65600 := by
        have h1 := pcond_in (lex l).1 (lex l).1.length 0
        rw [← ER.out] at h1
        have h2 := h1.2
        have h3 := HT.out.len
        omega
      have c2 : w2.cell? ⟨g, 2, none⟩ = some (.bool false) := HQ2.out.bad
      by_cases hk : (nx (lex l).1 m).kind = 5
      · have HE := Lib.hid (show topCond l = (x, 0, 0) from topOf_mk HN.out ER.out.symm hk)
        have CE := zend_any B g A1 (lex l).1.length c1 (lex l).1 m
        rw [if_pos hk] at CE
        go_wp2_with (fail)
        have hb3 : Below w2.heap.size w2 (w2.alloc (.cells #[.int .i64 i1, .int .i64 i2, .int .i64 i3, .slice B1 m1 d1] 35)) := (Below.refl _ _).alloc (Nat.le_refl _) _
        have HR3 := Lib.hid (Blk.new w2 35 #[.int .i64 i1, .int .i64 i2, .int .i64 i3, .slice B1 m1 d1])
        have HB2 := HO2.out.below HB1.out HB1.out.size (fun k hk => by omega)
        have HB3 := Lib.hid (HB2.trans (hb3.mono HB2.size))
        have HX3 := Lib.hid (HX2.out.below hb3 HX2.out.lt)
        have HQ3 := Lib.hid (HQ2.out.below hb3)
        have OV3 := Lib.hid (Only.of_below (S := (· = g)) hb3)
        clear hb3 HB2
        generalize hw3 : w2.alloc (.cells #[.int .i64 i1, .int .i64 i2, .int .i64 i3, .slice B1 m1 d1] 35) = w3 at *
        clear hw3
        refine (CE w3 HQ3.out hm).mono ?_
        clear CE
        rintro e w4 ⟨ho4, hq4, _, rfl, rfl, _⟩
        have HQ4 := Lib.hid hq4
        have HB4 := Lib.hid (ho4.below HB3.out HB3.out.size (fun k hk => by omega))
        have HX4 := Lib.hid (HX3.out.only ho4 (by omega))
        have HR4 := Lib.hid (HR3.out.only ho4 (by omega))
        have OV4 := Lib.hid (OV3.out.trans ho4)
        have hg4 : g < w4.heap.size := hq4.lt
        clear ho4 hq4 c2
        have c2 : w4.cell? ⟨g, 2, none⟩ = some (.bool false) := HQ4.out.bad
        have lx := HX4.out.lt
        have lr := HR4.out.lt
        have x0 : w4.cell? ⟨w.heap.size, 0, none⟩ = some (.int .i64 0) := by rw [HX4.out.cell]; rfl
        have f0 := HX4.out.frozen 0
        have x1 : w4.cell? ⟨w.heap.size, 1, none⟩ = some (.int .i64 0) := by rw [HX4.out.cell]; rfl
        have f1 := HX4.out.frozen 1
        have x2 : w4.cell? ⟨w.heap.size, 2, none⟩ = some (.int .i64 0) := by rw [HX4.out.cell]; rfl
        have f2 := HX4.out.frozen 2
        have x3 : w4.cell? ⟨w.heap.size, 3, none⟩ = some (.slice none 0 0) := by rw [HX4.out.cell]; rfl
        have f3 := HX4.out.frozen 3
        have z0 : w4.cell? ⟨w2.heap.size, 0, none⟩ = some (.int .i64 i1) := by rw [HR4.out.cell]; rfl
        have z1 : w4.cell? ⟨w2.heap.size, 1, none⟩ = some (.int .i64 i2) := by rw [HR4.out.cell]; rfl
        have z2 : w4.cell? ⟨w2.heap.size, 2, none⟩ = some (.int .i64 i3) := by rw [HR4.out.cell]; rfl
        have z3 : w4.cell? ⟨w2.heap.size, 3, none⟩ = some (.slice B1 m1 d1) := by rw [HR4.out.cell]; rfl
        have hne : ¬ w.heap.size = w2.heap.size := by have := HX2.out.lt; omega
        go_wp2_with (fail)
        first | (refine calls_named ?_; intro W hW) | (refine body_named ?_; intro W hW) | (refine wpList_named ?_; intro W hW) | (refine wp_named ?_; intro W hW)
        have hk : Blk W w.heap.size 35 #[.int .i64 i1, .int .i64 i2, .int .i64 i3, .slice B1 m1 d1] := by rw [← hW]; exact ((((HX4.out.set 0 (.int .i64 i1)).set 1 (.int .i64 i2)).set 2 (.int .i64 i3)).set 3 (.slice B1 m1 d1))
        have hO : Only (· = w.heap.size) w4 W := by rw [← hW]; exact ((((Only.refl _ _).trans only_y).trans only_y).trans only_y).trans only_y
        clear hW x0 f0 x1 f1 x2 f2 x3 f3
        have y0 : W.cell? ⟨w.heap.size, 0, none⟩ = some (.int .i64 i1) := by rw [hk.cell]; rfl
        have y1 : W.cell? ⟨w.heap.size, 1, none⟩ = some (.int .i64 i2) := by rw [hk.cell]; rfl
        have y2 : W.cell? ⟨w.heap.size, 2, none⟩ = some (.int .i64 i3) := by rw [hk.cell]; rfl
        have y3 : W.cell? ⟨w.heap.size, 3, none⟩ = some (.slice B1 m1 d1) := by rw [hk.cell]; rfl
        refine bodyPost_ret (by simp [results, Tryz.results17, go_sem, Act.put, y0, y1, y2, y3]; try rfl) rfl ?_
        unfold TopPost
        rw [HE.out]
        exact ⟨hO.below HB4.out HB4.out.size (fun k hk => by omega), _, rfl, cv_put (HV2.out x m rfl) OV4.out hO hg1 (by have := HX2.out.lt; omega) HB1.out.size⟩
      · have HE := Lib.hid (show topCond l = (CT.zero, (nx (lex l).1 m).at_, 130) from top_end HN.out ER.out.symm hk)
        have CE := zend_any B g A1 (lex l).1.length c1 (lex l).1 m
        rw [if_neg hk] at CE
        go_wp2_with (fail)
        have hb3 : Below w2.heap.size w2 (w2.alloc (.cells #[.int .i64 i1, .int .i64 i2, .int .i64 i3, .slice B1 m1 d1] 35)) := (Below.refl _ _).alloc (Nat.le_refl _) _
        have HR3 := Lib.hid (Blk.new w2 35 #[.int .i64 i1, .int .i64 i2, .int .i64 i3, .slice B1 m1 d1])
        have HB2 := HO2.out.below HB1.out HB1.out.size (fun k hk => by omega)
        have HB3 := Lib.hid (HB2.trans (hb3.mono HB2.size))
        have HX3 := Lib.hid (HX2.out.below hb3 HX2.out.lt)
        have HQ3 := Lib.hid (HQ2.out.below hb3)
        have OV3 := Lib.hid (Only.of_below (S := (· = g)) hb3)
        clear hb3 HB2
        generalize hw3 : w2.alloc (.cells #[.int .i64 i1, .int .i64 i2, .int .i64 i3, .slice B1 m1 d1] 35) = w3 at *
        clear hw3
        refine (CE w3 HQ3.out hm).mono ?_
        clear CE
        rintro e w4 ⟨ho4, hq4, _, rfl, rfl, _⟩
        have HQ4 := Lib.hid hq4
        have HB4 := Lib.hid (ho4.below HB3.out HB3.out.size (fun k hk => by omega))
        have HX4 := Lib.hid (HX3.out.only ho4 (by omega))
        have HR4 := Lib.hid (HR3.out.only ho4 (by omega))
        have OV4 := Lib.hid (OV3.out.trans ho4)
        have hg4 : g < w4.heap.size := hq4.lt
        clear ho4 hq4 c2
        have c2 : w4.cell? ⟨g, 2, none⟩ = some (.bool true) := HQ4.out.bad
        go_wp2_with (fail)
        obtain ⟨⟨kk, tx, pa⟩, ht⟩ : ∃ t, nx (lex l).1 m = t := ⟨_, rfl⟩
        rw [ht] at HE
        have CN := znext_any B g A1 (lex l).1.length c1 (lex l).1 (.bad m) w4 HQ4.out (show m ≤ 70000 by omega)
        rw [show nx (lex l).1 (posA (.bad m : Res Unit)) = _ from ht] at CN
        refine CN.mono ?_
        clear CN ht
        rintro e w9 ⟨rfl, hb9⟩
        have HB9 := Lib.hid (HB4.out.trans (hb9.mono HB4.out.size))
        have HX9 := Lib.hid (HX4.out.below hb9 HX4.out.lt)
        have lx := HX9.out.lt
        have x0 : w9.cell? ⟨w.heap.size, 0, none⟩ = some (.int .i64 0) := by rw [HX9.out.cell]; rfl
        have f0 := HX9.out.frozen 0
        have x1 : w9.cell? ⟨w.heap.size, 1, none⟩ = some (.int .i64 0) := by rw [HX9.out.cell]; rfl
        have f1 := HX9.out.frozen 1
        have x2 : w9.cell? ⟨w.heap.size, 2, none⟩ = some (.int .i64 0) := by rw [HX9.out.cell]; rfl
        have f2 := HX9.out.frozen 2
        have x3 : w9.cell? ⟨w.heap.size, 3, none⟩ = some (.slice none 0 0) := by rw [HX9.out.cell]; rfl
        have f3 := HX9.out.frozen 3
        clear hb9
        unfold tokV
        dsimp only
        go_wp2_with (fail)
        first | (refine calls_named ?_; intro W hW) | (refine body_named ?_; intro W hW) | (refine wpList_named ?_; intro W hW) | (refine wp_named ?_; intro W hW)
        have hk : Blk W w.heap.size 35 #[.int .i64 0, .int .i64 0, .int .i64 0, .slice none 0 0] := by rw [← hW]; exact ((((HX9.out.set 0 (.int .i64 0)).set 1 (.int .i64 0)).set 2 (.int .i64 0)).set 3 (.slice none 0 0))
        have hO : Only (· = w.heap.size) w9 W := by rw [← hW]; exact ((((Only.refl _ _).trans only_y).trans only_y).trans only_y).trans only_y
        clear hW x0 f0 x1 f1 x2 f2 x3 f3
        have y0 : W.cell? ⟨w.heap.size, 0, none⟩ = some (.int .i64 0) := by rw [hk.cell]; rfl
        have y1 : W.cell? ⟨w.heap.size, 1, none⟩ = some (.int .i64 0) := by rw [hk.cell]; rfl
        have y2 : W.cell? ⟨w.heap.size, 2, none⟩ = some (.int .i64 0) := by rw [hk.cell]; rfl
        have y3 : W.cell? ⟨w.heap.size, 3, none⟩ = some (.slice none 0 0) := by rw [hk.cell]; rfl
        refine bodyPost_ret (by simp [results, Tryz.results17, go_sem, Act.put, y0, y1, y2, y3]; try rfl) rfl ?_
        unfold TopPost
        rw [HE.out]
        exact ⟨hO.below HB9.out HB9.out.size (fun k hk => by omega), _, rfl, ⟨none, 0, 0, rfl, RepH.nil⟩⟩
end Go.Proofs.YtlgdmbdhffdenaaGreatDoor
