/- SyntaxBehind: the walk of the law. -/
import Derived.Test.YtlgdmbdhffdenaaGreatDoorYDocF
namespace Go.Proofs.YtlgdmbdhffdenaaGreatDoor
set_option linter.unusedVariables false
set_option linter.unusedSimpArgs false
open Go.RowKit

/-- Rules number i of a row. -/
theorem RepL.at_ {S : Nat → Prop} {w : World} : ∀ {L : List RT} {xs : List Value} {i : Nat} {r : RT}, RepL S w L xs → L[i]? = some r →
    ∃ A m c A' m' c', xs[i * 6]? = some (.string (bs r.name)) ∧ xs[i * 6 + 1]? = some (.int .i64 r.win) ∧ xs[i * 6 + 2]? = some (.int .i64 r.draw) ∧ xs[i * 6 + 3]? = some (.int .i64 r.loss) ∧ xs[i * 6 + 4]? = some (.slice A m c) ∧ xs[i * 6 + 5]? = some (.slice A' m' c') ∧ RepT S w r.order A m c ∧ RepZ S w r.zones A' m' c'
  | [], _, i, r, _, h => by simp at h
  | r :: L, xs, 0, r', h, e => by
    obtain rfl : r = r' := by simpa using e
    obtain ⟨A, m, c, A', m', c', zs, rfl, h1, h2, _⟩ := h
    exact ⟨A, m, c, A', m', c', rfl, rfl, rfl, rfl, rfl, rfl, h1, h2⟩
  | q :: L, xs, i + 1, r, h, e => by
    obtain ⟨A, m, c, A', m', c', zs, rfl, h1, h2, h3⟩ := h
    obtain ⟨A, m, c, A', m', c', y0, y1, y2, y3, y4, y5, z1, z2⟩ := RepL.at_ h3 (show L[i]? = some r by simpa using e)
    have k : ∀ j, (i + 1) * 6 + j = (i * 6 + j) + 6 := fun j => by omega
    refine ⟨A, m, c, A', m', c', ?_, ?_, ?_, ?_, ?_, ?_, z1, z2⟩
    · rw [show (i + 1) * 6 = i * 6 + 6 by omega]; exact y0
    · rw [k]; exact y1
    · rw [k]; exact y2
    · rw [k]; exact y3
    · rw [k]; exact y4
    · rw [k]; exact y5
theorem RepL.cells1 {S : Nat → Prop} {w : World} : ∀ {L : List RT} {xs : List Value}, RepL S w L xs → ∀ u ∈ xs, u.oneCell' = true
  | [], xs, h, u, hu => by rw [show xs = [] from h] at hu; cases hu
  | r :: L, xs, h, u, hu => by
    obtain ⟨A, m, c, A', m', c', zs, rfl, _, _, h3⟩ := h
    simp only [List.mem_cons] at hu
    rcases hu with rfl | rfl | rfl | rfl | rfl | rfl | hu
    · rfl
    · rfl
    · rfl
    · rfl
    · rfl
    · rfl
    · exact RepL.cells1 h3 u hu
theorem own_newB (w : World) (B : Nat) (e : TypeId) (size : Nat) (hB : B ≤ w.heap.size) : (w.alloc (.cells #[] e)).ownsRow B e size (.slice (some ⟨w.heap.size, 0, none⟩) 0 0) 0 [] :=
  ⟨by simp, .inr ⟨w.heap.size, 0, #[], rfl, hB, heap_alloc_new w _, by simp, by simp [maxLen], by simp, by simp⟩⟩

theorem cell6 {w wr : World} {B x xo k j : Nat} {xs : List Value} {v : Value} (hb : Below B w wr) (hx : x < B) (hc : ∀ (j : Nat) (u : Value), xs[j]? = some u → w.cell? ⟨x, xo + j, none⟩ = some u) (h : xs[k * 6 + j]? = some v) : wr.cell? ⟨x, xo + k * 6 + j, none⟩ = some v := by
  rw [hb.cell (p := ⟨x, xo + k * 6 + j, none⟩) hx, Nat.add_assoc]
  exact hc _ _ h
theorem pdoc_rlen (T : List Tok) : ∀ f a, (pdoc T f a).1.length ≤ f
  | 0, a => Nat.le_refl _
  | f + 1, a => by
    rw [pdoc_succ]
    split
    · simp
    · split
      · simp only [List.length_cons]
        exact Nat.succ_le_succ (pdoc_rlen T f _)
      · exact Nat.le_succ_of_le (pdoc_rlen T f _)
theorem docR_len {l : List UInt8} (hl : l.length ≤ 30000) : (docR l).length ≤ 65537 := Nat.le_trans (pdoc_rlen _ _ _) (tok_ok hl).len

set_option maxHeartbeats 8000000 in
set_option maxRecDepth 100000 in
theorem behind_walk (A : Option Addr) (n c : Nat) (u : List UInt8) (A' : Option Addr) (n' c' : Nat) (v : List UInt8) (w : World) (h : Rd w w.heap.size 1 A n c (u.map vb)) (h' : Rd w w.heap.size 1 A' n' c' (v.map vb)) (hG : Gb w.heap.size w) (hu : n ≤ 140737488355328) (hv : n' ≤ 140737488355328) :
    Calls Tryz.prog 7 #[.slice A n c, .slice A' n' c'] w fun e w' => e = .returned (.bool true) ∧ Below w.heap.size w w' := by
  have hlen := h.blen
  have hlen' := h'.blen
  subst hlen hlen'
  have HH := Lib.hid h
  have HV := Lib.hid h'
  have HG := Lib.hid hG
  have hcap := h.cap
  have hbig := h.big
  have hcap' := h'.cap
  have hbig' := h'.big
  clear h h' hG
  by_cases hn : u.length + v.length ≤ 2000
  · have hni : ¬ (2000 : Int) < (u.length : Int) + (v.length : Int) := by omega
    go_enter Tryz.func7, Tryz.ntmps7
    go_wp2_with (fail)
    refine (sane13_any w HG.out).mono ?_
    rintro e w1 ⟨rfl, hb1⟩
    have C1 := Lib.hid hb1
    clear hb1
    go_wp2_with (fail)
    refine (ydoc_all A u.length c u w1 ((HH.out.below C1.out).more C1.out.size) (by omega) (HG.out.on C1.out)).mono ?_
    rintro e w2 ⟨B1, k1, d1, B2, k2, d2, R, xs, rfl, hk1, hrd, hrl, hperm, _, hk2, hrd2, hb2⟩
    have C2 := Lib.hid (C1.out.trans (hb2.mono C1.out.size))
    have HN1 := Lib.hid (hk2.trans (doc_len hperm))
    have HK1 := Lib.hid hk1
    have z64 : k2 ≤ 64 := by omega
    have L2 := Lib.hid (hrl.sub (S' := fun k => k < w.heap.size) (fun k hk => Nat.lt_of_lt_of_le hk C1.out.size))
    have D2 := Lib.hid hrd
    have q1 := hrd.cap
    have q2 := hrd.big
    have q3 := hrd2.cap
    have q4 := hrd2.big
    clear hk1 hrd hrl hperm hk2 hrd2 hb2 C1
    go_wp2_with (fail)
    refine (ydoc_all A' v.length c' v w2 ((HV.out.below C2.out).more C2.out.size) (by omega) (HG.out.on C2.out)).mono ?_
    rintro e w3 ⟨E1, j1, f1, E2, j2, f2, R', ys, rfl, hj1, hrd, hrl, hperm, _, hj2, hrd2, hb3⟩
    have C3 := Lib.hid (C2.out.trans (hb3.mono C2.out.size))
    have HN2 := Lib.hid (hj2.trans (doc_len hperm))
    have HJ1 := Lib.hid hj1
    have y64 : j2 ≤ 64 := by omega
    have L3 := Lib.hid (L2.out.only (S' := fun _ => False) (Only.of_below hb3) (fun _ h => h.elim))
    have D3 := Lib.hid ((D2.out.below hb3).more hb3.size)
    have M3 := Lib.hid (hrl.sub (S' := fun k => k < w.heap.size) (fun k hk => Nat.lt_of_lt_of_le hk C2.out.size))
    have F3 := Lib.hid hrd
    have s1 := hrd.cap
    have s2 := hrd.big
    have s3 := hrd2.cap
    have s4 := hrd2.big
    clear hj1 hrd hrl hperm hj2 hrd2 hb3 C2 L2 D2
    by_cases hz : 0 < k2 + j2
    · have hzi : (0 : Int) < (k2 : Int) + (j2 : Int) := by omega
      go_wp2_with (fail)
      go_ret
      exact ⟨rfl, C3.out⟩
    · obtain rfl : k2 = 0 := by omega
      obtain rfl : j2 = 0 := by omega
      obtain ⟨hl1, hl2⟩ := law_behind HN1.out.symm HN2.out.symm
      have HL1 := Lib.hid hl1
      have HL2 := Lib.hid hl2
      have hr1 := docR_len (l := u) (by omega)
      have hr2 := docR_len (l := v) (by omega)
      rw [← HK1.out] at hr1
      rw [← HJ1.out] at hr2
      clear hl1 hl2 hz HN1 HN2
      have RU := Lib.hid ((HH.out.below C3.out).more C3.out.size)
      have RV := Lib.hid ((HV.out.below C3.out).more C3.out.size)
      have hB0 : Hid (Below w3.heap.size w3 (w3.alloc (.cells #[] 5))) := (Below.refl _ w3).alloc (Nat.le_refl _) _
      have ho0 : Hid ((w3.alloc (.cells #[] 5)).ownsRow w3.heap.size 5 1 (.slice (some ⟨w3.heap.size, 0, none⟩) 0 0) 0 []) := own_newB w3 _ _ _ (Nat.le_refl _)
      go_wp2_with (first
        | (at_builtin; refine wpList_app elemByte rfl (.tmp 51) (.tmp 52) rfl w3.heap.size _ 0 0 [] rfl ho0.out w3.heap.size _ _ _ rfl _ (RU.out.below hB0.out) (vb_one _) (by omega) (by omega) (by simp) ?_; intro A3 c3 w4 ho hb hg; have O4 := Lib.hid (show w4.ownsRow w3.heap.size 5 1 (.slice A3 u.length c3) u.length (u.map vb) by simpa using ho); have B4 := Lib.hid (hB0.out.trans hb); clear ho hb hg; simp only [Nat.zero_add])
        | (at_builtin; refine wpList_push elemByte rfl (.tmp 53) (.tmp 54) rfl w3.heap.size A3 u.length c3 _ rfl (O4.out.alloc _) _ rfl [.int .u8 10] rfl (new_cells _ _ _) (by intro u hu; simp at hu; subst hu; rfl) (by omega) (by omega) (by have := B4.out.size; simp; omega) ?_; intro A4 c4 w5 ho hb hg; have O5 := Lib.hid ho; have B5 := Lib.hid ((B4.out.alloc B4.out.size _).trans hb); clear ho hb hg)
        | (at_builtin; refine wpList_app elemByte rfl (.tmp 55) (.tmp 56) rfl w3.heap.size A4 (u.length + 1) c4 _ rfl O5.out w3.heap.size _ _ _ rfl _ (RV.out.below B5.out) (vb_one _) (by omega) (by omega) B5.out.size ?_; intro A6 c6 w6 ho hb hg; have O6 := Lib.hid ho; have B6 := Lib.hid (B5.out.trans hb); clear ho hb hg))
      have RZ := own_rd O6.out
      rw [show u.map vb ++ [.int .u8 10] ++ v.map vb = (u ++ 10 :: v).map vb by simp [vb]] at RZ
      have C6 := Lib.hid (C3.out.trans (B6.out.mono C3.out.size))
      have L6 := Lib.hid (L3.out.only (S' := fun _ => False) (Only.of_below B6.out) (fun _ h => h.elim))
      have M6 := Lib.hid (M3.out.only (S' := fun _ => False) (Only.of_below B6.out) (fun _ h => h.elim))
      have D6 := Lib.hid ((D3.out.below B6.out).more B6.out.size)
      have F6 := Lib.hid ((F3.out.below B6.out).more B6.out.size)
      have HZ := ydoc_all A6 (u.length + 1 + v.length) c6 (u ++ 10 :: v) w6 RZ (by omega) (HG.out.on C6.out)
      clear RZ O4 O5 O6 B4 B5 B6 hB0 ho0 L3 M3 D3 F3 C3 RU RV
      refine HZ.mono ?_
      rintro e w7 ⟨G1, g1, h1, G2, g2, h2, R2, zs, rfl, hg1, hrd, hrl, hperm, _, hg2, hrd2, hb7⟩
      obtain rfl : g2 = 0 := by rw [hg2.trans (doc_len hperm), HL2.out]; rfl
      obtain rfl : g1 = k1 + j1 := by rw [hg1, HL1.out, List.length_append, HK1.out, HJ1.out]
      rw [HL1.out] at hrl
      have C7 := Lib.hid (C6.out.trans (hb7.mono C6.out.size))
      have L7 := Lib.hid (L6.out.only (S' := fun _ => False) (Only.of_below hb7) (fun _ h => h.elim))
      have M7 := Lib.hid (M6.out.only (S' := fun _ => False) (Only.of_below hb7) (fun _ h => h.elim))
      have D7 := Lib.hid ((D6.out.below hb7).more hb7.size)
      have F7 := Lib.hid ((F6.out.below hb7).more hb7.size)
      have Z7 := Lib.hid (hrl.sub (S' := fun k => k < w.heap.size) (fun k hk => Nat.lt_of_lt_of_le hk C6.out.size))
      have T7 := Lib.hid hrd
      have t1 := hrd.cap
      have t2 := hrd.big
      have t3 := hrd2.cap
      have t4 := hrd2.big
      clear hg1 hg2 hperm hrd hrl hrd2 hb7 HZ C6 L6 M6 D6 F6
      have hB1 : Hid (Below w7.heap.size w7 (w7.alloc (.cells #[] 28))) := (Below.refl _ w7).alloc (Nat.le_refl _) _
      have hor0 : Hid ((w7.alloc (.cells #[] 28)).ownsRow w7.heap.size 28 6 (.slice (some ⟨w7.heap.size, 0, none⟩) 0 0) 0 []) := own_newB w7 _ _ _ (Nat.le_refl _)
      go_wp2_with (first
        | (at_builtin; refine wpList_app elemRules rfl (.tmp 79) (.tmp 80) rfl w7.heap.size _ 0 0 [] rfl hor0.out w7.heap.size _ _ _ rfl _ (D7.out.below hB1.out) (RepL.cells1 L7.out) (by omega) (by omega) (by simp) ?_; intro A8 c8 w8 ho hb hg; have O8 := Lib.hid (show w8.ownsRow w7.heap.size 28 6 (.slice A8 k1 c8) k1 xs by simpa using ho); have B8 := Lib.hid (hB1.out.trans hb); clear ho hb hg; simp only [Nat.zero_add])
        | (at_builtin; refine wpList_app elemRules rfl (.tmp 81) (.tmp 82) rfl w7.heap.size A8 k1 c8 _ rfl O8.out w7.heap.size _ _ _ rfl _ (F7.out.below B8.out) (RepL.cells1 M7.out) (by omega) (by omega) B8.out.size ?_; intro A9 c9 w9 ho hb hg; have O9 := Lib.hid ho; have B9 := Lib.hid (B8.out.trans hb); clear ho hb hg))
      have RW := own_rd O9.out
      have W9 := Lib.hid RW
      have v1 := RW.cap
      have v2 := RW.big
      have C9 := Lib.hid (C7.out.trans (B9.out.mono C7.out.size))
      have of9 : Only (fun _ => False) w7 w9 := Only.of_below B9.out
      have X9 := Lib.hid (RepL.app (L7.out.only of9 (fun _ h => h.elim)) (M7.out.only of9 (fun _ h => h.elim)))
      have Z9 := Lib.hid (Z7.out.only of9 (fun _ h => h.elim))
      have T9 := Lib.hid ((T7.out.below B9.out).more B9.out.size)
      clear RW of9 O8 O9 B8 B9 hB1 hor0 L7 M7 D7 F7 Z7 T7 C7
      have hlen : Hid ((docR u ++ docR v).length = k1 + j1) := by show (docR u ++ docR v).length = k1 + j1; rw [List.length_append, HK1.out, HJ1.out]
      go_loopw [85] (fun s wr => ∃ k : Nat, s = .int .i64 k ∧ k ≤ k1 + j1 ∧ Hid (Below w9.heap.size w9 wr)) (fun s _ => k1 + j1 - (intOf s).toNat)
      case atStart => exact ⟨0, rfl, Nat.zero_le _, Below.refl _ _⟩
      case round =>
        obtain ⟨k, rfl, hk, HB⟩ := hrel
        have hbs := HB.out.size
        by_cases hlt : k < k1 + j1
        · obtain ⟨r, hr⟩ : ∃ r, (docR u ++ docR v)[k]? = some r := ⟨_, List.getElem?_eq_getElem (by rw [hlen.out]; exact hlt)⟩
          obtain ⟨P1, n1, p1, P2, n2, p2, a0, a1, a2, a3, a4, a5, r1, r2⟩ := X9.out.at_ hr
          obtain ⟨Q1, m1, o1, Q2, m2, o2, b0, b1, b2, b3, b4, b5, r3, r4⟩ := Z9.out.at_ hr
          obtain ⟨x, xo, rfl, hx, hxc⟩ := W9.out.cells (by omega)
          obtain ⟨y, yo, rfl, hy, hyc⟩ := T9.out.cells (by omega)
          have c0 : wr.cell? ⟨x, xo + k * 6, none⟩ = some (.string (bs r.name)) := cell6 (j := 0) HB.out hx hxc a0
          have c1 := cell6 HB.out hx hxc a1
          have c2 := cell6 HB.out hx hxc a2
          have c3 := cell6 HB.out hx hxc a3
          have c4 := cell6 HB.out hx hxc a4
          have c5 := cell6 HB.out hx hxc a5
          have e0 : wr.cell? ⟨y, yo + k * 6, none⟩ = some (.string (bs r.name)) := cell6 (j := 0) HB.out hy hyc b0
          have e1 := cell6 HB.out hy hyc b1
          have e2 := cell6 HB.out hy hyc b2
          have e3 := cell6 HB.out hy hyc b3
          have e4 := cell6 HB.out hy hyc b4
          have e5 := cell6 HB.out hy hyc b5
          have ofr : Only (fun _ => False) w9 wr := Only.of_below HB.out
          have R1 := Lib.hid (r1.only ofr (fun _ h => h.elim))
          have R2 := Lib.hid (r2.only ofr (fun _ h => h.elim))
          have R3 := Lib.hid (r3.only ofr (fun _ h => h.elim))
          have R4 := Lib.hid (r4.only ofr (fun _ h => h.elim))
          clear hr a0 a1 a2 a3 a4 a5 b0 b1 b2 b3 b4 b5 r1 r2 r3 r4 hxc hyc ofr
          have hx' : x < wr.heap.size := by omega
          have hy' : y < wr.heap.size := by omega
          go_wp2_with (fail)
          first | (refine calls_named ?_; intro W1 hW1) | (refine body_named ?_; intro W1 hW1) | (refine wpList_named ?_; intro W1 hW1) | (refine wp_named ?_; intro W1 hW1)
          have hb1 : Below wr.heap.size wr W1 := by rw [← hW1]; exact (Below.refl _ _).alloc (Nat.le_refl _) _
          have hX : Blk W1 wr.heap.size 28 #[.string (bs r.name), .int .i64 r.win, .int .i64 r.draw, .int .i64 r.loss, .slice P1 n1 p1, .slice P2 n2 p2] := by rw [← hW1]; exact Blk.new _ _ _
          clear hW1
          have ofr : Only (fun _ => False) wr W1 := Only.of_below hb1
          have hcg := same_by (fun k => k < w.heap.size) (fun k => k < w.heap.size) r r Q1 P1 Q2 P2 m1 o1 n1 p1 m2 o2 n2 p2 W1 (R3.out.only ofr (fun _ h => h.elim)) (R1.out.only ofr (fun _ h => h.elim)) (R4.out.only ofr (fun _ h => h.elim)) (R2.out.only ofr (fun _ h => h.elim))
          rw [show decide (r = r) = true from decide_eq_true rfl] at hcg
          unfold rulesV at hcg
          have hyW : y < W1.heap.size := Nat.lt_of_lt_of_le hy' hb1.size
          have lx := hX.lt
          have E10 := cell_by hyW ((hb1.cell (p := ⟨y, yo + k * 6, none⟩) hy').trans e0)
          have E11 := cell_by hyW ((hb1.cell (p := ⟨y, yo + k * 6 + 1, none⟩) hy').trans e1)
          have E12 := cell_by hyW ((hb1.cell (p := ⟨y, yo + k * 6 + 2, none⟩) hy').trans e2)
          have E13 := cell_by hyW ((hb1.cell (p := ⟨y, yo + k * 6 + 3, none⟩) hy').trans e3)
          have E14 := cell_by hyW ((hb1.cell (p := ⟨y, yo + k * 6 + 4, none⟩) hy').trans e4)
          have E15 := cell_by hyW ((hb1.cell (p := ⟨y, yo + k * 6 + 5, none⟩) hy').trans e5)
          have D10 := cell_by lx (show W1.cell? ⟨wr.heap.size, 0, none⟩ = some (.string (bs r.name)) from hX.cell 0)
          have D11 := cell_by lx (show W1.cell? ⟨wr.heap.size, 1, none⟩ = some (.int .i64 r.win) from hX.cell 1)
          have D12 := cell_by lx (show W1.cell? ⟨wr.heap.size, 2, none⟩ = some (.int .i64 r.draw) from hX.cell 2)
          have D13 := cell_by lx (show W1.cell? ⟨wr.heap.size, 3, none⟩ = some (.int .i64 r.loss) from hX.cell 3)
          have D14 := cell_by lx (show W1.cell? ⟨wr.heap.size, 4, none⟩ = some (.slice P1 n1 p1) from hX.cell 4)
          have D15 := cell_by lx (show W1.cell? ⟨wr.heap.size, 5, none⟩ = some (.slice P2 n2 p2) from hX.cell 5)
          have HB2 := Lib.hid hb1
          clear ofr hX hb1 c0 c1 c2 c3 c4 c5 e0 e1 e2 e3 e4 e5 R1 R2 R3 R4
          refine wp_region_below hmixP (by kernel_rfl) ?_
          repeat (quiet_step (first | (go_at_call 15; exact hcg _) | (go_at_fn 15; exact hcg _)))
          refine wpQuiet_nil ?_
          intro _ hw'
          obtain ⟨⟨wq, hbq⟩, hw2⟩ := hw'
          subst hw2
          have HB3 := Lib.hid (HB.out.trans ((HB2.out.trans (hbq.mono HB2.out.size)).mono hbs))
          clear D10 D11 D12 D13 D14 D15 E10 E11 E12 E13 E14 E15 hcg hbq
          go_wp2_with (fail)
          go_roundw
          case rel => exact ⟨k + 1, by go_num, by omega, HB3.out⟩
          case measure => simp [intOf] <;> omega
        · have C10 := Lib.hid (C9.out.trans (HB.out.mono C9.out.size))
          go_wp2_with (fail)
          go_ret
          exact ⟨rfl, C10.out⟩
  · have hni : (2000 : Int) < (u.length : Int) + (v.length : Int) := by omega
    go_enter Tryz.func7, Tryz.ntmps7
    go_wp2_with (fail)
    refine (sane13_any w HG.out).mono ?_
    rintro e w1 ⟨rfl, hb1⟩
    have C1 := Lib.hid hb1
    clear hb1
    go_wp2_with (fail)
    go_ret
    exact ⟨rfl, C1.out⟩
end Go.Proofs.YtlgdmbdhffdenaaGreatDoor
