/- SyntaxDocumentSpec: the walk of the law. -/
import Derived.Test.YtlgdmbdhffdenaaGreatDoorQF
namespace Go.Proofs.YtlgdmbdhffdenaaGreatDoor
set_option linter.unusedVariables false
set_option linter.unusedSimpArgs false
open Go.RowKit

/-- Rules number i of a row. -/
theorem RepL.at2 {S : Nat → Prop} {w : World} : ∀ {L : List RT} {xs : List Value} {i : Nat} {r : RT}, RepL S w L xs → L[i]? = some r →
    ∃ A m c A' m' c', xs[i * 6]? = some (.string (bs r.name)) ∧ xs[i * 6 + 1]? = some (.int .i64 r.win) ∧ xs[i * 6 + 2]? = some (.int .i64 r.draw) ∧ xs[i * 6 + 3]? = some (.int .i64 r.loss) ∧ xs[i * 6 + 4]? = some (.slice A m c) ∧ xs[i * 6 + 5]? = some (.slice A' m' c') ∧ RepT S w r.order A m c ∧ RepZ S w r.zones A' m' c'
  | [], _, i, r, _, h => by simp at h
  | r :: L, xs, 0, r', h, e => by
    obtain rfl : r = r' := by simpa using e
    obtain ⟨A, m, c, A', m', c', zs, rfl, h1, h2, _⟩ := h
    exact ⟨A, m, c, A', m', c', rfl, rfl, rfl, rfl, rfl, rfl, h1, h2⟩
  | q :: L, xs, i + 1, r, h, e => by
    obtain ⟨A, m, c, A', m', c', zs, rfl, h1, h2, h3⟩ := h
    obtain ⟨A, m, c, A', m', c', y0, y1, y2, y3, y4, y5, z1, z2⟩ := RepL.at2 h3 (show L[i]? = some r by simpa using e)
    have k : ∀ j, (i + 1) * 6 + j = (i * 6 + j) + 6 := fun j => by omega
    refine ⟨A, m, c, A', m', c', ?_, ?_, ?_, ?_, ?_, ?_, z1, z2⟩
    · rw [show (i + 1) * 6 = i * 6 + 6 by omega]; exact y0
    · rw [k]; exact y1
    · rw [k]; exact y2
    · rw [k]; exact y3
    · rw [k]; exact y4
    · rw [k]; exact y5
theorem cell62 {w wr : World} {B x xo k j : Nat} {xs : List Value} {v : Value} (hb : Below B w wr) (hx : x < B) (hc : ∀ (j : Nat) (u : Value), xs[j]? = some u → w.cell? ⟨x, xo + j, none⟩ = some u) (h : xs[k * 6 + j]? = some v) : wr.cell? ⟨x, xo + k * 6 + j, none⟩ = some v := by
  rw [hb.cell (p := ⟨x, xo + k * 6 + j, none⟩) hx, Nat.add_assoc]
  exact hc _ _ h
theorem pdoc_rlen2 (T : List Tok) : ∀ f a, (pdoc T f a).1.length ≤ f
  | 0, a => Nat.le_refl _
  | f + 1, a => by
    rw [pdoc_succ]
    split
    · simp
    · split
      · simp only [List.length_cons]
        exact Nat.succ_le_succ (pdoc_rlen2 T f _)
      · exact Nat.le_succ_of_le (pdoc_rlen2 T f _)
theorem docR_len2 {l : List UInt8} (hl : l.length ≤ 30000) : (docR l).length ≤ 65537 := Nat.le_trans (pdoc_rlen2 _ _ _) (tok_ok hl).len

set_option maxHeartbeats 1000000 in
set_option maxRecDepth 100000 in
/-- Equal problems. -/
theorem zsamep_any (A A' : Option Addr) (n c c' : Nat) (P : List Prob) (w : World) (h : Rd w w.heap.size 2 A n c (P.flatMap probCells)) (h' : Rd w w.heap.size 2 A' n c' (P.flatMap probCells)) :
    Calls Tryz.prog 21 #[.slice A n c, .slice A' n c'] w fun e w' => e = .returned (.bool true) ∧ Below w.heap.size w w' := by
  have H := Lib.hid h
  have H' := Lib.hid h'
  have q1 := h.cap
  have q2 := h.big
  have q3 := h'.cap
  have q4 := h'.big
  clear h h'
  go_enter Tryz.func21, Tryz.ntmps21
  go_wp2_with (fail)
  go_loopw [5] (fun s wr => ∃ k : Nat, s = .int .i64 k ∧ k ≤ n ∧ Hid (Below w.heap.size w wr)) (fun s _ => n - (intOf s).toNat)
  case atStart => exact ⟨0, rfl, Nat.zero_le _, Below.refl _ _⟩
  case round =>
    obtain ⟨k, rfl, hk, HB⟩ := hrel
    by_cases hlt : k < n
    · obtain ⟨b, o, t, rfl, hb, ht, y0, y1⟩ := H.out.prob hlt
      obtain ⟨b', o', t', rfl, hb', ht', z0, z1⟩ := H'.out.prob hlt
      rw [ht] at ht'
      cases ht'
      have Y0 := (HB.out.cell (p := ⟨b, o + k * 2, none⟩) hb).trans y0
      have Y1 := (HB.out.cell (p := ⟨b, o + k * 2 + 1, none⟩) hb).trans y1
      have Z0 := (HB.out.cell (p := ⟨b', o' + k * 2, none⟩) hb').trans z0
      have Z1 := (HB.out.cell (p := ⟨b', o' + k * 2 + 1, none⟩) hb').trans z1
      clear y0 y1 z0 z1 ht
      go_wp2_with (fail)
      go_quiet (fail)
      go_wp2_with (fail)
      go_roundw
      case rel => exact ⟨k + 1, by go_num, by omega, HB.out.trans (bdrew _ _)⟩
      case measure => simp [intOf] <;> omega
    · obtain rfl : k = n := by omega
      go_wp2_with (fail)
      go_ret
      exact ⟨rfl, HB.out⟩
set_option maxRecDepth 100000 in
theorem yshortE_any (A : Option Addr) (n c : Nat) (w : World) : Calls Tryz.prog 12 #[.slice A n c] w fun e w' => e = .returned (.bool (decide ((n : Int) ≤ 2000))) ∧ w' = w := by
  go_enter Tryz.func12, Tryz.ntmps12
  go_wp2
  go_ret
  exact ⟨rfl, rfl⟩
set_option maxHeartbeats 1500000 in
set_option maxRecDepth 100000 in
theorem docspec_walk (A : Option Addr) (n c : Nat) (l : List UInt8) (w : World) (h : Rd w w.heap.size 1 A n c (l.map vb)) (hG : Gb w.heap.size w) :
    Calls Tryz.prog 5 #[.slice A n c] w fun e w' => e = .returned (.bool true) ∧ Below w.heap.size w w' := by
  have hlen := h.blen
  subst hlen
  have HH := Lib.hid h
  have HG := Lib.hid hG
  have hcap := h.cap
  have hbig := h.big
  clear h hG
  by_cases hn : l.length ≤ 2000
  · have hd : decide ((l.length : Int) ≤ 2000) = true := decide_eq_true (by omega)
    go_enter Tryz.func5, Tryz.ntmps5
    go_wp2_with (fail)
    refine (sane13_any w HG.out).mono ?_
    rintro e w1 ⟨rfl, hb1⟩
    have C1 := Lib.hid hb1
    clear hb1
    go_wp2_with (fail)
    refine (yshortE_any A l.length c w1).mono ?_
    rintro e w1' ⟨rfl, rfl⟩
    rw [hd]
    go_wp2_with (fail)
    refine (ydoc_all A l.length c l w1' ((HH.out.below C1.out).more C1.out.size) (by omega) (HG.out.on C1.out)).mono ?_
    rintro e w2 ⟨B1, k1, d1, B2, k2, d2, R, xs, rfl, hk1, hrd, hrl, hperm, hsort, hk2, hrd2, hb2⟩
    have hR : R.take 64 = docP l := by rw [doc_sorted hperm hsort]; rfl
    have C2 := Lib.hid (C1.out.trans (hb2.mono C1.out.size))
    have hk2' : k2 = (docP l).length := hk2.trans (doc_len hperm)
    rw [hR] at hrd2
    have L2 := Lib.hid (hrl.sub (S' := fun k => k < w.heap.size) (fun k hk => Nat.lt_of_lt_of_le hk C1.out.size))
    have D2 := Lib.hid hrd
    have P2 := Lib.hid hrd2
    have q1 := hrd.cap
    have q2 := hrd.big
    have q3 := hrd2.cap
    have q4 := hrd2.big
    have HK1 := Lib.hid hk1
    have HK2 := Lib.hid hk2'
    clear hrd hrl hperm hsort hk2 hrd2 hb2 C1 hR hk1 hk2'
    go_wp2_with (fail)
    refine (ztopD_any A l.length c l w2 ((HH.out.below C2.out).more C2.out.size) (by omega)).mono ?_
    rintro e w3 ⟨E1, j1, f1, E2, j2, f2, ys, rfl, hj1, hrd, hrl, hj2, hrd2, hb3⟩
    obtain rfl : j1 = k1 := by rw [hj1, HK1.out]
    obtain rfl : j2 = k2 := by rw [hj2, HK2.out]
    have C3 := Lib.hid (C2.out.trans (hb3.mono C2.out.size))
    have L3 := Lib.hid (L2.out.only (S' := fun _ => False) (Only.of_below hb3) (fun _ h => h.elim))
    have D3 := Lib.hid ((D2.out.below hb3).more hb3.size)
    have P3 := Lib.hid ((P2.out.below hb3).more hb3.size)
    have M3 := Lib.hid (hrl.sub (S' := fun k => k < w.heap.size) (fun k hk => Nat.lt_of_lt_of_le hk C2.out.size))
    have F3 := Lib.hid hrd
    have S3 := Lib.hid hrd2
    have s1 := hrd.cap
    have s2 := hrd.big
    have s3 := hrd2.cap
    have s4 := hrd2.big
    have hr1 := docR_len2 (l := l) (by omega)
    rw [← HK1.out] at hr1
    clear hrd hrl hrd2 hb3 C2 L2 D2 P2 hj1 hj2
    go_wp2_with (fail)
    go_loopw [39] (fun s wr => ∃ k : Nat, s = .int .i64 k ∧ k ≤ j1 ∧ Hid (Below w3.heap.size w3 wr)) (fun s _ => j1 - (intOf s).toNat)
    case atStart => exact ⟨0, rfl, Nat.zero_le _, Below.refl _ _⟩
    case round =>
      obtain ⟨k, rfl, hk, HB⟩ := hrel
      have hbs := HB.out.size
      by_cases hlt : k < j1
      · obtain ⟨r, hr⟩ : ∃ r, (docR l)[k]? = some r := ⟨_, List.getElem?_eq_getElem (by rw [← HK1.out]; exact hlt)⟩
        obtain ⟨P1, n1, p1, P2, n2, p2, a0, a1, a2, a3, a4, a5, r1, r2⟩ := L3.out.at2 hr
        obtain ⟨Q1, m1, o1, Q2, m2, o2, b0, b1, b2, b3, b4, b5, r3, r4⟩ := M3.out.at2 hr
        obtain ⟨x, xo, rfl, hx, hxc⟩ := D3.out.cells (by omega)
        obtain ⟨y, yo, rfl, hy, hyc⟩ := F3.out.cells (by omega)
        have hx' : x < wr.heap.size := by omega
        have hy' : y < wr.heap.size := by omega
        have c0 := cell_by hx' (show wr.cell? ⟨x, xo + k * 6, none⟩ = some (.string (bs r.name)) from cell62 (j := 0) HB.out hx hxc a0)
        have c1 := cell_by hx' (cell62 HB.out hx hxc a1)
        have c2 := cell_by hx' (cell62 HB.out hx hxc a2)
        have c3 := cell_by hx' (cell62 HB.out hx hxc a3)
        have c4 := cell_by hx' (cell62 HB.out hx hxc a4)
        have c5 := cell_by hx' (cell62 HB.out hx hxc a5)
        have e0 := cell_by hy' (show wr.cell? ⟨y, yo + k * 6, none⟩ = some (.string (bs r.name)) from cell62 (j := 0) HB.out hy hyc b0)
        have e1 := cell_by hy' (cell62 HB.out hy hyc b1)
        have e2 := cell_by hy' (cell62 HB.out hy hyc b2)
        have e3 := cell_by hy' (cell62 HB.out hy hyc b3)
        have e4 := cell_by hy' (cell62 HB.out hy hyc b4)
        have e5 := cell_by hy' (cell62 HB.out hy hyc b5)
        have ofr : Only (fun _ => False) w3 wr := Only.of_below HB.out
        have hcg := same_by (fun k => k < w.heap.size) (fun k => k < w.heap.size) r r P1 Q1 P2 Q2 n1 p1 m1 o1 n2 p2 m2 o2 wr (r1.only ofr (fun _ h => h.elim)) (r3.only ofr (fun _ h => h.elim)) (r2.only ofr (fun _ h => h.elim)) (r4.only ofr (fun _ h => h.elim))
        rw [show decide (r = r) = true from decide_eq_true rfl] at hcg
        unfold rulesV at hcg
        clear hr a0 a1 a2 a3 a4 a5 b0 b1 b2 b3 b4 b5 r1 r2 r3 r4 hxc hyc ofr
        go_wp2_with (fail)
        refine wp_region_below hmixP (by kernel_rfl) ?_
        repeat (quiet_step (first | (go_at_call 15; exact hcg _) | (go_at_fn 15; exact hcg _)))
        refine wpQuiet_nil ?_
        intro _ hw'
        obtain ⟨⟨wq, hbq⟩, hw2⟩ := hw'
        subst hw2
        have HB3 := Lib.hid (HB.out.trans (hbq.mono hbs))
        clear c0 c1 c2 c3 c4 c5 e0 e1 e2 e3 e4 e5 hcg hbq
        go_wp2_with (fail)
        go_roundw
        case rel => exact ⟨k + 1, by go_num, by omega, HB3.out⟩
        case measure => simp [intOf] <;> omega
      · have C4 := Lib.hid (C3.out.trans (HB.out.mono C3.out.size))
        go_wp2_with (fail)
        refine (zsamep_any B2 E2 j2 d2 f2 (docP l) wr ((P3.out.below HB.out).more HB.out.size) ((S3.out.below HB.out).more HB.out.size)).mono ?_
        rintro e w5 ⟨rfl, hb5⟩
        have C5 := Lib.hid (C4.out.trans (hb5.mono C4.out.size))
        clear hb5
        go_wp2_with (fail)
        go_ret
        exact ⟨rfl, C5.out⟩
  · have hd : decide ((l.length : Int) ≤ 2000) = false := decide_eq_false (by omega)
    go_enter Tryz.func5, Tryz.ntmps5
    go_wp2_with (fail)
    refine (sane13_any w HG.out).mono ?_
    rintro e w1 ⟨rfl, hb1⟩
    have C1 := Lib.hid hb1
    clear hb1
    go_wp2_with (fail)
    refine (yshortE_any A l.length c w1).mono ?_
    rintro e w1' ⟨rfl, rfl⟩
    rw [hd]
    go_wp2_with (fail)
    go_ret
    exact ⟨rfl, C1.out⟩
end Go.Proofs.YtlgdmbdhffdenaaGreatDoor
