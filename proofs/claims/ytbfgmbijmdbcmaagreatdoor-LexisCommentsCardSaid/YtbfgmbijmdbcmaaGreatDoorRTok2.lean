/- The reference's token at signs, at quotes and at invalid bytes, by its contract. -/
import Derived.Test.YtbfgmbijmdbcmaaGreatDoorRTok
namespace Go.Proofs.YtbfgmbijmdbcmaaGreatDoor
set_option linter.unusedVariables false
set_option linter.unusedSimpArgs false
open Go.RowKit

theorem take1 (l : List UInt8) (a : Nat) (h : a < l.length) : (l.drop a).take 1 = [UInt8.ofNat (bt l a)] := by
  obtain ⟨c, h1, h2⟩ := drop_cons l a h
  rw [h2, ← h1]
  simp
theorem take2 (l : List UInt8) (a : Nat) (h : a + 1 < l.length) : (l.drop a).take 2 = [UInt8.ofNat (bt l a), UInt8.ofNat (bt l (a + 1))] := by
  obtain ⟨c, h1, h2⟩ := drop_cons l a (by omega)
  obtain ⟨d, h3, h4⟩ := drop_cons l (a + 1) h
  rw [h2, h4, ← h1, ← h3]
  simp
theorem ofNat_eq {x y : Nat} (hx : x < 256) (hy : y < 256) : (UInt8.ofNat x = UInt8.ofNat y) ↔ x = y := by
  constructor
  · intro e
    have := congrArg UInt8.toNat e
    simp at this
    omega
  · rintro rfl; rfl
theorem sign_take1 (l : List UInt8) (a : Nat) (h : a < l.length) : signB ((l.drop a).take 1) = isSignC (bt l a) := by
  have h1 : ∀ n : Nat, n < 256 → signB [UInt8.ofNat n] = isSignC n := by decide +kernel
  rw [take1 l a h, h1 _ (bt_lt l a)]
theorem sign_take2 (l : List UInt8) (a : Nat) (h : a + 1 < l.length) : signB ((l.drop a).take 2) = true ↔ (bt l a = 60 ∨ bt l a = 62) ∧ bt l (a + 1) = 61 := by
  rw [take2 l a h]
  have h1 := bt_lt l a
  have h2 := bt_lt l (a + 1)
  have e60 := ofNat_eq h1 (show 60 < 256 by omega)
  have e62 := ofNat_eq h1 (show 62 < 256 by omega)
  have e61 := ofNat_eq h2 (show 61 < 256 by omega)
  have k60 : (60 : UInt8) = UInt8.ofNat 60 := rfl
  have k61 : (61 : UInt8) = UInt8.ofNat 61 := rfl
  have k62 : (62 : UInt8) = UInt8.ofNat 62 := rfl
  simp only [signB, List.length_cons, List.length_nil, List.cons_beq_cons, List.beq_nil_eq, Bool.or_eq_true, Bool.and_eq_true, beq_iff_eq, k60, k61, k62, e60, e61, e62]
  simp
  omega
theorem nx_rest (l : List UInt8) (a : Nat) (h : a < l.length) (hl : isLetter (bt l a) = false) (hn : ¬ NumAt l a) (hq : ¬ bt l a = 34) :
    nextItem (l.drop a) = if a + 1 < l.length ∧ signB ((l.drop a).take 2) = true then ⟨4, (l.drop a).take 2, 2⟩ else if signB ((l.drop a).take 1) = true then ⟨4, (l.drop a).take 1, 1⟩ else ⟨0, [], 1⟩ := by
  rw [sign_take1 l a h]
  by_cases h2 : (bt l a = 60 ∨ bt l a = 62) ∧ bt l (a + 1) = 61
  · have h3 : a + 1 < l.length := by
      rcases Nat.lt_or_ge (a + 1) l.length with h | h
      · exact h
      · rw [bt_out l (a + 1) h] at h2; omega
    rw [if_pos ⟨h3, (sign_take2 l a h3).2 h2⟩]
    exact nx_sign2 h3 h2.1 h2.2
  · rw [if_neg (fun e => h2 ((sign_take2 l a e.1).1 e.2))]
    by_cases hs : isSignC (bt l a) = true
    · rw [if_pos hs]; exact nx_sign1 h hs h2
    · rw [if_neg hs]; exact nx_other h hl hn (by simpa using hs) hq

set_option maxHeartbeats 16000000 in
set_option maxRecDepth 100000 in
theorem rtok_rest (A : Option Addr) (n c : Nat) (l : List UInt8) (a : Nat) (w : World) (h : Rd w w.heap.size 1 A n c (l.map vb)) (ha : a < n) (hn : n ≤ 70000) (hlet : isLetter (bt l a) = false) (hnum : ¬ NumAt l a) (hq : ¬ bt l a = 34) :
    Calls Tryz.prog 29 #[.slice A n c, .int .i64 (a : Int)] w (RRet (nextItem (l.drop a)) a w) := by
  have hlen := h.blen
  have hcap := h.cap
  have hbig := h.big
  obtain ⟨b, off, rfl, hb, hc⟩ := h.byte (k := a) ha
  subst hlen
  have HI := Lib.hid (nx_rest l a ha hlet hnum hq)
  have hbw : ¬ b = w.heap.size := by omega
  have hra := h.alloc (Nat.le_refl _) (.cells #[.int .i64 0, .string ⟨#[]⟩, .int .i64 0] 41)
  have hrs := (hra.more (B' := (w.alloc (.cells #[.int .i64 0, .string ⟨#[]⟩, .int .i64 0] 41)).heap.size) (by simp)).sub (lo := a) (hi := l.length) (by omega) (Nat.le_refl _)
  rw [List.take_of_length_le (by rw [List.length_drop]; omega)] at hrs
  have Hrs := Lib.hid hrs
  have Hq := Lib.hid (show ¬ bt (l.drop a) 0 = 34 by rw [bt_drop]; exact hq)
  clear hrs
  obtain ⟨b', off', he, hb', hca⟩ := hra.byte (k := a) ha
  injection he with he
  injection he with he1 he2
  subst he1 he2
  have hd : isDigit (bt l a) = false := by
    rw [Bool.eq_false_iff]; intro e; exact hnum (.inl e)
  have hor : ((bt l a : Int) == 45) = false ∨ (((bt l a : Int) == 45) = true ∧ isDigit (bt l (a + 1)) = false) := by
    by_cases h45 : bt l a = 45
    · refine .inr ⟨yb (by omega), ?_⟩
      rw [Bool.eq_false_iff]; intro e; exact hnum (.inr ⟨h45, e⟩)
    · exact .inl (nb (by omega))
  clear hnum hq
  have hcv1 := (hra.sub (lo := a) (hi := a + 1) (by omega) (by omega)).conv (P := Tryz.prog) Tryz.underlying22 Tryz.underlying5 Tryz.underlying9 (c - a)
  rw [show a + 1 - a = 1 from by omega] at hcv1
  generalize h1 : (l.drop a).take 1 = p1 at *
  clear h1
  generalize hX : bt l a = X at *
  clear hX
  by_cases h2 : a + 1 < l.length
  · obtain ⟨b', off', he, hb', hc1⟩ := hra.byte (k := a + 1) h2
    injection he with he
    injection he with he1 he2
    subst he1 he2
    have hcv2 := (hra.sub (lo := a) (hi := a + 2) (by omega) (by omega)).conv (P := Tryz.prog) Tryz.underlying22 Tryz.underlying5 Tryz.underlying9 (c - a)
    rw [show a + 2 - a = 2 from by omega] at hcv2
    generalize hp2 : (l.drop a).take 2 = p2 at *
    clear hp2
    generalize hY : bt l (a + 1) = Y at *
    clear hY
    rcases hor with e3 | ⟨e3, e4⟩
    · go_enter Tryz.func29, Tryz.ntmps29
      go_wp2_with (first
        | (go_at_call 45; refine (rletter_any _ _).mono ?_; rw [hlet]; rintro e w' ⟨rfl, rfl⟩)
        | (go_at_call 47; refine (rdigit_any X _).mono ?_; rw [hd]; rintro e w' ⟨rfl, rfl⟩))
      refine (rquoted_not _ _ _ _ _ Hrs.out (.inr Hq.out)).mono ?_
      rintro e w' ⟨rfl, rfl⟩
      go_wp2_with (fail)
      refine (rsign_any p2 _).mono ?_
      rintro e w' ⟨rfl, rfl⟩
      cases hs2 : signB p2 with
      | true =>
        go_wp2_with (fail)
        rw [HI.out, if_pos ⟨h2, hs2⟩]
        exact rt_end rfl rfl rfl rfl (Blk.new _ _ _) rfl rfl ((Below.refl _ w).alloc (Nat.le_refl _) _)
      | false =>
        cases hs1 : signB p1 with
        | true =>
          go_wp2_with (fail)
          refine (rsign_any p1 _).mono ?_
          rw [hs1]
          rintro e w' ⟨rfl, rfl⟩
          go_wp2_with (fail)
          rw [HI.out, if_neg (fun e => by rw [hs2] at e; cases e.2), if_pos hs1]
          exact rt_end rfl rfl rfl rfl (Blk.new _ _ _) rfl rfl ((Below.refl _ w).alloc (Nat.le_refl _) _)
        | false =>
          go_wp2_with (fail)
          refine (rsign_any p1 _).mono ?_
          rw [hs1]
          rintro e w' ⟨rfl, rfl⟩
          go_wp2_with (fail)
          rw [HI.out, if_neg (fun e => by rw [hs2] at e; cases e.2), if_neg (by rw [hs1]; simp)]
          exact rt_end rfl rfl rfl rfl (Blk.new _ _ _) rfl rfl ((Below.refl _ w).alloc (Nat.le_refl _) _)
    · go_enter Tryz.func29, Tryz.ntmps29
      go_wp2_with (first
        | (go_at_call 45; refine (rletter_any _ _).mono ?_; rw [hlet]; rintro e w' ⟨rfl, rfl⟩)
        | (go_at_call 47; refine (rdigit_any X _).mono ?_; rw [hd]; rintro e w' ⟨rfl, rfl⟩)
        | (go_at_call 47; refine (rdigit_any Y _).mono ?_; rw [e4]; rintro e w' ⟨rfl, rfl⟩))
      refine (rquoted_not _ _ _ _ _ Hrs.out (.inr Hq.out)).mono ?_
      rintro e w' ⟨rfl, rfl⟩
      go_wp2_with (fail)
      refine (rsign_any p2 _).mono ?_
      rintro e w' ⟨rfl, rfl⟩
      cases hs2 : signB p2 with
      | true =>
        go_wp2_with (fail)
        rw [HI.out, if_pos ⟨h2, hs2⟩]
        exact rt_end rfl rfl rfl rfl (Blk.new _ _ _) rfl rfl ((Below.refl _ w).alloc (Nat.le_refl _) _)
      | false =>
        cases hs1 : signB p1 with
        | true =>
          go_wp2_with (fail)
          refine (rsign_any p1 _).mono ?_
          rw [hs1]
          rintro e w' ⟨rfl, rfl⟩
          go_wp2_with (fail)
          rw [HI.out, if_neg (fun e => by rw [hs2] at e; cases e.2), if_pos hs1]
          exact rt_end rfl rfl rfl rfl (Blk.new _ _ _) rfl rfl ((Below.refl _ w).alloc (Nat.le_refl _) _)
        | false =>
          go_wp2_with (fail)
          refine (rsign_any p1 _).mono ?_
          rw [hs1]
          rintro e w' ⟨rfl, rfl⟩
          go_wp2_with (fail)
          rw [HI.out, if_neg (fun e => by rw [hs2] at e; cases e.2), if_neg (by rw [hs1]; simp)]
          exact rt_end rfl rfl rfl rfl (Blk.new _ _ _) rfl rfl ((Below.refl _ w).alloc (Nat.le_refl _) _)
  · rcases hor with e3 | ⟨e3, e4⟩
    · go_enter Tryz.func29, Tryz.ntmps29
      go_wp2_with (first
        | (go_at_call 45; refine (rletter_any _ _).mono ?_; rw [hlet]; rintro e w' ⟨rfl, rfl⟩)
        | (go_at_call 47; refine (rdigit_any X _).mono ?_; rw [hd]; rintro e w' ⟨rfl, rfl⟩))
      refine (rquoted_not _ _ _ _ _ Hrs.out (.inr Hq.out)).mono ?_
      rintro e w' ⟨rfl, rfl⟩
      cases hs1 : signB p1 with
      | true =>
        go_wp2_with (fail)
        refine (rsign_any p1 _).mono ?_
        rw [hs1]
        rintro e w' ⟨rfl, rfl⟩
        go_wp2_with (fail)
        rw [HI.out, if_neg (fun e => h2 e.1), if_pos hs1]
        exact rt_end rfl rfl rfl rfl (Blk.new _ _ _) rfl rfl ((Below.refl _ w).alloc (Nat.le_refl _) _)
      | false =>
        go_wp2_with (fail)
        refine (rsign_any p1 _).mono ?_
        rw [hs1]
        rintro e w' ⟨rfl, rfl⟩
        go_wp2_with (fail)
        rw [HI.out, if_neg (fun e => h2 e.1), if_neg (by rw [hs1]; simp)]
        exact rt_end rfl rfl rfl rfl (Blk.new _ _ _) rfl rfl ((Below.refl _ w).alloc (Nat.le_refl _) _)
    · go_enter Tryz.func29, Tryz.ntmps29
      go_wp2_with (first
        | (go_at_call 45; refine (rletter_any _ _).mono ?_; rw [hlet]; rintro e w' ⟨rfl, rfl⟩)
        | (go_at_call 47; refine (rdigit_any X _).mono ?_; rw [hd]; rintro e w' ⟨rfl, rfl⟩))
      refine (rquoted_not _ _ _ _ _ Hrs.out (.inr Hq.out)).mono ?_
      rintro e w' ⟨rfl, rfl⟩
      cases hs1 : signB p1 with
      | true =>
        go_wp2_with (fail)
        refine (rsign_any p1 _).mono ?_
        rw [hs1]
        rintro e w' ⟨rfl, rfl⟩
        go_wp2_with (fail)
        rw [HI.out, if_neg (fun e => h2 e.1), if_pos hs1]
        exact rt_end rfl rfl rfl rfl (Blk.new _ _ _) rfl rfl ((Below.refl _ w).alloc (Nat.le_refl _) _)
      | false =>
        go_wp2_with (fail)
        refine (rsign_any p1 _).mono ?_
        rw [hs1]
        rintro e w' ⟨rfl, rfl⟩
        go_wp2_with (fail)
        rw [HI.out, if_neg (fun e => h2 e.1), if_neg (by rw [hs1]; simp)]
        exact rt_end rfl rfl rfl rfl (Blk.new _ _ _) rfl rfl ((Below.refl _ w).alloc (Nat.le_refl _) _)
end Go.Proofs.YtbfgmbijmdbcmaaGreatDoor
