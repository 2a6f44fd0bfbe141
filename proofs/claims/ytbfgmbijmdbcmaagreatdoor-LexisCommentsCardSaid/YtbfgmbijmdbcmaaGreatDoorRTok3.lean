/- The reference's token, at quotes and whole, by its contract. -/
import Derived.Test.YtbfgmbijmdbcmaaGreatDoorRTok2
import Derived.Test.YtbfgmbijmdbcmaaGreatDoorLexLen
namespace Go.Proofs.YtbfgmbijmdbcmaaGreatDoor
set_option linter.unusedVariables false
set_option linter.unusedSimpArgs false
open Go.RowKit

theorem rtBlk {w w1 : World} {cs : Array Value} (hb : Below (w.alloc (.cells cs 41)).heap.size (w.alloc (.cells cs 41)) w1) : Blk w1 w.heap.size 41 cs ∧ Below w.heap.size w w1 :=
  ⟨(Blk.new w 41 cs).below hb (by simp), ((Below.refl w.heap.size w).alloc (Nat.le_refl _) (.cells cs 41)).trans (hb.mono (by simp))⟩

set_option maxHeartbeats 4000000 in
set_option maxRecDepth 100000 in
theorem rtok_quote (A : Option Addr) (n c : Nat) (l : List UInt8) (a : Nat) (w : World) (h : Rd w w.heap.size 1 A n c (l.map vb)) (ha : a < n) (hn : n ≤ 70000) (hq : bt l a = 34) :
    Calls Tryz.prog 29 #[.slice A n c, .int .i64 (a : Int)] w (RRet (nextItem (l.drop a)) a w) := by
  have hlen := h.blen
  have hcap := h.cap
  have hbig := h.big
  obtain ⟨b, off, rfl, hb, hc⟩ := h.byte (k := a) ha
  subst hlen
  have HI := Lib.hid (nx_quote ha hq)
  have hbw : ¬ b = w.heap.size := by omega
  have hlet : isLetter (bt l a) = false := by rw [hq]; rfl
  have hd : isDigit (bt l a) = false := by rw [hq]; rfl
  have e3 := nb (a := bt l a) (m := 45) (by omega)
  have hra := h.alloc (Nat.le_refl _) (.cells #[.int .i64 0, .string ⟨#[]⟩, .int .i64 0] 41)
  have hrs := (hra.more (B' := (w.alloc (.cells #[.int .i64 0, .string ⟨#[]⟩, .int .i64 0] 41)).heap.size) (by simp)).sub (lo := a) (hi := l.length) (by omega) (Nat.le_refl _)
  rw [List.take_of_length_le (by rw [List.length_drop]; omega)] at hrs
  have Hrs := Lib.hid hrs
  have Hq := Lib.hid (show bt (l.drop a) 0 = 34 by rw [bt_drop]; exact hq)
  clear hrs
  obtain ⟨b', off', he, hb', hca⟩ := hra.byte (k := a) ha
  injection he with he
  injection he with he1 he2
  subst he1 he2
  have HS1 := Lib.hid (show signB ((l.drop a).take 1) = false by rw [sign_take1 l a ha, hq]; rfl)
  have HS2 := Lib.hid (show a + 1 < l.length → signB ((l.drop a).take 2) = false from fun h2 => by
    rw [Bool.eq_false_iff]; intro e; have := ((sign_take2 l a h2).1 e).1; omega)
  have HQ := Lib.hid (show qscan ((l.drop a).drop 1) = qscan (l.drop (a + 1)) by rw [List.drop_drop])
  clear hq
  generalize hX : bt l a = X at *
  clear hX
  go_enter Tryz.func29, Tryz.ntmps29
  go_wp2_with (first
    | (go_at_call 45; refine (rletter_any _ _).mono ?_; rw [hlet]; rintro e w' ⟨rfl, rfl⟩)
    | (go_at_call 47; refine (rdigit_any X _).mono ?_; rw [hd]; rintro e w' ⟨rfl, rfl⟩))
  refine (rquoted_any _ _ _ _ _ Hrs.out (by omega) (by omega) Hq.out).mono ?_
  unfold QRet
  rw [HQ.out]
  cases hqs : qscan (l.drop (a + 1)) with
  | some x =>
    obtain ⟨t, k⟩ := x
    have hk := (qscan_len _ _ (Nat.le_refl _) t k hqs).2
    rw [hqs] at HI
    simp only [qout]
    rintro e w1 ⟨rfl, hb1⟩
    have HB := Lib.hid (rtBlk hb1)
    clear hb1 hra hca hqs
    go_wp2_with (refine wpList_store_row rfl 41 (.tmp 4) (.tmp 105) rfl _ rfl #[.int .i64 3, .string (bs t), .int .i64 a] tokZero rfl 41 HB.out.1 rfl infoTok (tok_one _ _ _) ?_)
    rw [HI.out]
    exact rt_end rfl rfl rfl rfl (Blk.setRow HB.out.1 _) rfl rfl (Below.setRow HB.out.2 (Nat.le_refl _) _)
  | none =>
    rw [hqs] at HI
    simp only [qout]
    rintro e w1 ⟨rfl, hb1⟩
    have HB := Lib.hid (rtBlk hb1)
    have hr1 := h.below HB.out.2
    clear hb1 hra hca hqs
    have hcv1 := (hr1.sub (lo := a) (hi := a + 1) (by omega) (by omega)).conv (P := Tryz.prog) Tryz.underlying22 Tryz.underlying5 Tryz.underlying9 (c - a)
    rw [show a + 1 - a = 1 from by omega] at hcv1
    generalize h1 : (l.drop a).take 1 = p1 at *
    clear h1
    by_cases h2 : a + 1 < l.length
    · have hcv2 := (hr1.sub (lo := a) (hi := a + 2) (by omega) (by omega)).conv (P := Tryz.prog) Tryz.underlying22 Tryz.underlying5 Tryz.underlying9 (c - a)
      rw [show a + 2 - a = 2 from by omega] at hcv2
      have HS2' := Lib.hid (HS2.out h2)
      generalize hp2 : (l.drop a).take 2 = p2 at *
      clear hp2
      go_wp2_with (fail)
      refine (rsign_any p2 _).mono ?_
      rw [HS2'.out]
      rintro e w' ⟨rfl, rfl⟩
      go_wp2_with (fail)
      refine (rsign_any p1 _).mono ?_
      rw [HS1.out]
      rintro e w' ⟨rfl, rfl⟩
      go_wp2_with (refine wpList_store_row rfl 41 (.tmp 4) (.tmp 144) rfl _ rfl tokZero tokZero rfl 41 HB.out.1 rfl infoTok (tok_one 0 [] 0) ?_)
      rw [HI.out]
      exact rt_end rfl rfl rfl rfl (Blk.setRow HB.out.1 _) rfl rfl (Below.setRow HB.out.2 (Nat.le_refl _) _)
    · go_wp2_with (fail)
      refine (rsign_any p1 _).mono ?_
      rw [HS1.out]
      rintro e w' ⟨rfl, rfl⟩
      go_wp2_with (refine wpList_store_row rfl 41 (.tmp 4) (.tmp 144) rfl _ rfl tokZero tokZero rfl 41 HB.out.1 rfl infoTok (tok_one 0 [] 0) ?_)
      rw [HI.out]
      exact rt_end rfl rfl rfl rfl (Blk.setRow HB.out.1 _) rfl rfl (Below.setRow HB.out.2 (Nat.le_refl _) _)

theorem rtok_any (A : Option Addr) (n c : Nat) (l : List UInt8) (a : Nat) (w : World) (h : Rd w w.heap.size 1 A n c (l.map vb)) (ha : a < n) (hn : n ≤ 70000) :
    Calls Tryz.prog 29 #[.slice A n c, .int .i64 (a : Int)] w (RRet (nextItem (l.drop a)) a w) := by
  cases h1 : isLetter (bt l a) with
  | true => exact rtok_letter A n c l a w h ha hn h1
  | false =>
    by_cases h2 : NumAt l a
    · exact rtok_num A n c l a w h ha hn h1 h2
    · by_cases h3 : bt l a = 34
      · exact rtok_quote A n c l a w h ha hn h3
      · exact rtok_rest A n c l a w h ha hn h1 h2 h3
end Go.Proofs.YtbfgmbijmdbcmaaGreatDoor
