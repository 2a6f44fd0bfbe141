/- LexisJoinSpec: the walk of the law. -/
import Derived.Test.YtbfgmbijmdbcmaaGreatDoorRJoinM
import Derived.Test.YtbfgmbijmdbcmaaGreatDoorOffLaw
namespace Go.Proofs.YtbfgmbijmdbcmaaGreatDoor
set_option linter.unusedVariables false
set_option linter.unusedSimpArgs false
open Go.RowKit


def fewN (T : List Tok) : Nat := (T.map fun t => t.text.length + 1).sum
theorem fewN_succ {T : List Tok} {t : Tok} {k : Nat} (h : T[k]? = some t) : fewN (T.take (k + 1)) = fewN (T.take k) + 1 + t.text.length := by
  have : T.take (k + 1) = T.take k ++ [t] := by rw [List.take_add_one, h]; rfl
  rw [this]
  simp [fewN]; omega
theorem fewN_take (T : List Tok) (k : Nat) : fewN (T.take k) ≤ fewN T := by
  have e : fewN T = fewN (T.take k) + fewN (T.drop k) := by
    unfold fewN
    rw [← List.sum_append, ← List.map_append, List.take_append_drop]
  omega
theorem escape_le2 (s : List UInt8) : (escape s).length ≤ 2 * s.length := by
  rw [escape_len]
  have := List.countP_le_length (p := sp) (l := s)
  omega
theorem wide_few : ∀ T : List Tok, wide T ≤ 4 * fewN T
  | [] => by simp [wide, fewN]
  | t :: r => by
    have ih := wide_few r
    have h1 : (spell t).length ≤ 2 * t.text.length + 2 := by
      unfold spell
      split
      · have := escape_le2 t.text; simp; omega
      · omega
    simp [wide, fewN] at ih ⊢
    omega

set_option maxHeartbeats 1000000 in
set_option maxRecDepth 100000 in
theorem few_any (A : Option Addr) (n c B : Nat) (T : List Tok) (w : World) (h : Rd w B 3 A n c (T.flatMap tokCells)) (hz : ∀ t ∈ T, t.text.length ≤ 140737488351232) :
    Calls Tryz.prog 16 #[.slice A n c] w fun e w' => e = .returned (.bool (decide (fewN T ≤ 3000))) ∧ w = w' := by
  have hT := h.tlen
  have hcap := h.cap
  have hbig := h.big
  have H := Lib.hid h
  have Hz := Lib.hid hz
  clear h hz
  go_enter Tryz.func16, Tryz.ntmps16
  go_wp2
  go_loopw [3, 4] (fun s3 s4 wr => ∃ k : Nat, k ≤ n ∧ s4 = .int .i64 k ∧ s3 = .int .i64 ((fewN (T.take k) : Nat) : Int) ∧ Hid (fewN (T.take k) ≤ 140737488355000) ∧ Hid (w = wr)) (fun _ s4 _ => n - (intOf s4).toNat)
  case atStart => exact ⟨0, Nat.zero_le _, rfl, rfl, by show fewN [] ≤ _; simp [fewN], rfl⟩
  case round =>
    obtain ⟨k, hk, rfl, rfl, hf, hw⟩ := hrel
    have hw' := hw.out
    subst hw'
    clear hw
    have hfo := hf.out
    by_cases hlt : k < n
    · obtain ⟨b, off, t, rfl, hb, g0, g1, g2, g3⟩ := H.out.tok hlt
      have hzt := Hz.out t (List.mem_of_getElem? g0)
      by_cases h3 : fewN (T.take k) ≤ 3000
      · have HS := Lib.hid (fewN_succ g0)
        generalize fewN (T.take k) = z at *
        have d1 : (z : Int) ≤ 3000 := by omega
        clear g0
        go_wp2
        go_roundw
        case rel => exact ⟨k + 1, by omega, by go_num, by rw [HS.out]; go_num, by show fewN (T.take (k + 1)) ≤ _; rw [HS.out]; omega, by first | exact rfl | exact trivial⟩
        case measure => simp [intOf]; omega
      · have HE := Lib.hid (show decide (fewN T ≤ 3000) = false from decide_eq_false (by have := fewN_take T k; omega))
        generalize fewN (T.take k) = z at *
        have d1 : decide ((z : Int) ≤ 3000) = false := decide_eq_false (by omega)
        clear g0
        go_wp2
        go_ret
        exact ⟨by rw [HE.out]; rfl, rfl⟩
    · obtain rfl : k = n := by omega
      have hTk : T.take k = T := List.take_of_length_le (by omega)
      rw [hTk]
      go_wp2
      go_ret
      exact ⟨ret_bool (by first | (apply decide_eq_decide.2; omega) | (simp; omega)), rfl⟩
set_option maxHeartbeats 400000 in
theorem join_none (A : Option Addr) (c n : Nat) (hn : n = 0) (w : World) : Calls Tryz.prog 17 #[.slice A n c] w fun e w' => e = .returned (.tuple #[.slice none 0 0, .int .i64 1]) ∧ w = w' := by
  subst hn
  go_enter Tryz.func17, Tryz.ntmps17
  go_wp2
  go_ret2
  exact ⟨rfl, rfl⟩


set_option maxHeartbeats 400000 in
theorem rjoin_none (A : Option Addr) (c n : Nat) (hn : n = 0) (w : World) : Calls Tryz.prog 18 #[.slice A n c] w fun e w' => e = .returned (.tuple #[.slice none 0 0, .int .i64 1]) ∧ w = w' := by
  subst hn
  go_enter Tryz.func18, Tryz.ntmps18
  go_wp2
  go_ret2
  exact ⟨rfl, rfl⟩

set_option pp.deepTerms true in
set_option maxHeartbeats 4000000 in
set_option maxRecDepth 100000 in
theorem joinspec_walk (A : Option Addr) (n c : Nat) (L : List Tok) (wd : List UInt8) (m : Int) (w : World) (h : Rd w w.heap.size 3 A n c (L.flatMap tokCells)) (hz : ∀ t ∈ L, t.text.length ≤ 140737488351232) (hm : w.cell? ⟨0, 0, none⟩ = some (.int .i64 m)) :
    Calls Tryz.prog 4 #[.slice A n c, .string (bs wd)] w fun e w' => e = .returned (.bool true) ∧ Below w.heap.size w w' := by
  have hT := h.tlen
  have hcap := h.cap
  have hbig := h.big
  have Hm := Lib.hid hm
  have H := Lib.hid h
  have Hz := Lib.hid hz
  clear hm h hz
  have hnot : ∀ (x : Bool) (w : World), (Op.unary .not (.bool x)).run Tryz.prog w = .ok (.bool (!x)) w := fun _ _ => rfl
  by_cases hf : fewN L ≤ 3000
  · have Hf := Lib.hid hf
    have q0 : decide (fewN L ≤ 3000) = true := decide_eq_true hf
    clear hf
    by_cases hwd : 1000 < wd.length
    · have d1 : (1000 : Int) < (wd.length : Int) := by omega
      go_enter Tryz.func4, Tryz.ntmps4
      go_wp2_with (fail)
      refine (sane_any _ m Hm.out).mono ?_
      rintro e w1 ⟨rfl, hb1'⟩
      have hb1 := Lib.hid hb1'
      clear hb1'
      go_wp2_with (fail)
      refine (few_any A n c _ L w1 (H.out.below hb1.out) Hz.out).mono ?_
      rintro e w2 ⟨rfl, rfl⟩
      rw [q0]
      go_wp2
      go_ret
      exact ⟨rfl, hb1.out⟩
    · have d1 : ¬ (1000 : Int) < (wd.length : Int) := by omega
      rcases List.eq_nil_or_concat L with hL | ⟨T, e, hL⟩
      · go_enter Tryz.func4, Tryz.ntmps4
        go_wp2_with (fail)
        refine (sane_any _ m Hm.out).mono ?_
        rintro e w1 ⟨rfl, hb1'⟩
        have hb1 := Lib.hid hb1'
        have hm1 := Lib.hid ((hb1.out.cell (World.block_lt_of_cell? w _ Hm.out)).trans Hm.out)
        clear hb1'
        go_wp2_with (fail)
        refine (few_any A n c _ L w1 (H.out.below hb1.out) Hz.out).mono ?_
        rintro e w2 ⟨rfl, rfl⟩
        rw [q0]
        go_wp2_with (fail)
        refine (join_none A c n (by rw [← hT, hL]; rfl) w1).mono ?_
        rintro e w2 ⟨rfl, rfl⟩
        go_wp2_with (fail)
        refine (rjoin_none A c n (by rw [← hT, hL]; rfl) w1).mono ?_
        rintro e w2 ⟨rfl, rfl⟩
        have k0 := (Rd.nil (w := w1) (B := 0) (size := 1)).conv (l := []) (P := Tryz.prog) (src := 22) (dst := 9) Tryz.underlying22 Tryz.underlying5 Tryz.underlying9 0
        go_wp2_with (fail)
        refine (keyword_any wd m w1 hm1.out (by omega)).mono ?_
        rintro e w3 ⟨rfl, hb3'⟩
        have hb3 := Lib.hid (chain hb1.out hb3')
        clear hb3' k0
        go_wp2_with (fail)
        refine (rkeyword_any wd w3).mono ?_
        rintro e w4 ⟨rfl, rfl⟩
        generalize kwB wd = kb
        go_wp2
        go_ret
        exact ⟨ret_bool (by simp), hb3.out⟩
      · rw [List.concat_eq_append] at hL
        have hTl : L.take T.length = T := by rw [hL]; simp
        have hW := Lib.hid (show wide T ≤ 12000 by
          have h1 := wide_few T
          have h2 := fewN_take L T.length
          rw [hTl] at h2
          have := Hf.out
          omega)
        have hE := Lib.hid (show e.text.length ≤ 3000 by
          have h1 := fewN_succ (T := L) (k := T.length) (t := e) (by rw [hL]; simp)
          have h2 := fewN_take L (T.length + 1)
          have := Hf.out
          omega)
        clear hTl
        subst hL
        go_enter Tryz.func4, Tryz.ntmps4
        go_wp2_with (fail)
        refine (sane_any _ m Hm.out).mono ?_
        rintro E w1 ⟨rfl, hb1'⟩
        have hb1 := Lib.hid hb1'
        clear hb1'
        have hr := Lib.hid ((H.out.below hb1.out).more hb1.out.size)
        have hm1 := Lib.hid ((hb1.out.cell (World.block_lt_of_cell? w _ Hm.out)).trans Hm.out)
        go_wp2_with (fail)
        refine (few_any A n c _ (T ++ [e]) w1 hr.out Hz.out).mono ?_
        rintro E w2 ⟨rfl, rfl⟩
        rw [q0]
        go_wp2_with (fail)
        refine (join_any A n c T e m w1 hr.out hm1.out (Nat.le_trans hW.out (by omega))).mono ?_
        rintro E w3 ⟨hb3', ⟨hj', Ab, cb, rfl, hrd'⟩ | ⟨hj', rfl⟩⟩
        · have hb3 := Lib.hid (chain hb1.out hb3')
          have hrd := Lib.hid hrd'
          have hr3 := Lib.hid ((H.out.below hb3.out).more hb3.out.size)
          have Hj := Lib.hid hj'
          clear hb3' hrd' hj'
          go_wp2_with (fail)
          refine (rjoin_any A n c T e w3 hr3.out (Nat.le_trans hW.out (by omega)) (Nat.le_trans hE.out (by omega))).mono ?_
          rintro E w4 ⟨hb4', ⟨_, A2, c2, rfl, hrd2'⟩ | ⟨hno, _⟩⟩
          · have hb4 := Lib.hid (chain hb3.out hb4')
            have hm4 := Lib.hid ((hb4.out.cell (World.block_lt_of_cell? w _ Hm.out)).trans Hm.out)
            have k1 := (hrd.out.below hb4').conv (P := Tryz.prog) (src := 22) (dst := 9) Tryz.underlying22 Tryz.underlying5 Tryz.underlying9 cb
            have k2 := hrd2'.conv (P := Tryz.prog) (src := 22) (dst := 9) Tryz.underlying22 Tryz.underlying5 Tryz.underlying9 c2
            clear hb4' hrd2'
            generalize joinB T = bt' at *
            go_wp2_with (fail)
            refine (keyword_any wd m w4 hm4.out (by omega)).mono ?_
            rintro E w5 ⟨rfl, hb5'⟩
            have hb5 := Lib.hid (chain hb4.out hb5')
            clear hb5' k1 k2
            go_wp2_with (fail)
            refine (rkeyword_any wd w5).mono ?_
            rintro E w6 ⟨rfl, rfl⟩
            generalize kwB wd = kb
            go_wp2
            go_ret
            exact ⟨ret_bool (by simp), hb5.out⟩
          · rw [Hj.out] at hno; cases hno
        · have hb3 := Lib.hid (chain hb1.out hb3')
          have hr3 := Lib.hid ((H.out.below hb3.out).more hb3.out.size)
          have Hj := Lib.hid hj'
          clear hb3' hj'
          go_wp2_with (fail)
          refine (rjoin_any A n c T e w3 hr3.out (Nat.le_trans hW.out (by omega)) (Nat.le_trans hE.out (by omega))).mono ?_
          rintro E w4 ⟨hb4', ⟨hno, _⟩ | ⟨_, rfl⟩⟩
          · rw [Hj.out] at hno; cases hno
          · have hb4 := Lib.hid (chain hb3.out hb4')
            have hm4 := Lib.hid ((hb4.out.cell (World.block_lt_of_cell? w _ Hm.out)).trans Hm.out)
            have k0 := (Rd.nil (w := w4) (B := 0) (size := 1)).conv (l := []) (P := Tryz.prog) (src := 22) (dst := 9) Tryz.underlying22 Tryz.underlying5 Tryz.underlying9 0
            clear hb4'
            go_wp2_with (fail)
            refine (keyword_any wd m w4 hm4.out (by omega)).mono ?_
            rintro E w5 ⟨rfl, hb5'⟩
            have hb5 := Lib.hid (chain hb4.out hb5')
            clear hb5' k0
            go_wp2_with (fail)
            refine (rkeyword_any wd w5).mono ?_
            rintro E w6 ⟨rfl, rfl⟩
            generalize kwB wd = kb
            go_wp2
            go_ret
            exact ⟨ret_bool (by simp), hb5.out⟩
  · have q0 : decide (fewN L ≤ 3000) = false := decide_eq_false hf
    clear hf
    go_enter Tryz.func4, Tryz.ntmps4
    go_wp2_with (fail)
    refine (sane_any _ m Hm.out).mono ?_
    rintro e w1 ⟨rfl, hb1'⟩
    have hb1 := Lib.hid hb1'
    clear hb1'
    go_wp2_with (fail)
    refine (few_any A n c _ L w1 (H.out.below hb1.out) Hz.out).mono ?_
    rintro e w2 ⟨rfl, rfl⟩
    rw [q0]
    go_wp2
    go_ret
    exact ⟨rfl, hb1.out⟩
end Go.Proofs.YtbfgmbijmdbcmaaGreatDoor
