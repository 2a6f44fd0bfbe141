/- LexisComments: the walk of the law. -/
import Derived.Test.YtbfgmbijmdbcmaaGreatDoorSane
import Derived.Test.YtbfgmbijmdbcmaaGreatDoorRAlike
import Derived.Test.YtbfgmbijmdbcmaaGreatDoorInvalid
import Derived.Test.YtbfgmbijmdbcmaaGreatDoorApp
import Derived.Test.YtbfgmbijmdbcmaaGreatDoorRTokens
namespace Go.Proofs.YtbfgmbijmdbcmaaGreatDoor
set_option linter.unusedVariables false
set_option linter.unusedSimpArgs false
open Go.RowKit

/-- What is kept of the remark. -/
def keepB (c : UInt8) : Bool := c.toNat != 10 && c.toNat != 34
def mid (l : List UInt8) (b : Nat) (r : List UInt8) (j : Nat) : List UInt8 := l.take b ++ 35 :: ((r.take j).filter keepB)
theorem mid_zero (l : List UInt8) (b : Nat) (r : List UInt8) : mid l b r 0 = l.take b ++ [35] := by simp [mid]
theorem mid_keep (l : List UInt8) (b : Nat) (r : List UInt8) (j : Nat) (hj : j < r.length) (h1 : ¬ bt r j = 10) (h2 : ¬ bt r j = 34) : mid l b r (j + 1) = mid l b r j ++ [UInt8.ofNat (bt r j)] := by
  unfold mid
  rw [take_bt r j hj, List.filter_append]
  have : keepB (UInt8.ofNat (bt r j)) = true := by
    have hlt := bt_lt r j
    simp [keepB, Nat.mod_eq_of_lt hlt, h1, h2]
  simp [List.filter, this]
theorem mid_drop (l : List UInt8) (b : Nat) (r : List UInt8) (j : Nat) (hj : j < r.length) (h : bt r j = 10 ∨ bt r j = 34) : mid l b r (j + 1) = mid l b r j := by
  unfold mid
  rw [take_bt r j hj, List.filter_append]
  have : keepB (UInt8.ofNat (bt r j)) = false := by
    have hlt := bt_lt r j
    rcases h with h | h <;> simp [keepB, h]
  simp [List.filter, this]
theorem mid_len (l : List UInt8) (b : Nat) (r : List UInt8) (j : Nat) (hb : b ≤ l.length) (hj : j ≤ r.length) : (mid l b r j).length ≤ b + 1 + j := by
  unfold mid
  have := List.length_filter_le keepB (r.take j)
  simp only [List.length_append, List.length_take, List.length_cons] at this ⊢
  omega
theorem mid_end (l : List UInt8) (b : Nat) (r : List UInt8) : ∃ f : List UInt8, (∀ c ∈ f, c.toNat ≠ 34 ∧ c.toNat ≠ 10) ∧ mid l b r r.length ++ [10] ++ l.drop b = l.take b ++ 35 :: (f ++ 10 :: l.drop b) := by
  refine ⟨r.filter keepB, fun c hc => ?_, ?_⟩
  · have := (List.mem_filter.1 hc).2
    simp [keepB] at this
    exact ⟨this.2, this.1⟩
  · unfold mid
    rw [List.take_of_length_le (Nat.le_refl _)]
    simp

theorem Rd.lo {w : World} {B n c k : Nat} {A : Option Addr} {l : List UInt8} (h : Rd w B 1 A n c (l.map vb)) (hk : k ≤ n) : Rd w B 1 A k c ((l.take k).map vb) := by
  have hl := h.blen
  refine ⟨by simp; omega, by have := h.cap; omega, h.big, fun h0 => ?_⟩
  obtain ⟨b, off, e, hb, hc⟩ := h.cells (by omega)
  refine ⟨b, off, e, hb, fun j u hj => hc j u ?_⟩
  have hj2 : j < k := by
    rcases Nat.lt_or_ge j k with h3 | h3
    · exact h3
    · rw [List.getElem?_eq_none (by simp; omega)] at hj; cases hj
  simpa [List.getElem?_map, List.getElem?_take, hj2] using hj
theorem Rd.hi {w : World} {B n c k : Nat} {p : Addr} {l : List UInt8} (h : Rd w B 1 (some p) n c (l.map vb)) (hk : k ≤ n) : Rd w B 1 (some (p.add k)) (n - k) (c - k) ((l.drop k).map vb) := by
  have hl := h.blen
  refine ⟨by simp; omega, by have := h.cap; omega, by have := h.big; omega, fun h0 => ?_⟩
  obtain ⟨b, off, e, hb, hc⟩ := h.cells (by omega)
  injection e with e
  subst e
  have hadd : (⟨b, off, none⟩ : Addr).add k = ⟨b, off + k, none⟩ := by unfold Addr.add; split <;> simp_all
  refine ⟨b, off + k, by rw [hadd], hb, fun j u hj => ?_⟩
  rw [Nat.add_assoc]
  apply hc
  simpa [List.getElem?_map, List.getElem?_drop] using hj
theorem Rd.hi_end {w : World} {B n c k : Nat} {A : Option Addr} {l : List UInt8} (h : Rd w B 1 A n c (l.map vb)) (hk : n ≤ k) : Rd w B 1 A (n - k) (c - k) ((l.drop k).map vb) := by
  have hl := h.blen
  refine ⟨by simp; omega, by have := h.cap; omega, by have := h.big; omega, fun h0 => by omega⟩
/-- A row of bytes of the call's own. -/
def OwnB (w : World) (B : Nat) (A : Option Addr) (c : Nat) (X : List UInt8) : Prop := w.ownsRow B 5 1 (.slice A X.length c) X.length (X.map vb)
theorem OwnB.mk' {w : World} {B n c : Nat} {A : Option Addr} {X : List UInt8} {xs : List Value} (h : w.ownsRow B 5 1 (.slice A n c) n xs) (hn : n = X.length) (hx : xs = X.map vb) : OwnB w B A c X := by
  subst hn hx
  exact h
theorem OwnB.below {w w' : World} {B c : Nat} {A : Option Addr} {X : List UInt8} (h : OwnB w B A c X) (hb : Below w.heap.size w w') : OwnB w' B A c X := own_below_all h hb

set_option pp.deepTerms true in
set_option maxHeartbeats 4000000 in
set_option maxRecDepth 100000 in
theorem comments_walk (A : Option Addr) (n c : Nat) (l : List UInt8) (A' : Option Addr) (n' c' : Nat) (r : List UInt8) (q : Nat) (hq64 : q < 18446744073709551616) (m : Int) (w : World) (h : Rd w w.heap.size 1 A n c (l.map vb)) (h' : Rd w w.heap.size 1 A' n' c' (r.map vb)) (hm : w.cell? ⟨0, 0, none⟩ = some (.int .i64 m)) :
    Calls Tryz.prog 9 #[.slice A n c, .int .u64 (q : Int), .slice A' n' c'] w fun e w' => e = .returned (.bool true) ∧ Below w.heap.size w w' := by
  have hlen := h.blen
  have hcap := h.cap
  have hbig := h.big
  have hlen' := h'.blen
  have hcap' := h'.cap
  have hbig' := h'.big
  subst hlen hlen'
  by_cases hn : l.length > 2000
  · go_enter Tryz.func9, Tryz.ntmps9
    go_wp2_with (go_at_call 11; refine (sane_any _ m hm).mono ?_; rintro e w1 ⟨rfl, hb1⟩)
    go_ret
    exact ⟨rfl, hb1⟩
  · by_cases hn' : r.length > 100
    · go_enter Tryz.func9, Tryz.ntmps9
      go_wp2_with (go_at_call 11; refine (sane_any _ m hm).mono ?_; rintro e w1 ⟨rfl, hb1⟩)
      go_ret
      exact ⟨rfl, hb1⟩
    · have hA := Lib.hid (show A = none → l.length = 0 from fun e => by
        rcases Nat.eq_zero_or_pos l.length with h0 | h0
        · exact h0
        · obtain ⟨b, off, e', _⟩ := h.cells h0
          rw [e] at e'; cases e')
      go_enter Tryz.func9, Tryz.ntmps9
      go_wp2_with (fail)
      refine (sane_any _ m hm).mono ?_
      rintro e w1 ⟨rfl, hb1'⟩
      have hb1 := Lib.hid hb1'
      clear hb1'
      have hr := Lib.hid ((h.below hb1.out).more hb1.out.size)
      have hr' := Lib.hid ((h'.below hb1.out).more hb1.out.size)
      go_wp2_with (fail)
      refine (tokens_any A l.length c l w1 hr.out (by omega)).mono ?_
      have hT0 : (lex l).1 ≠ [] := by
        obtain ⟨T0, P0, hx, _⟩ := lex_inv l
        rw [hx]; simp
      unfold TokPost
      rintro e w2 ⟨A1, A2, c1, c2, rfl, h1', h2', hb2'⟩
      have hal := Lib.hid (fun t ht => lex_al l t ht)
      have hlc := Lib.hid (fun (f : List UInt8) hf t ht b hb => lex_comment l f hf t ht b hb)
      generalize (lex l).2.length = pl at *
      generalize hTl : (lex l).1 = T at *
      have h1 := Lib.hid h1'
      have hb2 := Lib.hid (chain hb1.out hb2')
      have hr2 := Lib.hid ((hr.out.below hb2').more hb2'.size)
      have hr2' := Lib.hid ((hr'.out.below hb2').more hb2'.size)
      have hTp : 0 < T.length := List.length_pos_iff.2 hT0
      have hc1 := h1.out.cap
      have hc2 := h1.out.big
      clear h1' h2' hb2' hr hr' hb1
      have e0 : ((T.length : Int) == 0) = false := by rw [beq_eq_false_iff_ne]; omega
      have e1 : (T.length : Int) ≠ 0 := by omega
      have hk : q % T.length < T.length := Nat.mod_lt _ hTp
      obtain ⟨b, off, t, rfl, hb, g0, g1, g2, g3⟩ := h1.out.tok (k := q % T.length) hk
      obtain ⟨at_, hat, hatl, _⟩ := hal.out t (List.mem_of_getElem? g0)
      rw [hat] at g3
      have hax : Hid ((l.take at_).length = at_) := by show (l.take at_).length = at_; simp; omega
      have hB0 : Hid (Below w2.heap.size w2 (w2.alloc (.cells #[] 5))) := (Below.refl _ w2).alloc (Nat.le_refl _) _
      have ho0 : Hid ((w2.alloc (.cells #[] 5)).ownsRow w2.heap.size 5 1 (.slice (some ⟨w2.heap.size, 0, none⟩) 0 0) 0 []) := own_new w2 _ _ _ (Nat.le_refl _)
      have hm0 : Hid ((l.take at_).length + 1 = (mid l at_ r 0).length) := by show (l.take at_).length + 1 = (mid l at_ r 0).length; rw [mid_zero]; simp
      have hm1 : Hid ((l.take at_).map vb ++ [.int .u8 35] = (mid l at_ r 0).map vb) := by show (l.take at_).map vb ++ [.int .u8 35] = (mid l at_ r 0).map vb; rw [mid_zero]; simp [vb]
      rcases A with _ | p
      all_goals
        go_wp2_with (first
          | (at_builtin; refine wpList_app elemByte rfl (.tmp 57) (.tmp 60) rfl w2.heap.size _ 0 0 [] rfl ho0.out w2.heap.size _ _ _ rfl _ ((hr2.out.below hB0.out).lo hatl) (vb_one _) (by omega) (by omega) (by simp) ?_; intro A3 c3 w3 ho3' hb3' hg3; have ho3 := Lib.hid (show w3.ownsRow w2.heap.size 5 1 (.slice A3 at_ c3) at_ ((l.take at_).map vb) by simpa using ho3'); have hb3 := Lib.hid (hB0.out.trans hb3'); clear ho3' hb3' hg3; simp only [Nat.zero_add])
          | (at_builtin; go_must (refine wpList_push elemByte rfl (.tmp 62) (.tmp 63) rfl w2.heap.size A3 at_ c3 _ rfl (ho3.out.alloc _) _ rfl [.int .u8 35] rfl (new_cells _ _ _) (by intro u hu; simp at hu; subst hu; rfl) (by omega) (by omega) (by have := hb3.out.size; simp; omega) ?_; intro A4 c4 w4 ho4' hb4' hg4; have ho4 := Lib.hid (show OwnB w4 w2.heap.size A4 c4 (mid l at_ r 0) from OwnB.mk' ho4' (by rw [← hm0.out, hax.out]) hm1.out); have hb4 := Lib.hid ((hb3.out.alloc hb3.out.size _).trans hb4'); clear ho4' hb4' hg4)))
        go_loopw [11, 12] (fun s11 s12 wr => ∃ (j : Nat) (Ax : Option Addr) (cx : Nat), j ≤ r.length ∧ s12 = .int .i64 j ∧ s11 = .slice Ax (mid l at_ r j).length cx ∧ Hid (OwnB wr w2.heap.size Ax cx (mid l at_ r j)) ∧ Hid (Below w2.heap.size w2 wr)) (fun _ s12 _ => r.length - (intOf s12).toNat)
        case atStart => exact ⟨0, A4, c4, Nat.zero_le _, rfl, slice_eq (by rw [← hm0.out, hax.out]), ho4.out, hb4.out⟩
        case round =>
          obtain ⟨j, Ax, cx, hj, rfl, rfl, hox, hbx⟩ := hrel
          have hml := mid_len l at_ r j hatl hj
          by_cases hlt : j < r.length
          · have hsz := hbx.out.size
            have hrr := Lib.hid (hr2'.out.below hbx.out)
            obtain ⟨b5, o5, rfl, hb5, hc5⟩ := hrr.out.byte (k := j) hlt
            by_cases h10 : bt r j = 10
            · have e3 := ynb (a := bt r j) (m := 10) (by omega)
              have HM := Lib.hid (mid_drop l at_ r j hlt (.inl h10))
              clear h10
              go_wp2
              go_roundw
              case rel => exact ⟨j + 1, Ax, cx, by omega, by go_num, by rw [HM.out], by rw [HM.out]; exact hox.out, hbx.out⟩
              case measure => simp [intOf]; omega
            · have e3 := nnb (a := bt r j) (m := 10) (by omega)
              by_cases h34 : bt r j = 34
              · have e4 := ynb (a := bt r j) (m := 34) (by omega)
                have HM := Lib.hid (mid_drop l at_ r j hlt (.inr h34))
                clear h10 h34
                go_wp2
                go_roundw
                case rel => exact ⟨j + 1, Ax, cx, by omega, by go_num, by rw [HM.out], by rw [HM.out]; exact hox.out, hbx.out⟩
                case measure => simp [intOf]; omega
              · have e4 := nnb (a := bt r j) (m := 34) (by omega)
                have HM := Lib.hid (mid_keep l at_ r j hlt h10 h34)
                generalize mid l at_ r j = X at *
                clear h10 h34
                go_wp2_with (at_builtin; go_must (refine wpList_push elemByte rfl (.tmp 83) (.tmp 88) rfl w2.heap.size Ax X.length cx (X.map vb) rfl (hox.out.alloc _) _ rfl [.int .u8 (bt r j : Int)] rfl (new_cells wr _ _) (by intro u hu; simp at hu; subst hu; rfl) (by omega) (by omega) (by simp; omega) ?_; intro A5 c5 w5 hown5 hbl5 hg5))
                go_roundw
                case rel => exact ⟨j + 1, A5, c5, by omega, by go_num, by rw [HM.out]; exact slice_eq (by simp), by rw [HM.out]; exact own_snoc _ _ (bt_of r j) hown5, (hbx.out.alloc hbx.out.size _).trans hbl5⟩
                case measure => simp [intOf]; omega
          · obtain rfl : j = r.length := by omega
            obtain ⟨f, hf, he⟩ := mid_end l at_ r
            have hLC := Lib.hid (hlc.out f hf t (List.mem_of_getElem? g0) at_ hat)
            have He := Lib.hid he
            generalize mid l at_ r r.length = X at *
            clear hf he g0 hat
            have hsz := hbx.out.size
            by_cases hca : c = at_
            all_goals
              go_wp2
              go_region_law (first
                | (refine step_push elemByte rfl (.tmp 90) (.tmp 91) rfl w2.heap.size Ax X.length cx (X.map vb) (by simp [Act.eval, Act.put]) (own_below_all hox.out (by go_grown; try exact Below.refl _ _)) wr.heap.size (by simp [Act.eval, Act.put]) [.int .u8 10] rfl (by intro j u hj; exact new_cells _ _ _ j u hj) (by intro u hu; simp at hu; subst hu; rfl) (by omega) (by omega) (by simp; omega) ?_; intro A5 c5 w5 hown5 hbl5 hg5; have ho5 := Lib.hid (show OwnB w5 w2.heap.size A5 c5 (X ++ [10]) from OwnB.mk' hown5 (by simp) (by simp [vb])); have hb5 := Lib.hid ((hbx.out.trans (Below.mono (by go_grown; try exact Below.refl _ _) hsz)).trans hbl5); clear hown5 hbl5 hg5)
                | (refine step_app elemByte rfl (.tmp 92) (.tmp 95) rfl w2.heap.size A5 (X.length + 1) c5 ((X ++ [10]).map vb) (by simp [Act.eval, Act.put]) (by have := ho5.out; unfold OwnB at this; simpa using this) w2.heap.size none (l.length - at_) (c - at_) (by simp [Act.eval, Act.put, hca]) _ ((hr2.out.below hb5.out).hi_end (by have := hA.out (by simp); omega)) (vb_one _) (by omega) (by omega) (hb5.out.size) ?_; intro A6 c6 w6 hown6 hbl6 hg6)
                | (refine step_app elemByte rfl (.tmp 92) (.tmp 95) rfl w2.heap.size A5 (X.length + 1) c5 ((X ++ [10]).map vb) (by simp [Act.eval, Act.put]) (by have := ho5.out; unfold OwnB at this; simpa using this) w2.heap.size (some p) (l.length - at_) (c - at_) (by simp [Act.eval, Act.put, hca]) _ ((hr2.out.below hb5.out).hi_end (by omega)) (vb_one _) (by omega) (by omega) (hb5.out.size) ?_; intro A6 c6 w6 hown6 hbl6 hg6)
                | (refine step_app elemByte rfl (.tmp 92) (.tmp 95) rfl w2.heap.size A5 (X.length + 1) c5 ((X ++ [10]).map vb) (by simp [Act.eval, Act.put]) (by have := ho5.out; unfold OwnB at this; simpa using this) w2.heap.size (some (p.add at_)) (l.length - at_) (c - at_) (by simp [Act.eval, Act.put, hca]) _ ((hr2.out.below hb5.out).hi hatl) (vb_one _) (by omega) (by omega) (hb5.out.size) ?_; intro A6 c6 w6 hown6 hbl6 hg6))
              all_goals
                have hown7 := Lib.hid (own_rd hown6)
                have hb7 := Lib.hid (hb5.out.trans hbl6)
                clear hown6 hbl6 hg6 ho5 hb5
                rw [← List.map_append, He.out] at hown7
                generalize hZ : l.take at_ ++ 35 :: (f ++ 10 :: l.drop at_) = Z at *
                have hZl := Lib.hid hown7.out.blen
                go_wp2_with (fail)
                refine (tokens_any A6 _ c6 Z w6 hown7.out (by omega)).mono ?_
                unfold TokPost
                rintro e w8 ⟨A8, A9, c8, c9, rfl, h8', h9', hb8'⟩
                have h8 := Lib.hid h8'
                have hb8 := Lib.hid (hb7.out.trans (hb8'.mono hb7.out.size))
                have h1b := Lib.hid (h1.out.below hb8.out)
                clear h8' h9' hb8'
                generalize (lex Z).2.length = pz at *
                generalize (lex Z).1 = TZ at *
                go_wp2_with (fail)
                refine (alike_any _ _ _ _ _ _ _ T TZ w8 (h1b.out.more hb8.out.size) h8.out).mono ?_
                rintro e w9 ⟨rfl, hb9'⟩
                have hb9 := Lib.hid (chain hb2.out (chain hb8.out hb9'))
                clear hb9'
                rw [show (decide (T.map look = TZ.map look)) = true from decide_eq_true hLC.out.symm]
                go_wp2
                go_ret
                exact ⟨rfl, hb9.out⟩
end Go.Proofs.YtbfgmbijmdbcmaaGreatDoor
