/- The parser's integer by its contract. -/
import Derived.Test.YtlgdmbdhffdenaaGreatDoorYSt
import Derived.Test.YtlgdmbdhffdenaaGreatDoorPD
namespace Go.Proofs.YtlgdmbdhffdenaaGreatDoor
set_option linter.unusedVariables false
set_option linter.unusedSimpArgs false
open Go.RowKit

theorem nx_len {T : List Tok} {a : Nat} (hT : TOk T) : (nx T a).text.length ≤ 65536 := by
  by_cases hk : a < T.length
  · rw [show nx T a = T[a] by simp [nx, hk]]
    exact hT.text _ (List.getElem_mem hk)
  · rw [nx_out T (by omega)]; simp
theorem nx_int {T : List Tok} {a : Nat} (hT : TOk T) (h : (nx T a).kind = 2) : intB (nx T a).text = true := by
  have hk := nx_kind T (a := a) (by rw [h]; decide)
  rw [show nx T a = T[a] by simp [nx, hk]] at h ⊢
  exact hT.int _ (List.getElem_mem hk) h

set_option maxHeartbeats 1000000 in
set_option maxRecDepth 100000 in
theorem yint_any (B g : Nat) (A : Option Addr) (n c : Nat) (T : List Tok) (a : Nat) (w : World) (h : PSt w B g A n c T a) (hT : TOk T) (ha : a ≤ 65537) :
    Calls Tryz.prog 58 #[.pointer (some ⟨g, 0, none⟩)] w (PPost w B g A n c T (pint T a) fun x _ v => v = .int .i64 x ∧ -1000000000000000000 < x ∧ x < 1000000000000000000) := by
  have htx := nx_len (a := a) hT
  have hti := nx_int (a := a) hT
  obtain ⟨⟨k, tx, p⟩, ht⟩ : ∃ t, nx T a = t := ⟨_, rfl⟩
  have HN := Lib.hid (ynext_any B g A n c T a w h (by omega))
  have HD : pint T a = if k = 2 then .ok (num tx) (a + 1) else .bad a := by rw [pint, ht]
  rw [ht] at HN htx hti
  dsimp only at htx hti
  have HS := Lib.hid h
  clear ht hT h
  by_cases e1 : k = 2
  · obtain ⟨q1, q2, q3⟩ := atoi_int (hti e1)
    have HB := Lib.hid (And.intro q2 q3)
    have HA := Lib.hid q1
    rw [if_pos e1] at HD
    have HE := Lib.hid HD
    subst e1
    clear hti q1 q2 q3 HD
    go_enter Tryz.func58, Tryz.ntmps58
    go_wp2_with (fail)
    refine HN.out.mono ?_
    rintro e w1 ⟨rfl, hb1'⟩
    have hb1 := Lib.hid hb1'
    clear hb1'
    unfold tokV
    dsimp only
    go_wp2_with (fail)
    first | (refine calls_named ?_; intro W hW) | (refine body_named ?_; intro W hW) | (refine wpList_named ?_; intro W hW) | (refine wp_named ?_; intro W hW)
    have hb2 := Lib.hid (show Below w.heap.size w W by rw [← hW]; exact hb1.out.alloc hb1.out.size _)
    have hk2 : Blk W w1.heap.size 53 #[.int .i64 2, .string (bs tx), .int .i64 p] := by rw [← hW]; exact Blk.new _ _ _
    clear hW
    refine (atoi_any tx (by omega) W (HS.out.below hb2.out).gb.now).mono ?_
    rintro e w2 ⟨hor, hb3'⟩
    have hk3 := hk2.below hb3' hk2.lt
    have hb3 := Lib.hid (hb2.out.trans (hb3'.mono hb2.out.size))
    clear hb3' hk2
    have y0 : w2.cell? ⟨w1.heap.size, 0, none⟩ = some (.int .i64 2) := by rw [hk3.cell]; rfl
    rcases hor with ⟨v, hv, rfl⟩ | ⟨hv, _⟩
    · obtain rfl : v = num tx := by have := hv.symm.trans HA.out; injection this
      have HP := Lib.hid (HS.out.below hb3.out)
      have c1 := HP.out.at_
      have f1 := HP.out.free 1
      clear hv hk3
      generalize num tx = x at *
      go_wp2_with (fail)
      go_ret
      unfold PPost
      rw [HE.out]
      exact ⟨(Only.of_below hb3.out).trans (Only.set (S := (· = g)) _ (p := ⟨g, 1, none⟩) rfl _), ⟨_, rfl, rfl, HB.out⟩, HP.out.move (a + 1)⟩
    · exact absurd HA.out (hv _)
  · rw [if_neg e1] at HD
    have HE := Lib.hid HD
    clear hti HD
    go_enter Tryz.func58, Tryz.ntmps58
    go_wp2_with (fail)
    refine HN.out.mono ?_
    rintro e w1 ⟨rfl, hb1'⟩
    have hb1 := Lib.hid hb1'
    clear hb1'
    unfold tokV
    dsimp only
    go_wp2_with (fail)
    first | (refine calls_named ?_; intro W hW) | (refine body_named ?_; intro W hW) | (refine wpList_named ?_; intro W hW) | (refine wp_named ?_; intro W hW)
    have hb2 := Lib.hid (show Below w.heap.size w W by rw [← hW]; exact hb1.out.alloc hb1.out.size _)
    have hk2 : Blk W w1.heap.size 53 #[.int .i64 k, .string (bs tx), .int .i64 p] := by rw [← hW]; exact Blk.new _ _ _
    clear hW
    refine (atoi_any tx (by omega) W (HS.out.below hb2.out).gb.now).mono ?_
    rintro e w2 ⟨hor, hb3'⟩
    have hk3 := hk2.below hb3' hk2.lt
    have hb3 := Lib.hid (hb2.out.trans (hb3'.mono hb2.out.size))
    clear hb3' hk2
    have y0 : w2.cell? ⟨w1.heap.size, 0, none⟩ = some (.int .i64 k) := by rw [hk3.cell]; rfl
    have e2 : (k != 2) = true := by rw [bne_iff_ne]; exact e1
    obtain ⟨x, z, rfl⟩ : ∃ x z, e = .returned (.tuple #[.int .i64 x, z]) := by
      rcases hor with ⟨v, hv, rfl⟩ | ⟨hv, x, tp, q, rfl⟩
      · exact ⟨_, _, rfl⟩
      · exact ⟨_, _, rfl⟩
    clear hor hk3
    go_wp2_with (fail)
    refine (yfail_any g w2).mono ?_
    rintro e w4 ⟨rfl, rfl⟩
    go_wp2
    refine ⟨rfl, ?_⟩
    unfold PPost
    rw [HE.out]
    exact ⟨Only.of_below hb3.out, rfl, HS.out.below hb3.out⟩
end Go.Proofs.YtlgdmbdhffdenaaGreatDoor
