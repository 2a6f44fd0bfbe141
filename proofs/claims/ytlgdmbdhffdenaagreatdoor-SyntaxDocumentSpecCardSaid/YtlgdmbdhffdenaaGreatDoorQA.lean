/- The reference's Keyword by its contract. -/
import Derived.Test.YtlgdmbdhffdenaaGreatDoorKeyword
import Derived.Test.YtlgdmbdhffdenaaGreatDoorYSt
import Derived.Test.YtlgdmbdhffdenaaGreatDoorPD
import Derived.Test.YtlgdmbdhffdenaaGreatDoorYLeast
import Derived.Test.YtlgdmbdhffdenaaGreatDoorYUnit
import Derived.Test.YtlgdmbdhffdenaaGreatDoorYSteps
namespace Go.Proofs.YtlgdmbdhffdenaaGreatDoor
set_option linter.unusedVariables false
set_option linter.unusedSimpArgs false
open Go.RowKit

def kwsE : List (List UInt8) := [[114, 117, 108, 101, 115], [119, 105, 110], [100, 114, 97, 119], [108, 111, 115, 115], [111, 114, 100, 101, 114], [122, 111, 110, 101, 115], [116, 111], [105, 102], [101, 108, 115, 101], [97, 110, 100], [111, 114], [110, 111, 116], [116, 105, 101, 100], [114, 111, 117, 110, 100], [102, 105, 110, 105, 115, 104, 101, 100], [99, 108, 117, 98, 115], [112, 111, 105, 110, 116, 115], [100, 105, 102, 102, 101, 114, 101, 110, 99, 101], [103, 111, 97, 108, 115], [119, 105, 110, 115], [97, 119, 97, 121], [102, 97, 105, 114], [104, 101, 97, 100], [108, 111, 116, 115]]
theorem kws_E : kws = kwsE := by decide +kernel
set_option maxHeartbeats 4000000 in
set_option maxRecDepth 100000 in
theorem rkeyword_any (l : List UInt8) (w : World) : Calls Tryz.prog 79 #[.string (bs l)] w fun e w' => e = .returned (.bool (kwB l)) ∧ w = w' := by
  cases hk : kwB l with
  | false =>
    have h : ∀ x ∈ kwsE, (l == x) = false := fun x hx => by
      cases hq : l == x
      · rfl
      · have e : l = x := by simpa using hq
        subst e
        have h2 : kwB l = true := by unfold kwB; rw [kws_E, List.contains_iff_mem]; exact hx
        rw [hk] at h2; cases h2
    have f0 := h [114, 117, 108, 101, 115] (by simp [kwsE])
    have f1 := h [119, 105, 110] (by simp [kwsE])
    have f2 := h [100, 114, 97, 119] (by simp [kwsE])
    have f3 := h [108, 111, 115, 115] (by simp [kwsE])
    have f4 := h [111, 114, 100, 101, 114] (by simp [kwsE])
    have f5 := h [122, 111, 110, 101, 115] (by simp [kwsE])
    have f6 := h [116, 111] (by simp [kwsE])
    have f7 := h [105, 102] (by simp [kwsE])
    have f8 := h [101, 108, 115, 101] (by simp [kwsE])
    have f9 := h [97, 110, 100] (by simp [kwsE])
    have f10 := h [111, 114] (by simp [kwsE])
    have f11 := h [110, 111, 116] (by simp [kwsE])
    have f12 := h [116, 105, 101, 100] (by simp [kwsE])
    have f13 := h [114, 111, 117, 110, 100] (by simp [kwsE])
    have f14 := h [102, 105, 110, 105, 115, 104, 101, 100] (by simp [kwsE])
    have f15 := h [99, 108, 117, 98, 115] (by simp [kwsE])
    have f16 := h [112, 111, 105, 110, 116, 115] (by simp [kwsE])
    have f17 := h [100, 105, 102, 102, 101, 114, 101, 110, 99, 101] (by simp [kwsE])
    have f18 := h [103, 111, 97, 108, 115] (by simp [kwsE])
    have f19 := h [119, 105, 110, 115] (by simp [kwsE])
    have f20 := h [97, 119, 97, 121] (by simp [kwsE])
    have f21 := h [102, 97, 105, 114] (by simp [kwsE])
    have f22 := h [104, 101, 97, 100] (by simp [kwsE])
    have f23 := h [108, 111, 116, 115] (by simp [kwsE])
    clear h hk
    go_enter Tryz.func79, Tryz.ntmps79
    go_wp2
    go_ret
    exact ⟨rfl, rfl⟩
  | true =>
    have h : l ∈ kwsE := by
      unfold kwB at hk
      rw [kws_E, List.contains_iff_mem] at hk
      exact hk
    clear hk
    simp only [kwsE, List.mem_cons, List.not_mem_nil, or_false] at h
    rcases h with rfl | rfl | rfl | rfl | rfl | rfl | rfl | rfl | rfl | rfl | rfl | rfl | rfl | rfl | rfl | rfl | rfl | rfl | rfl | rfl | rfl | rfl | rfl | rfl
    all_goals
      go_enter Tryz.func79, Tryz.ntmps79
      go_wp2
      go_ret
      exact ⟨rfl, rfl⟩
end Go.Proofs.YtlgdmbdhffdenaaGreatDoor

/- The reference's parser in memory; next, fail, is, want, name by their contracts. A parser stands at a token, or is stopped at one: Res Unit. -/
namespace Go.Proofs.YtlgdmbdhffdenaaGreatDoor
set_option linter.unusedVariables false
set_option linter.unusedSimpArgs false
open Go.RowKit

def posA (s : Res Unit) : Nat := match s with | .ok _ n => n | .bad n => n
def posB (s : Res Unit) : Bool := match s with | .ok .. => false | .bad _ => true
/-- A result's state, without its thing. -/
def Res.st {α : Type} (r : Res α) : Res Unit := match r with | .ok _ n => .ok () n | .bad n => .bad n
/-- Block g is the reference's parser over the tokens T, in state s; the tokens lie below B. -/
structure QSt (w : World) (B g : Nat) (A : Option Addr) (n c : Nat) (T : List Tok) (s : Res Unit) : Prop where
  blk : Blk w g 64 #[.slice A n c, vi (posA s), .bool (posB s)]
  src : Rd w B 3 A n c (T.flatMap tokCells)
  lb : B ≤ g
section
variable {w w' : World} {B g n c : Nat} {A : Option Addr} {T : List Tok} {s : Res Unit}
theorem QSt.l (h : QSt w B g A n c T s) : w.cell? ⟨g, 0, none⟩ = some (.slice A n c) := by rw [h.blk.cell]; rfl
theorem QSt.at_ (h : QSt w B g A n c T s) : w.cell? ⟨g, 1, none⟩ = some (.int .i64 (posA s : Int)) := by rw [h.blk.cell]; rfl
theorem QSt.bad (h : QSt w B g A n c T s) : w.cell? ⟨g, 2, none⟩ = some (.bool (posB s)) := by rw [h.blk.cell]; rfl
theorem QSt.free (h : QSt w B g A n c T s) (i : Nat) : w.frozen? ⟨g, i, none⟩ = false := h.blk.frozen i
theorem QSt.lt (h : QSt w B g A n c T s) : g < w.heap.size := h.blk.lt
theorem QSt.tlen (h : QSt w B g A n c T s) : T.length = n := h.src.tlen
theorem QSt.only {S : Nat → Prop} (h : QSt w B g A n c T s) (ho : Only S w w') (h1 : ¬ S g) (h2 : ∀ k, S k → B ≤ k) : QSt w' B g A n c T s :=
  ⟨h.blk.only ho h1, h.src.only ho (Nat.le_trans h.lb (Nat.le_of_lt h.lt)) (fun k hk hS => by have := h2 k hS; omega), h.lb⟩
theorem QSt.below (h : QSt w B g A n c T s) (hb : Below w.heap.size w w') : QSt w' B g A n c T s := h.only (S := fun _ => False) (Only.of_below hb) (fun h => h) (fun _ h => h.elim)
/-- The parser goes on, or stops. -/
theorem QSt.move (h : QSt w B g A n c T s) {s' : Res Unit} (hs : posB s' = posB s) : QSt (w.setCell ⟨g, 1, none⟩ (.int .i64 (posA s' : Int))) B g A n c T s' := by
  have ho : Only (· = g) w (w.setCell ⟨g, 1, none⟩ (.int .i64 (posA s' : Int))) := Only.set (S := (· = g)) w (p := ⟨g, 1, none⟩) rfl _
  refine ⟨?_, h.src.only ho (Nat.le_trans h.lb (Nat.le_of_lt h.lt)) (fun k hk hS => by have := h.lb; omega), h.lb⟩
  have := h.blk.set 1 (.int .i64 (posA s' : Int))
  rw [hs]
  exact this
theorem QSt.stop (h : QSt w B g A n c T s) : QSt (w.setCell ⟨g, 2, none⟩ (.bool true)) B g A n c T (.bad (posA s)) := by
  have ho : Only (· = g) w (w.setCell ⟨g, 2, none⟩ (.bool true)) := Only.set (S := (· = g)) w (p := ⟨g, 2, none⟩) rfl _
  exact ⟨h.blk.set 2 (.bool true), h.src.only ho (Nat.le_trans h.lb (Nat.le_of_lt h.lt)) (fun k hk hS => by have := h.lb; omega), h.lb⟩
end
set_option maxHeartbeats 400000 in
set_option maxRecDepth 100000 in
theorem znext_any (B g : Nat) (A : Option Addr) (n c : Nat) (T : List Tok) (s : Res Unit) (w : World) (h : QSt w B g A n c T s) (ha : posA s ≤ 70000) :
    Calls Tryz.prog 29 #[.pointer (some ⟨g, 0, none⟩)] w fun e w' => e = .returned (tokV (nx T (posA s))) ∧ Below w.heap.size w w' := by
  have hcap := h.src.cap
  have hbig := h.src.big
  have c0 := h.l
  have c1 := h.at_
  have HL := Lib.hid h.tlen
  have hlt := h.lt
  obtain ⟨a, ea⟩ : ∃ a, posA s = a := ⟨_, rfl⟩
  rw [ea] at c1 ha ⊢
  by_cases hk : a < n
  · obtain ⟨b, off, t, rfl, hb, ht, _, _, _⟩ := h.src.tok hk
    have HN := Lib.hid (show nx T a = t by unfold nx; rw [ht]; rfl)
    go_enter Tryz.func29, Tryz.ntmps29
    go_wp2
    go_quiet (fail)
    go_wp2
    first | (refine calls_named ?_; intro W hW) | (refine body_named ?_; intro W hW) | (refine wpList_named ?_; intro W hW) | (refine wp_named ?_; intro W hW)
    have hbw := Lib.hid (show Below w.heap.size w W by rw [← hW]; exact ((Below.refl _ _).alloc (Nat.le_refl _) _).trans (bdrew _ nq))
    have hk1 : Blk W w.heap.size 53 #[.int .i64 0, .string ⟨#[]⟩, .int .i64 0] := by rw [← hW]; exact (Blk.new _ _ _).drewN _
    have h1 := h.below hbw.out
    clear c0 c1 hW h
    obtain ⟨_, _, t', ⟨⟩, _, ht', g0, g1, g2⟩ := h1.src.tok hk
    rw [ht] at ht'
    cases ht'
    have c0 := h1.l
    have c1 := h1.at_
    rw [ea] at c1
    clear h1 ht
    go_still_tail 10, (by kernel_rfl)
    first | (refine calls_named ?_; intro W2 hW2) | (refine body_named ?_; intro W2 hW2) | (refine wpList_named ?_; intro W2 hW2) | (refine wp_named ?_; intro W2 hW2)
    have hb2 := Lib.hid (show Below w.heap.size w W2 by rw [← hW2]; exact hbw.out.trans (bdrew _ 1))
    have hk2 : Blk W2 w.heap.size 53 #[.int .i64 0, .string ⟨#[]⟩, .int .i64 0] := by rw [← hW2]; exact hk1
    clear hW2 hk1
    have f0 := hk2.frozen 0
    have f1 := hk2.frozen 1
    have f2 := hk2.frozen 2
    have x0 : W2.cell? ⟨w.heap.size, 0, none⟩ = some (.int .i64 0) := by rw [hk2.cell]; rfl
    have x1 : W2.cell? ⟨w.heap.size, 1, none⟩ = some (.string ⟨#[]⟩) := by rw [hk2.cell]; rfl
    have x2 : W2.cell? ⟨w.heap.size, 2, none⟩ = some (.int .i64 0) := by rw [hk2.cell]; rfl
    have l0 := hk2.lt
    go_wp2
    first | (refine calls_named ?_; intro W3 hW3) | (refine body_named ?_; intro W3 hW3) | (refine wpList_named ?_; intro W3 hW3) | (refine wp_named ?_; intro W3 hW3)
    have hb3 := Lib.hid (show Below w.heap.size w W3 by rw [← hW3]; exact ((hb2.out.setCell (Nat.le_refl _) _).setCell (Nat.le_refl _) _).setCell (Nat.le_refl _) _)
    have hk3 : Blk W3 w.heap.size 53 #[.int .i64 t.kind, .string (bs t.text), .int .i64 t.at_] := by rw [← hW3]; exact ((hk2.set 0 _).set 1 _).set 2 _
    have y0 : W3.cell? ⟨w.heap.size, 0, none⟩ = some (.int .i64 t.kind) := by rw [hk3.cell]; rfl
    have y1 : W3.cell? ⟨w.heap.size, 1, none⟩ = some (.string (bs t.text)) := by rw [hk3.cell]; rfl
    have y2 : W3.cell? ⟨w.heap.size, 2, none⟩ = some (.int .i64 t.at_) := by rw [hk3.cell]; rfl
    refine bodyPost_ret (by simp [results, Tryz.results29, go_sem, y0, y1, y2]; try rfl) rfl ?_
    exact ⟨by rw [HN.out]; rfl, hb3.out⟩
  · have HN := Lib.hid (nx_out T (a := a) (by have := HL.out; omega))
    go_enter Tryz.func29, Tryz.ntmps29
    go_wp2
    go_quiet (fail)
    go_wp2
    first | (refine calls_named ?_; intro W3 hW3) | (refine body_named ?_; intro W3 hW3) | (refine wpList_named ?_; intro W3 hW3) | (refine wp_named ?_; intro W3 hW3)
    have hb3 := Lib.hid (show Below w.heap.size w W3 by rw [← hW3]; exact ((((((Below.refl _ _).alloc (Nat.le_refl _) _).trans (bdrew _ nq)).setCell (Nat.le_refl _) _).setCell (Nat.le_refl _) _).setCell (Nat.le_refl _) _))
    have hk3 : Blk W3 w.heap.size 53 #[.int .i64 5, .string ⟨#[]⟩, .int .i64 0] := by rw [← hW3]; exact ((((Blk.new _ _ _).drewN _).set 0 _).set 1 _).set 2 _
    have y0 : W3.cell? ⟨w.heap.size, 0, none⟩ = some (.int .i64 5) := by rw [hk3.cell]; rfl
    have y1 : W3.cell? ⟨w.heap.size, 1, none⟩ = some (.string ⟨#[]⟩) := by rw [hk3.cell]; rfl
    have y2 : W3.cell? ⟨w.heap.size, 2, none⟩ = some (.int .i64 0) := by rw [hk3.cell]; rfl
    refine bodyPost_ret (by simp [results, Tryz.results29, go_sem, y0, y1, y2]; try rfl) rfl ?_
    exact ⟨by rw [HN.out]; rfl, hb3.out⟩
set_option maxRecDepth 100000 in
theorem zfail_any (B g : Nat) (A : Option Addr) (n c : Nat) (T : List Tok) (s : Res Unit) (w : World) (h : QSt w B g A n c T s) :
    Calls Tryz.prog 66 #[.pointer (some ⟨g, 0, none⟩)] w fun e w' => e = .returned (.tuple #[]) ∧ w' = w.setCell ⟨g, 2, none⟩ (.bool true) := by
  have fz := h.free 2
  have c2 := h.bad
  have hlt := h.lt
  go_enter Tryz.func66, Tryz.ntmps66
  go_wp2
  go_end0
  exact ⟨rfl, rfl⟩
/-- Is the next token this keyword or sign, where the parser has not stopped? -/
def qis (T : List Tok) (s : Res Unit) (x : List UInt8) : Bool := match s with | .ok _ a => isB T a x | .bad _ => false
set_option maxHeartbeats 400000 in
set_option maxRecDepth 100000 in
theorem zis_any (B g : Nat) (A : Option Addr) (n c : Nat) (T : List Tok) (s : Res Unit) (x : List UInt8) (w : World) (h : QSt w B g A n c T s) (ha : posA s ≤ 70000) :
    Calls Tryz.prog 43 #[.pointer (some ⟨g, 0, none⟩), .string (bs x)] w fun e w' => e = .returned (.bool (qis T s x)) ∧ Below w.heap.size w w' := by
  have HN := Lib.hid (znext_any B g A n c T s w h ha)
  have HQ := Lib.hid h
  obtain ⟨⟨k, tx, p⟩, ht⟩ : ∃ t, nx T (posA s) = t := ⟨_, rfl⟩
  rw [ht] at HN
  clear h
  cases s with
  | bad m =>
    clear ht
    go_enter Tryz.func43, Tryz.ntmps43
    go_wp2_with (fail)
    refine HN.out.mono ?_
    rintro e w1 ⟨rfl, hb1⟩
    have h1 := HQ.out.below hb1
    have c2 : w1.cell? ⟨g, 2, none⟩ = some (.bool true) := h1.bad
    have hg := h1.lt
    have HB1 := Lib.hid hb1
    clear h1 hb1
    unfold tokV
    dsimp only
    go_wp2_with (fail)
    go_ret
    exact ⟨rfl, HB1.out.alloc HB1.out.size _⟩
  | ok u a =>
    have HI : qis T (.ok u a) x = (tx == x && (k == 4 || (k == 1 && kwB x))) := by
      show isB T a x = _
      rw [isB, show nx T a = ⟨k, tx, p⟩ from ht]
    clear ht
    by_cases e1 : (tx == x) = true
    · rw [e1, Bool.true_and] at HI
      have HX := Lib.hid (show tx = x by simpa using e1)
      have e1' : bs tx = bs x := by rw [HX.out]
      by_cases e2 : k = 4
      · subst e2
        have HJ := Lib.hid HI; clear HI
        go_enter Tryz.func43, Tryz.ntmps43
        go_wp2_with (fail)
        refine HN.out.mono ?_
        rintro e w1 ⟨rfl, hb1⟩
        have h1 := HQ.out.below hb1
        have c2 : w1.cell? ⟨g, 2, none⟩ = some (.bool false) := h1.bad
        have hg := h1.lt
        have HB1 := Lib.hid hb1
        clear h1 hb1
        unfold tokV
        dsimp only
        go_wp2_with (fail)
        go_ret
        exact ⟨by rw [HJ.out]; rfl, HB1.out.alloc HB1.out.size _⟩
      · have e3 : (k == 4) = false := by rw [beq_eq_false_iff_ne]; exact e2
        rw [e3, Bool.false_or] at HI
        by_cases e4 : k = 1
        · subst e4
          have HJ := Lib.hid (show qis T (.ok u a) x = kwB x by rw [HI]; rfl); clear HI e2 e3
          go_enter Tryz.func43, Tryz.ntmps43
          go_wp2_with (fail)
          refine HN.out.mono ?_
          rintro e w1 ⟨rfl, hb1⟩
          have h1 := HQ.out.below hb1
          have c2 : w1.cell? ⟨g, 2, none⟩ = some (.bool false) := h1.bad
          have hg := h1.lt
          have HB1 := Lib.hid hb1
          clear h1 hb1
          unfold tokV
          dsimp only
          go_wp2_with (fail)
          first | (refine calls_named ?_; intro W hW) | (refine body_named ?_; intro W hW) | (refine wpList_named ?_; intro W hW) | (refine wp_named ?_; intro W hW)
          have hb2 := Lib.hid (show Below w.heap.size w W by rw [← hW]; exact HB1.out.alloc HB1.out.size _)
          clear hW
          refine (rkeyword_any x W).mono ?_
          rintro e w2 ⟨rfl, rfl⟩
          go_wp2_with (fail)
          go_ret
          exact ⟨by rw [HJ.out]; rfl, hb2.out⟩
        · have e5 : (k == 1) = false := by rw [beq_eq_false_iff_ne]; exact e4
          rw [e5, Bool.false_and] at HI
          have HJ := Lib.hid HI; clear HI
          go_enter Tryz.func43, Tryz.ntmps43
          go_wp2_with (fail)
          refine HN.out.mono ?_
          rintro e w1 ⟨rfl, hb1⟩
          have h1 := HQ.out.below hb1
          have c2 : w1.cell? ⟨g, 2, none⟩ = some (.bool false) := h1.bad
          have hg := h1.lt
          have HB1 := Lib.hid hb1
          clear h1 hb1
          unfold tokV
          dsimp only
          go_wp2_with (fail)
          go_ret
          exact ⟨by rw [HJ.out]; rfl, HB1.out.alloc HB1.out.size _⟩
    · rw [Bool.not_eq_true] at e1
      rw [e1, Bool.false_and] at HI
      have HJ := Lib.hid HI; clear HI
      go_enter Tryz.func43, Tryz.ntmps43
      go_wp2_with (fail)
      refine HN.out.mono ?_
      rintro e w1 ⟨rfl, hb1⟩
      have h1 := HQ.out.below hb1
      have c2 : w1.cell? ⟨g, 2, none⟩ = some (.bool false) := h1.bad
      have hg := h1.lt
      have HB1 := Lib.hid hb1
      clear h1 hb1
      unfold tokV
      dsimp only
      go_wp2_with (fail)
      go_ret
      exact ⟨by rw [HJ.out]; rfl, HB1.out.alloc HB1.out.size _⟩
end Go.Proofs.YtlgdmbdhffdenaaGreatDoor

/- The reference parser's want by its contract. -/
namespace Go.Proofs.YtlgdmbdhffdenaaGreatDoor
set_option linter.unusedVariables false
set_option linter.unusedSimpArgs false
open Go.RowKit

/-- What a function of the reference's parser hands back: a value of the right shape (J), the thing itself (V) where nothing stopped it; and the parser's state. -/
def QPost {α : Type} (w : World) (B g : Nat) (A : Option Addr) (n c : Nat) (T : List Tok) (r : Res α) (V : α → World → Value → Prop) (J : World → Value → Prop) (e : Ending) (w' : World) : Prop :=
  Only (· = g) w w' ∧ QSt w' B g A n c T r.st ∧ ∃ v, e = .returned v ∧ J w' v ∧ ∀ x m, r = .ok x m → V x w' v
theorem st_unit (r : Res Unit) : r.st = r := by cases r <;> rfl
set_option maxHeartbeats 1000000 in
set_option maxRecDepth 100000 in
theorem zwant_any (B g : Nat) (A : Option Addr) (n c : Nat) (T : List Tok) (s : Res Unit) (A' : Option Addr) (m c' B' : Nat) (ws : List (List UInt8)) (w : World) (h : QSt w B g A n c T s) (ha : posA s ≤ 65600)
    (hr : Rd w B' 1 A' m c' (ws.map fun s => .string (bs s))) (hB' : B' ≤ w.heap.size) (hg : ∀ p, A' = some p → p.block ≠ g) (hm : m ≤ 100) :
    Calls Tryz.prog 61 #[.pointer (some ⟨g, 0, none⟩), .slice A' m c'] w (QPost w B g A n c T (s.bind fun _ a => pwant T ws a) (fun _ _ v => v = .tuple #[]) fun _ v => v = .tuple #[]) := by
  have HL := Lib.hid (show ws.length = m by have := hr.len; simpa using this)
  have hcap := hr.cap
  have hbig := hr.big
  have HR := Lib.hid hr
  have HG := Lib.hid hg
  have H := Lib.hid h
  clear hr hg h
  go_enter Tryz.func61, Tryz.ntmps61
  go_wp2
  go_loopw [4] (fun i wr => ∃ (k : Nat) (q : Res Unit), k ≤ m ∧ i = .int .i64 k ∧ posA q ≤ 65600 + k ∧ Hid ((s.bind fun _ a => pwant T ws a) = q.bind fun _ a => pwant T (ws.drop k) a) ∧ Hid (QSt wr B g A n c T q) ∧ Hid (Only (· = g) w wr)) (fun i _ => m - (intOf i).toNat)
  case atStart => exact ⟨0, s, Nat.zero_le _, rfl, ha, rfl, H.out, Only.refl _ _⟩
  case round =>
    obtain ⟨k, q, hk, rfl, hq, hp, hP, hO⟩ := hrel
    by_cases hlt : k < m
    · have hkw : k < ws.length := by have := HL.out; omega
      obtain ⟨b, off, u, hA, hb, hu, x1'⟩ := HR.out.one hlt
      have x1 : wr.cell? ⟨b, off + k, none⟩ = some u := (World.cell?_of_block (hO.out.block b (by omega) (HG.out _ hA))).trans x1'
      clear x1'
      subst hA
      obtain rfl : u = .string (bs ws[k]) := by simpa [hkw] using hu.symm
      clear hu
      have HD := Lib.hid (List.drop_eq_getElem_cons hkw)
      generalize ws[k] = x at *
      have HC := zis_any B g A n c T q x wr hP.out (by omega)
      cases hB : qis T q x with
      | true =>
        rw [hB] at HC
        obtain ⟨a, rfl, hi⟩ : ∃ a, q = .ok () a ∧ isB T a x = true := by
          cases q with
          | ok u a => exact ⟨a, rfl, hB⟩
          | bad _ => cases hB
        have HC := Lib.hid HC
        have HP2 := Lib.hid (show (s.bind fun _ a => pwant T ws a) = Res.bind (.ok () (a + 1)) fun _ a => pwant T (ws.drop (k + 1)) a by rw [hp.out, HD.out]; show pwant T (x :: ws.drop (k + 1)) a = pwant T (ws.drop (k + 1)) (a + 1); rw [pwant, hi]; rfl)
        clear hB hi
        have hpa : a ≤ 65600 + k := hq
        go_wp2_with (fail)
        refine HC.out.mono ?_
        rintro e w1 ⟨rfl, hb1⟩
        have h1 := hP.out.below hb1
        have c1 : w1.cell? ⟨g, 1, none⟩ = some (.int .i64 (a : Int)) := h1.at_
        have fz := h1.free 1
        have hgl := h1.lt
        have HM := Lib.hid (QSt.move h1 (s' := .ok () (a + 1)) rfl)
        have HO1 := Lib.hid ((hO.out.trans (Only.of_below hb1)).trans (Only.set (S := (· = g)) w1 (p := ⟨g, 1, none⟩) rfl (.int .i64 (posA (.ok () (a + 1)) : Int))))
        clear h1 hb1
        go_wp2_with (fail)
        go_roundw
        case rel => exact ⟨k + 1, .ok () (a + 1), by omega, by go_num, by show a + 1 ≤ 65600 + (k + 1); omega, HP2.out, HM.out, HO1.out⟩
        case measure => simp [intOf] <;> omega
      | false =>
        rw [hB] at HC
        have HC := Lib.hid HC
        have HP2 := Lib.hid (show (s.bind fun _ a => pwant T ws a) = .bad (posA q) by
          rw [hp.out, HD.out]
          cases q with
          | ok u a =>
            show pwant T (x :: ws.drop (k + 1)) a = .bad a
            rw [pwant, show isB T a x = false from hB]
            rfl
          | bad _ => rfl)
        clear hB
        go_wp2_with (fail)
        refine HC.out.mono ?_
        rintro e w1 ⟨rfl, hb1⟩
        have h1 := Lib.hid (hP.out.below hb1)
        have HO1 := Lib.hid (hO.out.trans (Only.of_below hb1))
        clear hb1
        go_wp2_with (fail)
        refine (zfail_any B g A n c T q w1 h1.out).mono ?_
        rintro e w2 ⟨rfl, rfl⟩
        go_wp2
        (try simp only [Exit.inBlock, Exit.then]); refine bodyPost_ret (results_none rfl _ _ _) rfl ?_
        unfold QPost
        rw [HP2.out]
        exact ⟨HO1.out.trans (Only.set (S := (· = g)) w1 (p := ⟨g, 2, none⟩) rfl _), h1.out.stop, _, rfl, rfl, fun x m e => by cases e⟩
    · obtain rfl : k = m := by omega
      have HP2 := Lib.hid (show (s.bind fun _ a => pwant T ws a) = q by
        rw [hp.out, List.drop_eq_nil_of_le (by have := HL.out; omega)]
        cases q <;> rfl)
      go_wp2
      go_end0
      unfold QPost
      rw [HP2.out, st_unit]
      exact ⟨hO.out, hP.out, _, rfl, rfl, fun _ _ _ => rfl⟩
end Go.Proofs.YtlgdmbdhffdenaaGreatDoor

/- The reference parser's name by its contract. -/
namespace Go.Proofs.YtlgdmbdhffdenaaGreatDoor
set_option linter.unusedVariables false
set_option linter.unusedSimpArgs false
open Go.RowKit

set_option maxHeartbeats 1000000 in
set_option maxRecDepth 100000 in
theorem zname_any (B g : Nat) (A : Option Addr) (n c : Nat) (T : List Tok) (s : Res Unit) (w : World) (h : QSt w B g A n c T s) (ha : posA s ≤ 65600) :
    Calls Tryz.prog 62 #[.pointer (some ⟨g, 0, none⟩)] w (QPost w B g A n c T (s.bind fun _ a => pname T a) (fun x _ v => v = .string (bs x)) fun _ v => ∃ x, v = .string (bs x)) := by
  have HN := Lib.hid (znext_any B g A n c T s w h (by omega))
  have HQ := Lib.hid h
  obtain ⟨⟨k, tx, p⟩, ht⟩ : ∃ t, nx T (posA s) = t := ⟨_, rfl⟩
  rw [ht] at HN
  clear h
  cases s with
  | bad m =>
    have HD : Hid ((Res.bind (.bad m : Res Unit) fun _ a => pname T a) = .bad m) := rfl
    clear ht
    go_enter Tryz.func62, Tryz.ntmps62
    go_wp2_with (fail)
    refine HN.out.mono ?_
    rintro e w1 ⟨rfl, hb1⟩
    have h1 := Lib.hid (HQ.out.below hb1)
    have c2 : w1.cell? ⟨g, 2, none⟩ = some (.bool true) := h1.out.bad
    have hg := h1.out.lt
    have HO1 := Lib.hid (Only.of_below (S := (· = g)) hb1)
    clear hb1
    unfold tokV
    dsimp only
    go_wp2_with (fail)
    first | (refine calls_named ?_; intro W hW) | (refine body_named ?_; intro W hW) | (refine wpList_named ?_; intro W hW) | (refine wp_named ?_; intro W hW)
    have hb2 := Lib.hid (show Below w1.heap.size w1 W by rw [← hW]; exact (Below.refl _ _).alloc (Nat.le_refl _) _)
    have hk2 := Lib.hid (show Blk W w1.heap.size 53 #[.int .i64 k, .string (bs tx), .int .i64 p] by rw [← hW]; exact Blk.new _ _ _)
    clear hW
    refine (zfail_any B g A n c T (.bad m) W (h1.out.below hb2.out)).mono ?_
    rintro e w2 ⟨rfl, rfl⟩
    go_wp2_with (fail)
    go_ret
    refine ⟨HO1.out.trans ((Only.of_below hb2.out).trans (Only.set (S := (· = g)) W (p := ⟨g, 2, none⟩) rfl _)), ?_, _, rfl, ⟨[], rfl⟩, fun x m e => ?_⟩
    · rw [HD.out]; exact (h1.out.below hb2.out).stop
    · rw [HD.out] at e; cases e
  | ok u a =>
    have hp : (Res.bind (.ok u a : Res Unit) fun _ a => pname T a) = if k = 1 ∧ kwB tx = false then .ok tx (a + 1) else .bad a := by
      show pname T a = _
      rw [pname, show nx T a = ⟨k, tx, p⟩ from ht]
    clear ht
    have hpa : a ≤ 65600 := ha
    by_cases e1 : k = 1
    · subst e1
      cases hq : kwB tx with
      | true =>
        have HD := Lib.hid (show (Res.bind (.ok u a : Res Unit) fun _ a => pname T a) = .bad a by rw [hp, hq]; simp)
        have HK := Lib.hid hq
        clear hp hq
        go_enter Tryz.func62, Tryz.ntmps62
        go_wp2_with (fail)
        refine HN.out.mono ?_
        rintro e w1 ⟨rfl, hb1⟩
        have h1 := Lib.hid (HQ.out.below hb1)
        have c2 : w1.cell? ⟨g, 2, none⟩ = some (.bool false) := h1.out.bad
        have hg := h1.out.lt
        have HO1 := Lib.hid (Only.of_below (S := (· = g)) hb1)
        clear hb1
        unfold tokV
        dsimp only
        go_wp2_with (fail)
        first | (refine calls_named ?_; intro W hW) | (refine body_named ?_; intro W hW) | (refine wpList_named ?_; intro W hW) | (refine wp_named ?_; intro W hW)
        have hb2 := Lib.hid (show Below w1.heap.size w1 W by rw [← hW]; exact (Below.refl _ _).alloc (Nat.le_refl _) _)
        have hk2 := Lib.hid (show Blk W w1.heap.size 53 #[.int .i64 1, .string (bs tx), .int .i64 p] by rw [← hW]; exact Blk.new _ _ _)
        clear hW

        refine (rkeyword_any tx W).mono ?_
        rintro e w2 ⟨rfl, rfl⟩
        rw [HK.out]
        have c2' := (h1.out.below hb2.out).bad
        go_wp2_with (fail)
        refine (zfail_any B g A n c T (.ok u a) W (h1.out.below hb2.out)).mono ?_
        rintro e w2 ⟨rfl, rfl⟩
        go_wp2_with (fail)
        go_ret
        refine ⟨HO1.out.trans ((Only.of_below hb2.out).trans (Only.set (S := (· = g)) W (p := ⟨g, 2, none⟩) rfl _)), ?_, _, rfl, ⟨[], rfl⟩, fun x m e => ?_⟩
        · rw [HD.out]; exact (h1.out.below hb2.out).stop
        · rw [HD.out] at e; cases e

      | false =>
        have HD := Lib.hid (show (Res.bind (.ok u a : Res Unit) fun _ a => pname T a) = .ok tx (a + 1) by rw [hp, hq]; simp)
        have HK := Lib.hid hq
        clear hp hq
        go_enter Tryz.func62, Tryz.ntmps62
        go_wp2_with (fail)
        refine HN.out.mono ?_
        rintro e w1 ⟨rfl, hb1⟩
        have h1 := Lib.hid (HQ.out.below hb1)
        have c2 : w1.cell? ⟨g, 2, none⟩ = some (.bool false) := h1.out.bad
        have hg := h1.out.lt
        have HO1 := Lib.hid (Only.of_below (S := (· = g)) hb1)
        clear hb1
        unfold tokV
        dsimp only
        go_wp2_with (fail)
        first | (refine calls_named ?_; intro W hW) | (refine body_named ?_; intro W hW) | (refine wpList_named ?_; intro W hW) | (refine wp_named ?_; intro W hW)
        have hb2 := Lib.hid (show Below w1.heap.size w1 W by rw [← hW]; exact (Below.refl _ _).alloc (Nat.le_refl _) _)
        have hk2 := Lib.hid (show Blk W w1.heap.size 53 #[.int .i64 1, .string (bs tx), .int .i64 p] by rw [← hW]; exact Blk.new _ _ _)
        clear hW

        refine (rkeyword_any tx W).mono ?_
        rintro e w2 ⟨rfl, rfl⟩
        rw [HK.out]
        have h2 := h1.out.below hb2.out
        have c1 : W.cell? ⟨g, 1, none⟩ = some (.int .i64 (a : Int)) := h2.at_
        have fz := h2.free 1
        have hgl := h2.lt
        have y1 : W.cell? ⟨w1.heap.size, 1, none⟩ = some (.string (bs tx)) := hk2.out.cell 1
        have ly := hk2.out.lt
        have hne : g ≠ w1.heap.size := by omega
        have HM := Lib.hid (QSt.move h2 (s' := .ok () (a + 1)) rfl)
        have HO2 := Lib.hid (HO1.out.trans ((Only.of_below hb2.out).trans (Only.set (S := (· = g)) W (p := ⟨g, 1, none⟩) rfl (.int .i64 (posA (.ok () (a + 1)) : Int)))))
        clear h2
        go_wp2_with (fail)
        go_ret
        refine ⟨HO2.out, ?_, _, rfl, ⟨tx, rfl⟩, fun x m e => ?_⟩
        · rw [HD.out]; exact HM.out
        · rw [HD.out] at e; cases e; rfl
    · have HD := Lib.hid (show (Res.bind (.ok u a : Res Unit) fun _ a => pname T a) = .bad a by rw [hp, if_neg (fun e => e1 e.1)])
      have e2 : (k != 1) = true := by rw [bne_iff_ne]; exact e1
      clear hp
      go_enter Tryz.func62, Tryz.ntmps62
      go_wp2_with (fail)
      refine HN.out.mono ?_
      rintro e w1 ⟨rfl, hb1⟩
      have h1 := Lib.hid (HQ.out.below hb1)
      have c2 : w1.cell? ⟨g, 2, none⟩ = some (.bool false) := h1.out.bad
      have hg := h1.out.lt
      have HO1 := Lib.hid (Only.of_below (S := (· = g)) hb1)
      clear hb1
      unfold tokV
      dsimp only
      go_wp2_with (fail)
      first | (refine calls_named ?_; intro W hW) | (refine body_named ?_; intro W hW) | (refine wpList_named ?_; intro W hW) | (refine wp_named ?_; intro W hW)
      have hb2 := Lib.hid (show Below w1.heap.size w1 W by rw [← hW]; exact (Below.refl _ _).alloc (Nat.le_refl _) _)
      have hk2 := Lib.hid (show Blk W w1.heap.size 53 #[.int .i64 k, .string (bs tx), .int .i64 p] by rw [← hW]; exact Blk.new _ _ _)
      clear hW
      refine (zfail_any B g A n c T (.ok u a) W (h1.out.below hb2.out)).mono ?_
      rintro e w2 ⟨rfl, rfl⟩
      go_wp2_with (fail)
      go_ret
      refine ⟨HO1.out.trans ((Only.of_below hb2.out).trans (Only.set (S := (· = g)) W (p := ⟨g, 2, none⟩) rfl _)), ?_, _, rfl, ⟨[], rfl⟩, fun x m e => ?_⟩
      · rw [HD.out]; exact (h1.out.below hb2.out).stop
      · rw [HD.out] at e; cases e

end Go.Proofs.YtlgdmbdhffdenaaGreatDoor

/- The reference's number and integer by their contracts. -/
namespace Go.Proofs.YtlgdmbdhffdenaaGreatDoor
set_option linter.unusedVariables false
set_option linter.unusedSimpArgs false
open Go.RowKit

theorem int_chars {l : List UInt8} (h : intB l = true) : ∃ r : List UInt8, (l = r ∨ l = 45 :: r) ∧ r ≠ [] ∧ r.length ≤ 18 ∧ ∀ c ∈ r, isDigit c.toNat = true := by
  unfold intB at h
  rw [Bool.or_eq_true] at h
  rcases h with h | h
  · obtain rfl : l = [48] := by simpa using h
    exact ⟨[48], .inl rfl, by simp, by simp, fun c hc => by obtain rfl := List.mem_singleton.1 hc; rfl⟩
  · by_cases h45 : bt l 0 = 45
    · rw [if_pos h45] at h
      cases l with
      | nil => simp [bt] at h45
      | cons c r =>
        have hc : c.toNat = 45 := h45
        have hc' : c = 45 := UInt8.toNat_inj.1 hc
        subst hc'
        obtain ⟨h1, h2, h3⟩ := numB_digits (show numB r = true from h)
        exact ⟨r, .inr rfl, h1, h2, h3⟩
    · rw [if_neg h45] at h
      obtain ⟨h1, h2, h3⟩ := numB_digits h
      exact ⟨l, .inl rfl, h1, h2, h3⟩
theorem dig_take {r : List UInt8} (hr : r.length ≤ 18) (hd : ∀ c ∈ r, isDigit c.toNat = true) (k : Nat) : ∃ v : Nat, (r.take k).foldl dig 0 = (v : Int) ∧ v < 1000000000000000000 := by
  have hl : (r.take k).length ≤ 18 := by rw [List.length_take]; omega
  obtain ⟨v, _, e, hv⟩ := pu_digits (r.take k) 0 0 (fun c hc => hd c (List.mem_of_mem_take hc)) (by decide) (by omega)
  refine ⟨v, e, ?_⟩
  have := Nat.pow_le_pow_right (n := 10) (by omega) (show 0 + (r.take k).length ≤ 18 by omega)
  rw [show (10 : Nat) ^ 18 = 1000000000000000000 from by decide] at this
  omega
theorem num_pre {l : List UInt8} (h : intB l = true) (k : Nat) : ∃ v : Nat, (l.take k).foldl dig 0 = (v : Int) ∧ v < 1000000000000000000 := by
  obtain ⟨r, rfl | rfl, _, h2, h3⟩ := int_chars h
  · exact dig_take h2 h3 k
  · cases k with
    | zero => exact ⟨0, rfl, by omega⟩
    | succ k =>
      obtain ⟨v, e, hv⟩ := dig_take h2 h3 k
      refine ⟨v, ?_, hv⟩
      rw [List.take_succ_cons, List.foldl_cons]
      exact e
theorem num_step {l : List UInt8} (h : intB l = true) {k v : Nat} (hk : k < l.length) (hv : (l.take k).foldl dig 0 = (v : Int)) :
    (bt l k = 45 → (l.take (k + 1)).foldl dig 0 = (v : Int)) ∧ (bt l k ≠ 45 → 48 ≤ bt l k ∧ bt l k ≤ 57 ∧ 10 * v + (bt l k - 48) < 1000000000000000000 ∧ (l.take (k + 1)).foldl dig 0 = ((10 * v + (bt l k - 48) : Nat) : Int)) := by
  have hb : bt l k = (l[k]).toNat := by simp [bt, hk]
  have e : (l.take (k + 1)).foldl dig 0 = dig (v : Int) l[k] := by
    rw [List.take_succ_eq_append_getElem hk, List.foldl_append, hv]
    rfl
  obtain ⟨v', e', hv'⟩ := num_pre h (k + 1)
  rw [hb]
  refine ⟨fun h45 => ?_, fun h45 => ?_⟩
  · rw [e, show l[k] = 45 from UInt8.toNat_inj.1 h45]
    rfl
  · have hne : ¬ l[k] = 45 := fun e => h45 (by rw [e]; rfl)
    have hdg : isDigit (l[k]).toNat = true := by
      obtain ⟨r, h1, _, _, h3⟩ := int_chars h
      have hm : ∀ x ∈ l, x = 45 ∨ x ∈ r := fun x hx => by
        rcases h1 with h1 | h1
        · rw [h1] at hx; exact .inr hx
        · rw [h1] at hx; exact List.mem_cons.1 hx
      rcases hm _ (List.getElem_mem hk) with h2 | h2
      · exact absurd h2 hne
      · exact h3 _ h2
    unfold isDigit at hdg
    rw [decide_eq_true_iff] at hdg
    have e2 : dig (v : Int) l[k] = ((10 * v + ((l[k]).toNat - 48) : Nat) : Int) := by
      unfold dig
      rw [if_neg hne]
      omega
    rw [e, e2] at e'
    refine ⟨hdg.1, hdg.2, ?_, by rw [e, e2]⟩
    omega
set_option maxHeartbeats 2000000 in
set_option maxRecDepth 100000 in
theorem znumber_any (l : List UInt8) (w : World) (h : intB l = true) : Calls Tryz.prog 93 #[.string (bs l)] w fun e w' => e = .returned (.int .i64 (num l)) ∧ w' = w := by
  have hlen : 0 < l.length ∧ l.length ≤ 19 := by
    obtain ⟨r, h1 | h1, h0, h2, _⟩ := int_chars h
    · subst h1; exact ⟨List.length_pos_iff.2 h0, by omega⟩
    · subst h1; simp; omega
  obtain ⟨hl0, hl19⟩ := hlen
  have HI := Lib.hid h
  clear h
  go_enter Tryz.func93, Tryz.ntmps93
  go_wp2
  go_loopw [3, 4] (fun s t wr => ∃ (k v : Nat), k ≤ l.length ∧ s = .int .i64 v ∧ t = .int .i64 k ∧ Hid ((l.take k).foldl dig 0 = (v : Int)) ∧ Hid (wr = w)) (fun _ t _ => l.length - (intOf t).toNat)
  case atStart => exact ⟨0, 0, Nat.zero_le _, rfl, rfl, rfl, rfl⟩
  case round =>
    obtain ⟨k, v, hk, rfl, rfl, hv, hw⟩ := hrel
    obtain rfl := hw.out
    by_cases hlt : k < l.length
    · have HS := Lib.hid (num_step HI.out hlt hv.out)
      by_cases h45 : bt l k = 45
      · have HN := Lib.hid (HS.out.1 h45)
        have e1 := ynb (a := bt l k) (m := 45) (by omega)
        clear h45
        go_wp2_with (fail)
        go_roundw
        case rel => exact ⟨k + 1, v, by omega, rfl, by go_num, HN.out, Lib.hid trivial⟩
        case measure => simp [intOf] <;> omega
      · obtain ⟨b1, b2, b3, b4⟩ := HS.out.2 h45
        have HN := Lib.hid b4
        have e1 := nnb (a := bt l k) (m := 45) (by omega)
        clear h45 b4
        go_wp2_with (fail)
        go_roundw
        case rel =>
          refine ⟨k + 1, 10 * v + (bt l k - 48), by omega, ?_, by go_num, HN.out, Lib.hid trivial⟩
          congr 1
          omega
        case measure => simp [intOf] <;> omega
    · obtain rfl : k = l.length := by omega
      have HV := Lib.hid (show l.foldl dig 0 = (v : Int) by have := hv.out; rw [List.take_length] at this; exact this)
      have hv18 : v < 1000000000000000000 := by
        obtain ⟨v', e, h'⟩ := num_pre HI.out l.length
        rw [hv.out] at e
        omega
      by_cases h45 : bt l 0 = 45
      · have HZ := Lib.hid (show num l = -(v : Int) by unfold num; rw [if_pos h45, HV.out])
        have e1 := yb (a := bt l 0) (m := 45) (by omega)
        clear h45
        go_wp2_with (fail)
        go_ret
        exact ⟨by rw [HZ.out]; rfl, rfl⟩
      · have HZ := Lib.hid (show num l = (v : Int) by unfold num; rw [if_neg h45, HV.out])
        have e1 := nb (a := bt l 0) (m := 45) (by omega)
        clear h45
        go_wp2_with (fail)
        go_ret
        exact ⟨by rw [HZ.out]; rfl, rfl⟩
set_option maxHeartbeats 1000000 in
set_option maxRecDepth 100000 in
theorem zinteger_any (B g : Nat) (A : Option Addr) (n c : Nat) (T : List Tok) (s : Res Unit) (w : World) (h : QSt w B g A n c T s) (hT : TOk T) (ha : posA s ≤ 65600) :
    Calls Tryz.prog 63 #[.pointer (some ⟨g, 0, none⟩)] w (QPost w B g A n c T (s.bind fun _ a => pint T a) (fun x _ v => v = .int .i64 x) fun _ v => ∃ x : Int, v = .int .i64 x ∧ -1000000000000000000 < x ∧ x < 1000000000000000000) := by
  have HN := Lib.hid (znext_any B g A n c T s w h (by omega))
  have HQ := Lib.hid h
  obtain ⟨⟨k, tx, p⟩, ht⟩ : ∃ t, nx T (posA s) = t := ⟨_, rfl⟩
  rw [ht] at HN
  clear h
  cases s with
  | bad m =>
    have HD : Hid ((Res.bind (.bad m : Res Unit) fun _ a => pint T a) = .bad m) := rfl
    clear ht
    go_enter Tryz.func63, Tryz.ntmps63
    go_wp2_with (fail)
    refine HN.out.mono ?_
    rintro e w1 ⟨rfl, hb1⟩
    have h1 := Lib.hid (HQ.out.below hb1)
    have c2 : w1.cell? ⟨g, 2, none⟩ = some (.bool true) := h1.out.bad
    have hg := h1.out.lt
    have HO1 := Lib.hid (Only.of_below (S := (· = g)) hb1)
    clear hb1
    unfold tokV
    dsimp only
    go_wp2_with (fail)
    first | (refine calls_named ?_; intro W hW) | (refine body_named ?_; intro W hW) | (refine wpList_named ?_; intro W hW) | (refine wp_named ?_; intro W hW)
    have hb2 := Lib.hid (show Below w1.heap.size w1 W by rw [← hW]; exact (Below.refl _ _).alloc (Nat.le_refl _) _)
    have hk2 := Lib.hid (show Blk W w1.heap.size 53 #[.int .i64 k, .string (bs tx), .int .i64 p] by rw [← hW]; exact Blk.new _ _ _)
    clear hW
    refine (zfail_any B g A n c T (.bad m) W (h1.out.below hb2.out)).mono ?_
    rintro e w2 ⟨rfl, rfl⟩
    go_wp2_with (fail)
    go_ret
    refine ⟨HO1.out.trans ((Only.of_below hb2.out).trans (Only.set (S := (· = g)) W (p := ⟨g, 2, none⟩) rfl _)), ?_, _, rfl, ⟨0, rfl, by decide, by decide⟩, fun x m e => ?_⟩
    · rw [HD.out]; exact (h1.out.below hb2.out).stop
    · rw [HD.out] at e; cases e
  | ok u a =>
    have hp : (Res.bind (.ok u a : Res Unit) fun _ a => pint T a) = if k = 2 then .ok (num tx) (a + 1) else .bad a := by
      show pint T a = _
      rw [pint, show nx T a = ⟨k, tx, p⟩ from ht]
    have hint : k = 2 → intB tx = true := fun hk => by
      have hx : nx T a = ⟨k, tx, p⟩ := ht
      by_cases ha' : a < T.length
      · have h1 : T[a] = ⟨k, tx, p⟩ := by rw [← hx]; simp [nx, ha']
        have := hT.int _ (List.getElem_mem ha') (by rw [h1]; exact hk)
        rw [h1] at this
        exact this
      · rw [nx_out T (by omega)] at hx
        injection hx with h1 _ _
        omega
    clear ht
    have hpa : a ≤ 65600 := ha
    by_cases e1 : k = 2
    · subst e1
      have HINT := Lib.hid (hint rfl)
      have HD := Lib.hid (show (Res.bind (.ok u a : Res Unit) fun _ a => pint T a) = .ok (num tx) (a + 1) by rw [hp, if_pos rfl])
      clear hint hp
      go_enter Tryz.func63, Tryz.ntmps63
      go_wp2_with (fail)
      refine HN.out.mono ?_
      rintro e w1 ⟨rfl, hb1⟩
      have h1 := Lib.hid (HQ.out.below hb1)
      have c2 : w1.cell? ⟨g, 2, none⟩ = some (.bool false) := h1.out.bad
      have c1 : w1.cell? ⟨g, 1, none⟩ = some (.int .i64 (a : Int)) := h1.out.at_
      have fz := h1.out.free 1
      have hg := h1.out.lt
      have HO1 := Lib.hid (Only.of_below (S := (· = g)) hb1)
      clear hb1
      unfold tokV
      dsimp only
      go_wp2_with (fail)
      first | (refine calls_named ?_; intro W hW) | (refine body_named ?_; intro W hW) | (refine wpList_named ?_; intro W hW) | (refine wp_named ?_; intro W hW)
      have hM := h1.out.move (s' := .ok () (a + 1)) rfl
      have hal := (Below.refl _ (w1.setCell ⟨g, 1, none⟩ (.int .i64 (posA (.ok () (a + 1)) : Int)))).alloc (Nat.le_refl _) (.cells #[.int .i64 2, .string (bs tx), .int .i64 p] 53)
      have HM := Lib.hid (show QSt W B g A n c T (.ok () (a + 1)) by rw [← hW]; exact hM.below hal)
      have HO2 := Lib.hid (show Only (· = g) w W by rw [← hW]; exact (HO1.out.trans (Only.set (S := (· = g)) w1 (p := ⟨g, 1, none⟩) rfl _)).trans (Only.of_below hal))
      clear hM
      clear hW hal
      refine (znumber_any tx W HINT.out).mono ?_
      rintro e w2 ⟨rfl, rfl⟩
      go_wp2_with (fail)
      go_ret
      refine ⟨HO2.out, ?_, _, rfl, ⟨num tx, rfl, (atoi_int HINT.out).2⟩, fun x m e => ?_⟩
      · rw [HD.out]; exact HM.out
      · rw [HD.out] at e; cases e; rfl
    · have HD := Lib.hid (show (Res.bind (.ok u a : Res Unit) fun _ a => pint T a) = .bad a by rw [hp, if_neg e1])
      have e2 : (k != 2) = true := by rw [bne_iff_ne]; exact e1
      clear hp
      go_enter Tryz.func63, Tryz.ntmps63
      go_wp2_with (fail)
      refine HN.out.mono ?_
      rintro e w1 ⟨rfl, hb1⟩
      have h1 := Lib.hid (HQ.out.below hb1)
      have c2 : w1.cell? ⟨g, 2, none⟩ = some (.bool false) := h1.out.bad
      have hg := h1.out.lt
      have HO1 := Lib.hid (Only.of_below (S := (· = g)) hb1)
      clear hb1
      unfold tokV
      dsimp only
      go_wp2_with (fail)
      first | (refine calls_named ?_; intro W hW) | (refine body_named ?_; intro W hW) | (refine wpList_named ?_; intro W hW) | (refine wp_named ?_; intro W hW)
      have hb2 := Lib.hid (show Below w1.heap.size w1 W by rw [← hW]; exact (Below.refl _ _).alloc (Nat.le_refl _) _)
      have hk2 := Lib.hid (show Blk W w1.heap.size 53 #[.int .i64 k, .string (bs tx), .int .i64 p] by rw [← hW]; exact Blk.new _ _ _)
      clear hW
      refine (zfail_any B g A n c T (.ok u a) W (h1.out.below hb2.out)).mono ?_
      rintro e w2 ⟨rfl, rfl⟩
      go_wp2_with (fail)
      go_ret
      refine ⟨HO1.out.trans ((Only.of_below hb2.out).trans (Only.set (S := (· = g)) W (p := ⟨g, 2, none⟩) rfl _)), ?_, _, rfl, ⟨0, rfl, by decide, by decide⟩, fun x m e => ?_⟩
      · rw [HD.out]; exact (h1.out.below hb2.out).stop
      · rw [HD.out] at e; cases e

end Go.Proofs.YtlgdmbdhffdenaaGreatDoor

/- The reference parser's choose by its contract. -/
namespace Go.Proofs.YtlgdmbdhffdenaaGreatDoor
set_option linter.unusedVariables false
set_option linter.unusedSimpArgs false
open Go.RowKit

/-- The index, from i on, of the one of some texts that is next. -/
def qchoose (T : List Tok) : List (List UInt8) → Nat → Nat → Res Nat
  | [], _, a => .bad a
  | x :: r, i, a => if isB T a x then .ok i (a + 1) else qchoose T r (i + 1) a
set_option maxHeartbeats 1000000 in
set_option maxRecDepth 100000 in
theorem zchoose_any (B g : Nat) (A : Option Addr) (n c : Nat) (T : List Tok) (s : Res Unit) (A' : Option Addr) (m c' B' : Nat) (ws : List (List UInt8)) (w : World) (h : QSt w B g A n c T s) (ha : posA s ≤ 65600)
    (hr : Rd w B' 1 A' m c' (ws.map fun s => .string (bs s))) (hB' : B' ≤ w.heap.size) (hg : ∀ p, A' = some p → p.block ≠ g) (hm : m ≤ 100) :
    Calls Tryz.prog 123 #[.pointer (some ⟨g, 0, none⟩), .slice A' m c'] w (QPost w B g A n c T (s.bind fun _ a => qchoose T ws 0 a) (fun x _ v => v = .int .i64 (x : Int)) fun _ v => ∃ x : Nat, v = .int .i64 (x : Int) ∧ (x = 0 ∨ x < m)) := by
  have HL := Lib.hid (show ws.length = m by have := hr.len; simpa using this)
  have hcap := hr.cap
  have hbig := hr.big
  have HR := Lib.hid hr
  have HG := Lib.hid hg
  have H := Lib.hid h
  have hpa := ha
  clear hr hg h
  go_enter Tryz.func123, Tryz.ntmps123
  go_wp2
  go_loopw [5] (fun i wr => ∃ (k : Nat), k ≤ m ∧ i = .int .i64 k ∧ Hid ((s.bind fun _ a => qchoose T ws 0 a) = s.bind fun _ a => qchoose T (ws.drop k) k a) ∧ Hid (QSt wr B g A n c T s) ∧ Hid (Below w.heap.size w wr)) (fun i _ => m - (intOf i).toNat)
  case atStart => exact ⟨0, Nat.zero_le _, rfl, rfl, H.out, Below.refl _ _⟩
  case round =>
    obtain ⟨k, hk, rfl, hp, hP, hO⟩ := hrel
    have hOnly := Lib.hid (show Only (· = g) w wr from Only.of_below hO.out)
    by_cases hlt : k < m
    · have hkw : k < ws.length := by have := HL.out; omega
      obtain ⟨b, off, u, hA, hb, hu, x1'⟩ := HR.out.one hlt
      have x1 : wr.cell? ⟨b, off + k, none⟩ = some u := (World.cell?_of_block (hO.out.block b (by omega))).trans x1'
      clear x1'
      subst hA
      obtain rfl : u = .string (bs ws[k]) := by simpa [hkw] using hu.symm
      clear hu
      have HD := Lib.hid (List.drop_eq_getElem_cons hkw)
      generalize ws[k] = x at *
      have HC := zis_any B g A n c T s x wr hP.out (by omega)
      cases hB : qis T s x with
      | true =>
        rw [hB] at HC
        obtain ⟨a, rfl, hi⟩ : ∃ a, s = .ok () a ∧ isB T a x = true := by
          cases s with
          | ok u a => exact ⟨a, rfl, hB⟩
          | bad _ => cases hB
        have HC := Lib.hid HC
        have HP2 := Lib.hid (show (Res.bind (.ok () a : Res Unit) fun _ a => qchoose T ws 0 a) = .ok k (a + 1) by rw [hp.out, HD.out]; show qchoose T (x :: ws.drop (k + 1)) k a = _; rw [qchoose, hi]; rfl)
        clear hB hi
        have hpa' : a ≤ 65600 := hpa
        go_wp2_with (fail)
        refine HC.out.mono ?_
        rintro e w1 ⟨rfl, hb1⟩
        have h1 := hP.out.below hb1
        have c1 : w1.cell? ⟨g, 1, none⟩ = some (.int .i64 (a : Int)) := h1.at_
        have fz := h1.free 1
        have hgl := h1.lt
        have HM := Lib.hid (QSt.move h1 (s' := .ok () (a + 1)) rfl)
        have HO1 := Lib.hid ((hOnly.out.trans (Only.of_below hb1)).trans (Only.set (S := (· = g)) w1 (p := ⟨g, 1, none⟩) rfl (.int .i64 (posA (.ok () (a + 1)) : Int))))
        clear h1 hb1
        go_wp2_with (fail)
        go_ret
        refine ⟨HO1.out, ?_, _, rfl, ⟨k, rfl, .inr hlt⟩, fun x m e => ?_⟩
        · rw [HP2.out]; exact HM.out
        · rw [HP2.out] at e; cases e; rfl
      | false =>
        rw [hB] at HC
        have HC := Lib.hid HC
        have HP2 := Lib.hid (show (s.bind fun _ a => qchoose T ws 0 a) = s.bind fun _ a => qchoose T (ws.drop (k + 1)) (k + 1) a by
          rw [hp.out, HD.out]
          cases s with
          | ok u a =>
            show qchoose T (x :: ws.drop (k + 1)) k a = _
            rw [qchoose, show isB T a x = false from hB]
            rfl
          | bad _ => rfl)
        clear hB
        go_wp2_with (fail)
        refine HC.out.mono ?_
        rintro e w1 ⟨rfl, hb1⟩
        have h1 := Lib.hid (hP.out.below hb1)
        have HO1 := Lib.hid (hO.out.trans (hb1.mono hO.out.size))
        clear hb1
        go_wp2_with (fail)
        go_roundw
        case rel => exact ⟨k + 1, by omega, by go_num, HP2.out, h1.out, HO1.out⟩
        case measure => simp [intOf] <;> omega
    · obtain rfl : k = m := by omega
      have HP2 := Lib.hid (show (s.bind fun _ a => qchoose T ws 0 a) = .bad (posA s) by
        rw [hp.out, List.drop_eq_nil_of_le (by have := HL.out; omega)]
        cases s <;> rfl)
      go_wp2_with (fail)
      refine (zfail_any B g A n c T s wr hP.out).mono ?_
      rintro e w2 ⟨rfl, rfl⟩
      go_wp2_with (fail)
      go_ret
      refine ⟨hOnly.out.trans (Only.set (S := (· = g)) wr (p := ⟨g, 2, none⟩) rfl _), ?_, _, rfl, ⟨0, rfl, .inl rfl⟩, fun x m e => ?_⟩
      · rw [HP2.out]; exact hP.out.stop
      · rw [HP2.out] at e; cases e
end Go.Proofs.YtlgdmbdhffdenaaGreatDoor

/- The reference's atLeast, not and joined by their contracts. -/
namespace Go.Proofs.YtlgdmbdhffdenaaGreatDoor
set_option linter.unusedVariables false
set_option linter.unusedSimpArgs false
open Go.RowKit

set_option maxRecDepth 100000 in
theorem zleast_any (v x : Int) (w : World) :
    Calls Tryz.prog 126 #[.int .i64 v, .int .i64 x] w fun e w' => e = .returned (condV (least v x) none 0 0) ∧ Below w.heap.size w w' := by
  go_enter Tryz.func126, Tryz.ntmps126
  go_wp2
  go_returns
  exact ⟨rfl, (Below.refl _ _).alloc (Nat.le_refl _) _⟩
set_option maxRecDepth 100000 in
theorem znot_any (k v x : Int) (A : Option Addr) (m cc : Nat) (w : World) :
    Calls Tryz.prog 125 #[.agg #[.int .i64 k, .int .i64 v, .int .i64 x, .slice A m cc]] w fun e w' => ∃ b, w.heap.size ≤ b ∧ e = .returned (.agg #[.int .i64 4, .int .i64 0, .int .i64 0, .slice (some ⟨b, 0, none⟩) 1 1]) ∧ Below w.heap.size w w' ∧
      Blk w' b 35 #[.int .i64 k, .int .i64 v, .int .i64 x, .slice A m cc] := by
  go_enter Tryz.func125, Tryz.ntmps125
  go_wp2
  go_returns
  refine ⟨w.heap.size + 1 + 1, by omega, rfl, (((Below.refl _ _).alloc (Nat.le_refl _) _).alloc (by simp) _).alloc (by simp; omega) _, ?_⟩
  have h := Blk.new ((w.alloc (.cells #[.int .i64 k, .int .i64 v, .int .i64 x, .slice A m cc] 35)).alloc (.cells #[.int .i64 4, .int .i64 0, .int .i64 0, .slice (some ⟨w.heap.size + 1 + 1, 0, none⟩) 1 1] 35)) 35 #[.int .i64 k, .int .i64 v, .int .i64 x, .slice A m cc]
  simp only [World.size_alloc] at h
  exact h
set_option maxRecDepth 100000 in
theorem zjoined_one (kind : Int) (b off c : Nat) (k v x : Int) (A : Option Addr) (m cc : Nat) (w : World) (hb : b < w.heap.size) (x0 : w.cell? ⟨b, off, none⟩ = some (.int .i64 k)) (x1 : w.cell? ⟨b, off + 1, none⟩ = some (.int .i64 v)) (x2 : w.cell? ⟨b, off + 2, none⟩ = some (.int .i64 x)) (x3 : w.cell? ⟨b, off + 3, none⟩ = some (.slice A m cc)) :
    Calls Tryz.prog 72 #[.int .i64 kind, .slice (some ⟨b, off, none⟩) 1 c] w fun e w' => e = .returned (.agg #[.int .i64 k, .int .i64 v, .int .i64 x, .slice A m cc]) ∧ Below w.heap.size w w' := by
  go_enter Tryz.func72, Tryz.ntmps72
  go_wp2
  go_returns
  exact ⟨rfl, (Below.refl _ _).alloc (Nat.le_refl _) _⟩
set_option maxRecDepth 100000 in
theorem zjoined_more (kind : Int) (A : Option Addr) (n c : Nat) (hn : n ≠ 1) (w : World) :
    Calls Tryz.prog 72 #[.int .i64 kind, .slice A n c] w fun e w' => e = .returned (.agg #[.int .i64 kind, .int .i64 0, .int .i64 0, .slice A n c]) ∧ Below w.heap.size w w' := by
  have e1 : ((n : Int) == 1) = false := by rw [beq_eq_false_iff_ne]; omega
  go_enter Tryz.func72, Tryz.ntmps72
  go_wp2
  go_returns
  exact ⟨rfl, (Below.refl _ _).alloc (Nat.le_refl _) _⟩
end Go.Proofs.YtlgdmbdhffdenaaGreatDoor

/- Plain: the reference's choose beside the parser's. -/
namespace Go.Proofs.YtlgdmbdhffdenaaGreatDoor
set_option linter.unusedVariables false
set_option linter.unusedSimpArgs false

theorem isB_text {T : List Tok} {a : Nat} {x : List UInt8} (h : isB T a x = true) : (nx T a).text = x ∧ isB T a (nx T a).text = true := by
  have h' := h
  unfold isB at h'
  rw [Bool.and_eq_true] at h'
  have e : (nx T a).text = x := by simpa using h'.1
  exact ⟨e, by rw [e]; exact h⟩
theorem isB_no {T : List Tok} {a : Nat} {x : List UInt8} (h : ¬ (nx T a).text = x) : isB T a x = false := by
  unfold isB
  rw [show ((nx T a).text == x) = false by rw [beq_eq_false_iff_ne]; exact h, Bool.false_and]
/-- Nothing is chosen where the next token is none of the words, or none that may be chosen. -/
theorem qchoose_off {T : List Tok} {a : Nat} : ∀ {xs : List (List UInt8)} {i : Nat}, (∀ x ∈ xs, isB T a x = false) → qchoose T xs i a = .bad a
  | [], _, _ => rfl
  | x :: r, i, h => by
    rw [qchoose, h x (by simp)]
    exact qchoose_off (fun y hy => h y (by simp [hy]))
theorem qchoose_stuck {T : List Tok} {a : Nat} (h : isB T a (nx T a).text = false) (xs : List (List UInt8)) (i : Nat) : qchoose T xs i a = .bad a :=
  qchoose_off fun x _ => by
    by_cases e : (nx T a).text = x
    · rw [← e]; exact h
    · exact isB_no e
/-- The chosen one's value, by a table of words in the same order. -/
theorem qchoose_tab {T : List Tok} {a : Nat} (h : isB T a (nx T a).text = true) (val : Nat → Int) : ∀ (xs : List (List UInt8)) (i : Nat), xs.Nodup →
    ((qchoose T xs i a).map fun j => val j) = match lkup (nx T a).text ((xs.mapIdx fun j x => (x, val (i + j)))) with | some v => .ok v (a + 1) | none => .bad a
  | [], i, _ => rfl
  | x :: r, i, hn => by
    rw [qchoose, List.mapIdx_cons, lkup]
    by_cases e : (nx T a).text = x
    · rw [if_pos e, show isB T a x = true by rw [← e]; exact h]
      rfl
    · rw [if_neg e, isB_no e]
      have := qchoose_tab h val r (i + 1) (List.nodup_cons.1 hn).2
      simp only [Bool.false_eq_true, if_false]
      rw [this]
      congr 2
      · congr 1
        funext j x
        rw [show i + (j + 1) = i + 1 + j by omega]
theorem pchoose_q (T : List Tok) (a : Nat) (val : Nat → Int) (xs : List (List UInt8)) (L : List (List UInt8 × Int)) (hn : xs.Nodup) (hl : ∀ t, lkup t (xs.mapIdx fun j x => (x, val (0 + j))) = lkup t L) : ((qchoose T xs 0 a).map fun j => val j) = pchoose T L a := by
  unfold pchoose
  cases h : isB T a (nx T a).text with
  | true =>
    rw [qchoose_tab h val xs 0 hn, hl]
    cases lkup (nx T a).text L <;> simp
  | false =>
    rw [qchoose_stuck h]
    cases lkup (nx T a).text L <;> rfl
def vVars (j : Nat) : Int := j + 1
def vOps (j : Nat) : Int := if j = 1 then 4 else if j = 4 then 5 else if j = 0 then 1 else j
def vBy (j : Nat) : Int := if j = 4 then -1 else if j = 5 then 7 else if j = 6 then -2 else if j = 7 then 12 else j + 1
def vAway (j : Nat) : Int := j + 5
def vHead (j : Nat) : Int := j + 8
theorem q_vars (T : List Tok) (a : Nat) : ((qchoose T [kTied, kRound, kFin, kClubs] 0 a).map vVars) = pchoose T wVars a := by
  refine pchoose_q T a vVars [kTied, kRound, kFin, kClubs] wVars (by decide) fun t => ?_
  by_cases h0 : t = kTied
  · subst h0; decide
  by_cases h1 : t = kRound
  · subst h1; decide
  by_cases h2 : t = kFin
  · subst h2; decide
  by_cases h3 : t = kClubs
  · subst h3; decide
  simp [lkup, wVars, h0, h1, h2, h3]
theorem q_ops (T : List Tok) (a : Nat) : ((qchoose T [kGe, kLe, kGt, kLt, kEq] 0 a).map vOps) = pchoose T wOps a := by
  refine pchoose_q T a vOps [kGe, kLe, kGt, kLt, kEq] wOps (by decide) fun t => ?_
  by_cases h0 : t = kGe
  · subst h0; decide
  by_cases h1 : t = kLe
  · subst h1; decide
  by_cases h2 : t = kGt
  · subst h2; decide
  by_cases h3 : t = kLt
  · subst h3; decide
  by_cases h4 : t = kEq
  · subst h4; decide
  simp [lkup, wOps, h0, h1, h2, h3, h4]
theorem q_by (T : List Tok) (a : Nat) : ((qchoose T [kPoints, kDiff, kGoals, kWins, kAway, kFair, kHead, kLots] 0 a).map vBy) = pchoose T wBy a := by
  refine pchoose_q T a vBy [kPoints, kDiff, kGoals, kWins, kAway, kFair, kHead, kLots] wBy (by decide) fun t => ?_
  by_cases h0 : t = kPoints
  · subst h0; decide
  by_cases h1 : t = kDiff
  · subst h1; decide
  by_cases h2 : t = kGoals
  · subst h2; decide
  by_cases h3 : t = kWins
  · subst h3; decide
  by_cases h4 : t = kAway
  · subst h4; decide
  by_cases h5 : t = kFair
  · subst h5; decide
  by_cases h6 : t = kHead
  · subst h6; decide
  by_cases h7 : t = kLots
  · subst h7; decide
  simp [lkup, wBy, h0, h1, h2, h3, h4, h5, h6, h7]
theorem q_away (T : List Tok) (a : Nat) : ((qchoose T [kGoals, kWins] 0 a).map vAway) = pchoose T wAway a := by
  refine pchoose_q T a vAway [kGoals, kWins] wAway (by decide) fun t => ?_
  by_cases h0 : t = kGoals
  · subst h0; decide
  by_cases h1 : t = kWins
  · subst h1; decide
  simp [lkup, wAway, h0, h1]
theorem q_head (T : List Tok) (a : Nat) : ((qchoose T [kPoints, kDiff, kGoals, kAway] 0 a).map vHead) = pchoose T wHead a := by
  refine pchoose_q T a vHead [kPoints, kDiff, kGoals, kAway] wHead (by decide) fun t => ?_
  by_cases h0 : t = kPoints
  · subst h0; decide
  by_cases h1 : t = kDiff
  · subst h1; decide
  by_cases h2 : t = kGoals
  · subst h2; decide
  by_cases h3 : t = kAway
  · subst h3; decide
  simp [lkup, wHead, h0, h1, h2, h3]
abbrev wordsBy : List (List UInt8) := [kPoints, kDiff, kGoals, kWins, kAway, kFair, kHead, kLots]
/-- The criterion behind the first word. -/
def critOf (T : List Tok) (j n : Nat) : Res Int := if j = 4 then (qchoose T [kGoals, kWins] 0 n).map vAway else if j = 6 then (qchoose T [kPoints, kDiff, kGoals, kAway] 0 n).map vHead else .ok (vBy j) n
theorem pcrit_q (T : List Tok) (s : Res Unit) : (s.bind fun _ a => pcrit T a) = (s.bind fun _ a => qchoose T wordsBy 0 a).bind fun j n => critOf T j n := by
  cases s with
  | bad _ => rfl
  | ok u a =>
    show pcrit T a = (qchoose T wordsBy 0 a).bind fun j n => critOf T j n
    unfold pcrit
    rw [← q_by]
    cases qchoose T wordsBy 0 a with
    | bad _ => rfl
    | ok j n =>
      show (if vBy j = -1 then pchoose T wAway n else if vBy j = -2 then pchoose T wHead n else .ok (vBy j) n) = critOf T j n
      unfold critOf
      rw [← q_away, ← q_head]
      by_cases h4 : j = 4
      · subst h4; rfl
      · by_cases h6 : j = 6
        · subst h6; rfl
        · have h1 : vBy j ≠ -1 ∧ vBy j ≠ -2 := by
            unfold vBy
            rw [if_neg h4]
            split
            · exact ⟨by omega, by omega⟩
            · try rw [if_neg h6]
              split <;> exact ⟨by omega, by omega⟩
          rw [if_neg h1.1, if_neg h1.2, if_neg h4, if_neg h6]
theorem map_bind {α β γ : Type} (r : Res α) (f : α → β) (g : β → Nat → Res γ) : (r.map f).bind g = r.bind fun x n => g (f x) n := by cases r <;> rfl
/-- A comparison, by the reference's choices. -/
theorem pcomp_q (T : List Tok) (s : Res Unit) : (s.bind fun _ a => pcomp T a) = (s.bind fun _ a => qchoose T [kTied, kRound, kFin, kClubs] 0 a).bind fun j n => (qchoose T [kGe, kLe, kGt, kLt, kEq] 0 n).bind fun o m => (pint T m).bind fun i k => .ok (compare_ (vVars j) (vOps o) i) k := by
  cases s with
  | bad _ => rfl
  | ok u a =>
    show pcomp T a = (qchoose T [kTied, kRound, kFin, kClubs] 0 a).bind _
    unfold pcomp
    rw [← q_vars, map_bind]
    congr 1
    funext j n
    rw [← q_ops, map_bind]
/-- A run of two: the state between them. -/
theorem bind_st {α β : Type} (r : Res α) (f : Nat → Res β) : (r.bind fun _ n => f n) = r.st.bind fun _ n => f n := by cases r <;> rfl
end Go.Proofs.YtlgdmbdhffdenaaGreatDoor

/- The reference parser's end by its contract. -/
namespace Go.Proofs.YtlgdmbdhffdenaaGreatDoor
set_option linter.unusedVariables false
set_option linter.unusedSimpArgs false
open Go.RowKit

set_option maxRecDepth 100000 in
/-- A text's end: called only where the parser has not stopped. -/
theorem zend_any (B g : Nat) (A : Option Addr) (n c : Nat) (T : List Tok) (a : Nat) (w : World) (h : QSt w B g A n c T (.ok () a)) (ha : a ≤ 65600) :
    Calls Tryz.prog 28 #[.pointer (some ⟨g, 0, none⟩)] w (QPost w B g A n c T (if (nx T a).kind = 5 then .ok () a else .bad a : Res Unit) (fun _ _ v => v = .tuple #[]) fun _ v => v = .tuple #[]) := by
  have HN := Lib.hid (znext_any B g A n c T (.ok () a) w h (show a ≤ 70000 by omega))
  have HQ := Lib.hid h
  have hfld0 : ∀ (x y z : Value) (w : World), Sem.run Tryz.prog (Instr.field 53 (.agg #[x, y, z]) 0) w = .ok x w := fun _ _ _ _ => rfl
  obtain ⟨⟨k, tx, p⟩, ht⟩ : ∃ t, nx T a = t := ⟨_, rfl⟩
  have ht' : nx T (posA (.ok () a)) = ⟨k, tx, p⟩ := ht
  rw [ht'] at HN
  rw [ht]
  clear ht ht' h
  by_cases hk : k = 5
  · subst hk
    rw [if_pos rfl]
    go_enter Tryz.func28, Tryz.ntmps28
    go_wp2_with (fail)
    refine HN.out.mono ?_
    rintro e w1 ⟨rfl, hb1⟩
    have h1 := Lib.hid (HQ.out.below hb1)
    have HO := Lib.hid (Only.of_below (S := (· = g)) hb1)
    clear hb1
    unfold tokV
    dsimp only
    go_wp2_with (fail)
    go_end0
    exact ⟨HO.out, h1.out, _, rfl, rfl, fun _ _ _ => rfl⟩
  · rw [if_neg hk]
    have e1 : (k != 5) = true := by rw [bne_iff_ne]; exact hk
    go_enter Tryz.func28, Tryz.ntmps28
    go_wp2_with (fail)
    refine HN.out.mono ?_
    rintro e w1 ⟨rfl, hb1⟩
    have h1 := Lib.hid (HQ.out.below hb1)
    have HO := Lib.hid (Only.of_below (S := (· = g)) hb1)
    clear hb1
    unfold tokV
    dsimp only
    go_wp2_with (fail)
    refine (zfail_any B g A n c T (.ok () a) w1 h1.out).mono ?_
    rintro e w2 ⟨rfl, rfl⟩
    go_wp2_with (fail)
    go_end0
    exact ⟨HO.out.trans (Only.set (S := (· = g)) w1 (p := ⟨g, 2, none⟩) rfl _), h1.out.stop, _, rfl, rfl, fun _ _ e => by cases e⟩
end Go.Proofs.YtlgdmbdhffdenaaGreatDoor

/- The reference parser's by (a criterion) by its contract. -/
namespace Go.Proofs.YtlgdmbdhffdenaaGreatDoor
set_option linter.unusedVariables false
set_option linter.unusedSimpArgs false
open Go.RowKit

theorem qchoose_pos {T : List Tok} {a : Nat} : ∀ {xs : List (List UInt8)} {i : Nat}, posA (qchoose T xs i a).st ≤ a + 1
  | [], i => Nat.le_succ a
  | x :: r, i => by
    rw [qchoose]
    split
    · exact Nat.le_refl _
    · exact qchoose_pos
theorem bind_pos {T : List Tok} {s : Res Unit} {xs : List (List UInt8)} : posA (s.bind fun _ a => qchoose T xs 0 a).st ≤ posA s + 1 := by
  cases s with
  | ok u a => exact qchoose_pos
  | bad m => exact Nat.le_succ m
theorem crit_simple {T : List Tok} {r : Res Nat} {x : Nat} (h : ∀ j n, r = .ok j n → (Value.int .i64 (x : Int) : Value) = .int .i64 (j : Int)) (h4 : x ≠ 4) (h6 : x ≠ 6) :
    (r.bind fun j n => critOf T j n).st = r.st ∧ ∀ b m, (r.bind fun j n => critOf T j n) = .ok b m → b = vBy x := by
  cases r with
  | bad n => exact ⟨rfl, fun b m e => by cases e⟩
  | ok j n =>
    obtain rfl : x = j := by
      have := h j n rfl
      injection this with _ e
      omega
    have e : critOf T x n = .ok (vBy x) n := by unfold critOf; rw [if_neg h4, if_neg h6]
    refine ⟨?_, fun b m e' => ?_⟩
    · show (critOf T x n).st = _
      rw [e]; rfl
    · have e2 : critOf T x n = .ok b m := e'
      rw [e] at e2
      cases e2; rfl
theorem crit_two {T : List Tok} {r : Res Nat} {x : Nat} {ws : List (List UInt8)} {val : Nat → Int} (h : ∀ j n, r = .ok j n → (Value.int .i64 (x : Int) : Value) = .int .i64 (j : Int)) (hc : ∀ n, critOf T x n = (qchoose T ws 0 n).map val) :
    (r.bind fun j n => critOf T j n).st = (r.st.bind fun _ a => qchoose T ws 0 a).st ∧ ∀ b m, (r.bind fun j n => critOf T j n) = .ok b m → ∃ y, (r.st.bind fun _ a => qchoose T ws 0 a) = .ok y m ∧ b = val y := by
  cases r with
  | bad n => exact ⟨rfl, fun b m e => by cases e⟩
  | ok j n =>
    obtain rfl : x = j := by
      have := h j n rfl
      injection this with _ e
      omega
    have e1 : (Res.bind (.ok x n : Res Nat) fun j n => critOf T j n) = (qchoose T ws 0 n).map val := hc n
    have e2 : ((Res.ok x n : Res Nat).st.bind fun _ a => qchoose T ws 0 a) = qchoose T ws 0 n := rfl
    rw [e1, e2]
    cases qchoose T ws 0 n with
    | bad k => exact ⟨rfl, fun b m e => by cases e⟩
    | ok y k => exact ⟨rfl, fun b m e => by cases e; exact ⟨y, rfl, rfl⟩⟩
set_option maxHeartbeats 2000000 in
set_option maxRecDepth 100000 in
theorem zby_any (B g : Nat) (A : Option Addr) (n c : Nat) (T : List Tok) (s : Res Unit) (w : World) (h : QSt w B g A n c T s) (ha : posA s ≤ 65590) :
    Calls Tryz.prog 94 #[.pointer (some ⟨g, 0, none⟩)] w (QPost w B g A n c T (s.bind fun _ a => pcrit T a) (fun x _ v => v = .int .i64 x) fun _ v => ∃ x : Int, v = .int .i64 x) := by
  have HE := Lib.hid (pcrit_q T s)
  have H := Lib.hid h
  have hgl := h.lt
  clear h
  go_enter Tryz.func94, Tryz.ntmps94
  go_wp2_with (fail)
  first | (refine calls_named ?_; intro W1 hW1) | (refine body_named ?_; intro W1 hW1) | (refine wpList_named ?_; intro W1 hW1) | (refine wp_named ?_; intro W1 hW1)
  have hb1 : Below w.heap.size w W1 := by rw [← hW1]; exact (Below.refl _ _).alloc (Nat.le_refl _) _
  have hk1 : Blk W1 w.heap.size 9 (wordsBy.map fun s => (.string (bs s) : Value)).toArray := by rw [← hW1]; exact Blk.new _ _ _
  clear hW1
  refine (zchoose_any B g A n c T s (some ⟨w.heap.size, 0, none⟩) 8 8 W1.heap.size wordsBy W1 (H.out.below hb1) (by omega) (rd_texts (ws := wordsBy) hk1 (by decide)) (Nat.le_refl _) (fun p hp => by injection hp with hp; rw [← hp]; show w.heap.size ≠ g; omega) (by omega)).mono ?_
  rintro e w2 ⟨ho, hq, _, rfl, ⟨x, rfl, hx⟩, hv⟩
  have HO := Lib.hid ((Only.of_below (S := (· = g)) hb1).trans ho)
  have HQ := Lib.hid hq
  have HV := Lib.hid hv
  clear hb1 hk1 ho hq hv
  have simple : ∀ (y : Nat), x = y → y ≠ 4 → y ≠ 6 → ∀ v : Int, v = vBy y → QPost w B g A n c T (s.bind fun _ a => pcrit T a) (fun x _ v => v = .int .i64 x) (fun _ v => ∃ x : Int, v = .int .i64 x) (.returned (.int .i64 v)) w2 := fun y e h4 h6 v hv => by
    subst e hv
    obtain ⟨k1, k2⟩ := crit_simple (T := T) HV.out h4 h6
    refine ⟨HO.out, ?_, _, rfl, ⟨_, rfl⟩, fun b m e => ?_⟩
    · rw [HE.out, k1]; exact HQ.out
    · rw [HE.out] at e
      rw [k2 b m e]
  have SI := Lib.hid simple
  clear simple
  rcases (show x = 0 ∨ x = 1 ∨ x = 2 ∨ x = 3 ∨ x = 5 ∨ x = 7 ∨ x = 4 ∨ x = 6 by omega) with rfl | rfl | rfl | rfl | rfl | rfl | rfl | rfl
  · go_wp2_with (fail)
    go_ret
    exact SI.out 0 rfl (by omega) (by omega) 1 rfl
  · go_wp2_with (fail)
    go_ret
    exact SI.out 1 rfl (by omega) (by omega) 2 rfl
  · go_wp2_with (fail)
    go_ret
    exact SI.out 2 rfl (by omega) (by omega) 3 rfl
  · go_wp2_with (fail)
    go_ret
    exact SI.out 3 rfl (by omega) (by omega) 4 rfl
  · go_wp2_with (fail)
    go_ret
    exact SI.out 5 rfl (by omega) (by omega) 7 rfl
  · go_wp2_with (fail)
    go_ret
    exact SI.out 7 rfl (by omega) (by omega) 12 rfl
  · go_wp2_with (fail)
    first | (refine calls_named ?_; intro W3 hW3) | (refine body_named ?_; intro W3 hW3) | (refine wpList_named ?_; intro W3 hW3) | (refine wp_named ?_; intro W3 hW3)
    have hb3 : Below w2.heap.size w2 W3 := by rw [← hW3]; exact ((Below.refl _ _).alloc (Nat.le_refl _) _).alloc (by simp) _
    have hv3 : Blk W3 w2.heap.size 3 #[.int .i64 5, .int .i64 6] := by rw [← hW3]; exact (Blk.new _ _ _).alloc _
    have hk3 : Blk W3 (w2.heap.size + 1) 9 (([kGoals, kWins] : List (List UInt8)).map fun s => (.string (bs s) : Value)).toArray := by rw [← hW3, ← World.size_alloc]; exact Blk.new _ _ _
    clear hW3
    have hg2 := HQ.out.lt
    have hpos : posA (s.bind fun _ a => qchoose T wordsBy 0 a).st ≤ 65600 := Nat.le_trans bind_pos (by omega)
    refine (zchoose_any B g A n c T _ (some ⟨w2.heap.size + 1, 0, none⟩) 2 2 W3.heap.size [kGoals, kWins] W3 (HQ.out.below hb3) hpos (rd_texts (ws := [kGoals, kWins]) hk3 (by decide)) (Nat.le_refl _) (fun p hp => by injection hp with hp; rw [← hp]; show w2.heap.size + 1 ≠ g; omega) (by omega)).mono ?_
    rintro e w4 ⟨ho4, hq4, _, rfl, ⟨y, rfl, hy⟩, hv4⟩
    have hv5 := hv3.only ho4 (fun e => by omega)
    have HO4 := Lib.hid (HO.out.trans ((Only.of_below hb3).trans ho4))
    obtain ⟨k1, k2⟩ := crit_two (T := T) (ws := [kGoals, kWins]) (val := vAway) HV.out (fun n => rfl)
    have HK1 := Lib.hid k1
    have HK2 := Lib.hid k2
    have HQ4 := Lib.hid hq4
    have HV4 := Lib.hid hv4
    clear k1 k2 hq4 hv4 ho4 hb3 hk3 hv3
    have fin : ∀ v : Int, v = vAway y → QPost w B g A n c T (s.bind fun _ a => pcrit T a) (fun x _ v => v = .int .i64 x) (fun _ v => ∃ x : Int, v = .int .i64 x) (.returned (.int .i64 v)) w4 := fun v hv => by
      subst hv
      refine ⟨HO4.out, ?_, _, rfl, ⟨_, rfl⟩, fun b m e => ?_⟩
      · rw [HE.out, HK1.out]; exact HQ4.out
      · rw [HE.out] at e
        obtain ⟨y', e2, rfl⟩ := HK2.out b m e
        have := HV4.out y' m e2
        injection this with _ e3
        have e4 : y = y' := by omega
        rw [e4]
    have FI := Lib.hid fin
    clear fin
    have lx := hv5.lt
    have z0 : w4.cell? ⟨w2.heap.size, 0, none⟩ = some (.int .i64 5) := hv5.cell 0
    have z1 : w4.cell? ⟨w2.heap.size, 1, none⟩ = some (.int .i64 6) := hv5.cell 1
    rcases (show y = 0 ∨ y = 1 by omega) with rfl | rfl
    · go_wp2_with (fail)
      go_ret
      exact FI.out 5 rfl
    · go_wp2_with (fail)
      go_ret
      exact FI.out 6 rfl
  · go_wp2_with (fail)
    first | (refine calls_named ?_; intro W3 hW3) | (refine body_named ?_; intro W3 hW3) | (refine wpList_named ?_; intro W3 hW3) | (refine wp_named ?_; intro W3 hW3)
    have hb3 : Below w2.heap.size w2 W3 := by rw [← hW3]; exact ((Below.refl _ _).alloc (Nat.le_refl _) _).alloc (by simp) _
    have hv3 : Blk W3 w2.heap.size 3 #[.int .i64 8, .int .i64 9, .int .i64 10, .int .i64 11] := by rw [← hW3]; exact (Blk.new _ _ _).alloc _
    have hk3 : Blk W3 (w2.heap.size + 1) 9 (([kPoints, kDiff, kGoals, kAway] : List (List UInt8)).map fun s => (.string (bs s) : Value)).toArray := by rw [← hW3, ← World.size_alloc]; exact Blk.new _ _ _
    clear hW3
    have hg2 := HQ.out.lt
    have hpos : posA (s.bind fun _ a => qchoose T wordsBy 0 a).st ≤ 65600 := Nat.le_trans bind_pos (by omega)
    refine (zchoose_any B g A n c T _ (some ⟨w2.heap.size + 1, 0, none⟩) 4 4 W3.heap.size [kPoints, kDiff, kGoals, kAway] W3 (HQ.out.below hb3) hpos (rd_texts (ws := [kPoints, kDiff, kGoals, kAway]) hk3 (by decide)) (Nat.le_refl _) (fun p hp => by injection hp with hp; rw [← hp]; show w2.heap.size + 1 ≠ g; omega) (by omega)).mono ?_
    rintro e w4 ⟨ho4, hq4, _, rfl, ⟨y, rfl, hy⟩, hv4⟩
    have hv5 := hv3.only ho4 (fun e => by omega)
    have HO4 := Lib.hid (HO.out.trans ((Only.of_below hb3).trans ho4))
    obtain ⟨k1, k2⟩ := crit_two (T := T) (ws := [kPoints, kDiff, kGoals, kAway]) (val := vHead) HV.out (fun n => rfl)
    have HK1 := Lib.hid k1
    have HK2 := Lib.hid k2
    have HQ4 := Lib.hid hq4
    have HV4 := Lib.hid hv4
    clear k1 k2 hq4 hv4 ho4 hb3 hk3 hv3
    have fin : ∀ v : Int, v = vHead y → QPost w B g A n c T (s.bind fun _ a => pcrit T a) (fun x _ v => v = .int .i64 x) (fun _ v => ∃ x : Int, v = .int .i64 x) (.returned (.int .i64 v)) w4 := fun v hv => by
      subst hv
      refine ⟨HO4.out, ?_, _, rfl, ⟨_, rfl⟩, fun b m e => ?_⟩
      · rw [HE.out, HK1.out]; exact HQ4.out
      · rw [HE.out] at e
        obtain ⟨y', e2, rfl⟩ := HK2.out b m e
        have := HV4.out y' m e2
        injection this with _ e3
        have e4 : y = y' := by omega
        rw [e4]
    have FI := Lib.hid fin
    clear fin
    have lx := hv5.lt
    have z0 : w4.cell? ⟨w2.heap.size, 0, none⟩ = some (.int .i64 8) := hv5.cell 0
    have z1 : w4.cell? ⟨w2.heap.size, 1, none⟩ = some (.int .i64 9) := hv5.cell 1
    have z2 : w4.cell? ⟨w2.heap.size, 2, none⟩ = some (.int .i64 10) := hv5.cell 2
    have z3 : w4.cell? ⟨w2.heap.size, 3, none⟩ = some (.int .i64 11) := hv5.cell 3
    rcases (show y = 0 ∨ y = 1 ∨ y = 2 ∨ y = 3 by omega) with rfl | rfl | rfl | rfl
    · go_wp2_with (fail)
      go_ret
      exact FI.out 8 rfl
    · go_wp2_with (fail)
      go_ret
      exact FI.out 9 rfl
    · go_wp2_with (fail)
      go_ret
      exact FI.out 10 rfl
    · go_wp2_with (fail)
      go_ret
      exact FI.out 11 rfl
end Go.Proofs.YtlgdmbdhffdenaaGreatDoor

/- The reference's parser in plain Lean: runs of calls, by the states between them. No program. -/
namespace Go.Proofs.YtlgdmbdhffdenaaGreatDoor
set_option linter.unusedVariables false
set_option linter.unusedSimpArgs false

/-- A result's thing, or another. -/
def Res.val {α : Type} (d : α) (r : Res α) : α := match r with | .ok x _ => x | .bad _ => d
theorem st_map {α β : Type} (r : Res α) (f : α → β) : (r.map f).st = r.st := by cases r <;> rfl
theorem st_ok {α : Type} {r : Res α} {m : Nat} (h : r.st = .ok () m) : ∃ x, r = .ok x m := by
  cases r with
  | ok x n => injection h with _ h; subst h; exact ⟨x, rfl⟩
  | bad n => cases h
theorem Res.In.pos {α : Type} {L a : Nat} {r : Res α} (h : r.In L a) : a ≤ posA r.st ∧ (posA r.st ≤ L ∨ posA r.st = a) := by
  cases r with
  | ok x n => exact ⟨Nat.le_of_lt h.1, .inl h.2⟩
  | bad n => exact h
theorem Res.In0.pos {α : Type} {L a : Nat} {r : Res α} (h : r.In0 L a) : a ≤ posA r.st ∧ (posA r.st ≤ L ∨ posA r.st = a) := by
  cases r <;> exact h
theorem bind_in0 {α : Type} {L : Nat} {s : Res Unit} {p : Nat → Res α} (h : ∀ a, (p a).In0 L a) : posA s ≤ posA (s.bind fun _ a => p a).st ∧ (posA (s.bind fun _ a => p a).st ≤ L ∨ posA (s.bind fun _ a => p a).st = posA s) := by
  cases s with
  | ok u a => exact Res.In0.pos (h a)
  | bad n => exact ⟨Nat.le_refl _, .inr rfl⟩
theorem bind_in {α : Type} {L : Nat} {s : Res Unit} {p : Nat → Res α} (h : ∀ a, (p a).In L a) : posA s ≤ posA (s.bind fun _ a => p a).st ∧ (posA (s.bind fun _ a => p a).st ≤ L ∨ posA (s.bind fun _ a => p a).st = posA s) := bind_in0 fun a => (h a).in0
theorem qchoose_in (T : List Tok) : ∀ (ws : List (List UInt8)) (i a : Nat), (qchoose T ws i a).In T.length a
  | [], _, a => Res.bad_in _ _
  | x :: r, i, a => by
    rw [qchoose]
    split
    · next h => exact ⟨Nat.lt_succ_self _, isB_lt T h⟩
    · exact qchoose_in T r (i + 1) a
/-- A comparison: the state behind its three calls, and what it is. -/
theorem comp_three (T : List Tok) (s : Res Unit) {r1 r2 : Res Nat} {r3 : Res Int} (e1 : r1 = s.bind fun _ a => qchoose T [kTied, kRound, kFin, kClubs] 0 a) (e2 : r2 = r1.st.bind fun _ a => qchoose T [kGe, kLe, kGt, kLt, kEq] 0 a) (e3 : r3 = r2.st.bind fun _ a => pint T a) :
    (s.bind fun _ a => pcomp T a).st = r3.st ∧ ∀ c m, (s.bind fun _ a => pcomp T a) = .ok c m → ∃ j n1 o n2 i, r1 = .ok j n1 ∧ r2 = .ok o n2 ∧ r3 = .ok i m ∧ c = compare_ (vVars j) (vOps o) i := by
  rw [pcomp_q, ← e1]
  clear e1
  cases r1 with
  | bad n => subst e2 e3; exact ⟨rfl, fun c m e => by cases e⟩
  | ok j n1 =>
    have e2' : r2 = qchoose T [kGe, kLe, kGt, kLt, kEq] 0 n1 := e2
    clear e2
    show ((qchoose T [kGe, kLe, kGt, kLt, kEq] 0 n1).bind _).st = _ ∧ ∀ c m, ((qchoose T [kGe, kLe, kGt, kLt, kEq] 0 n1).bind _) = _ → _
    rw [← e2']
    clear e2'
    cases r2 with
    | bad n => subst e3; exact ⟨rfl, fun c m e => by cases e⟩
    | ok o n2 =>
      have e3' : r3 = pint T n2 := e3
      clear e3
      show ((pint T n2).bind _).st = _ ∧ ∀ c m, ((pint T n2).bind _) = _ → _
      rw [← e3']
      clear e3'
      cases r3 with
      | bad n => exact ⟨rfl, fun c m e => by cases e⟩
      | ok i n3 => exact ⟨rfl, fun c m e => by cases e; exact ⟨j, n1, o, n2, i, rfl, rfl, rfl, rfl⟩⟩
/-- Conditions joined: the first one. -/
theorem joined_first (T : List Tok) (kw : List UInt8) (kind : Int) (p : Nat → Res CT) (s : Res Unit) : (s.bind fun _ a => pjoined T kw kind p a) =
    (s.bind fun _ a => p a).st.bind fun _ b => (pmore T kw p (T.length - posA (s.bind fun _ a => p a).st) b).map fun cs => joinAll kind ((CF.one ((s.bind fun _ a => p a).val .zero) .nil).app cs) := by
  cases s with
  | bad n => rfl
  | ok u a =>
    show pjoined T kw kind p a = (p a).st.bind fun _ b => (pmore T kw p (T.length - posA (p a).st) b).map fun cs => joinAll kind ((CF.one ((p a).val .zero) .nil).app cs)
    unfold pjoined
    cases p a with
    | bad n => rfl
    | ok c1 m => exact congrArg (fun f => (pmore T kw p (T.length - m) m).map f) (funext fun cs => joinAll_join kind c1 cs)
/-- Conditions joined: one more. -/
theorem joined_next (T : List Tok) (kw : List UInt8) (kind : Int) (p : Nat → Res CT) {gk b : Nat} {F : CF} (h : isB T b kw = true) : ((pmore T kw p (gk + 1) b).map fun cs => joinAll kind (F.app cs)) =
    (p (b + 1)).st.bind fun _ n => (pmore T kw p gk n).map fun cs => joinAll kind ((F.app (.one ((p (b + 1)).val .zero) .nil)).app cs) := by
  rw [pmore_succ, if_pos h]
  cases p (b + 1) with
  | bad n => rfl
  | ok c2 n =>
    show ((pmore T kw p gk n).map (CF.one c2)).map _ = (pmore T kw p gk n).map _
    cases pmore T kw p gk n with
    | ok cs q => show Res.ok (joinAll kind (F.app (CF.one c2 cs))) q = Res.ok (joinAll kind ((F.app (CF.one c2 .nil)).app cs)) q; rw [CF.app_assoc]; rfl
    | bad q => rfl
/-- Conditions joined: the end. -/
theorem joined_end (T : List Tok) (kw : List UInt8) (kind : Int) (p : Nat → Res CT) {gk : Nat} {q : Res Unit} {F : CF} (h : qis T q kw = false) : (q.bind fun _ b => (pmore T kw p gk b).map fun cs => joinAll kind (F.app cs)) = q.map fun _ => joinAll kind F := by
  cases q with
  | bad n => rfl
  | ok u b =>
    have hb : isB T b kw = false := h
    show ((pmore T kw p gk b).map fun cs => joinAll kind (F.app cs)) = Res.ok (joinAll kind F) b
    cases gk with
    | zero => show Res.ok (joinAll kind (F.app .nil)) b = _; rw [CF.app_nil]
    | succ gk =>
      rw [pmore_succ, if_neg (by rw [hb]; decide)]
      show Res.ok (joinAll kind (F.app .nil)) b = _
      rw [CF.app_nil]

/-- The reference's steps and zones leave the brace. -/
def shut {α : Type} (r : Res α) : Res α := match r with | .ok x n => .ok x (n - 1) | .bad n => .bad n
theorem shut_bind {α β : Type} (r : Res α) (f : α → Nat → Res β) : shut (r.bind f) = r.bind fun x n => shut (f x n) := by cases r <;> rfl
theorem shut_map {α β : Type} (r : Res α) (f : α → β) : shut (r.map f) = (shut r).map f := by cases r <;> rfl
/-- A result that ends behind a brace. -/
def Closed {α : Type} (T : List Tok) (a : Nat) (r : Res α) : Prop := ∀ x n, r = .ok x n → a < n ∧ isB T (n - 1) kRB = true
theorem Closed.map {α β : Type} {T : List Tok} {a : Nat} {r : Res α} {f : α → β} (h : Closed T a r) : Closed T a (r.map f) := fun x n e => by
  obtain ⟨y, e1, _⟩ := Res.map_ok e
  exact h y n e1
theorem Closed.bind {α β : Type} {T : List Tok} {a L : Nat} {r : Res α} {f : α → Nat → Res β} (h : r.In0 L a) (hf : ∀ x n, Closed T n (f x n)) : Closed T a (r.bind f) := fun x n e => by
  obtain ⟨y, m, e1, e2⟩ := Res.bind_ok e
  rw [e1] at h
  have h2 := hf y m x n e2
  exact ⟨Nat.lt_of_le_of_lt h.1 h2.1, h2.2⟩
theorem psteps_closed (T : List Tok) : ∀ f a, Closed T a (psteps T f a)
  | 0, a => fun x n e => by cases e
  | f + 1, a => by
    rw [show psteps T (f + 1) a = if isB T a kRB then .ok .nil (a + 1) else if isB T a kIf then
      (pcond T T.length (a + 1)).bind fun c n => (pwant T [kLB] n).bind fun _ n => (psteps T f n).bind fun t n =>
        if isB T n kElse then (pwant T [kLB] (n + 1)).bind fun _ n => (psteps T f n).bind fun e n => (psteps T f n).map (SF.one 2 0 c t e)
        else (psteps T f n).map (SF.one 2 0 c t .nil)
      else (pcrit T a).bind fun b n => (pwant T [kSemi] n).bind fun _ n => (psteps T f n).map (SF.one 1 b .zero .nil .nil) from rfl]
    have ih := psteps_closed T f
    by_cases h : isB T a kRB = true
    · rw [if_pos h]
      intro x n e
      cases e
      exact ⟨Nat.lt_succ_self _, h⟩
    · rw [if_neg h]
      by_cases h2 : isB T a kIf = true
      · rw [if_pos h2]
        have key : Closed T (a + 1) ((pcond T T.length (a + 1)).bind fun c n => (pwant T [kLB] n).bind fun _ n => (psteps T f n).bind fun t n =>
            if isB T n kElse then (pwant T [kLB] (n + 1)).bind fun _ n => (psteps T f n).bind fun e n => (psteps T f n).map (SF.one 2 0 c t e)
            else (psteps T f n).map (SF.one 2 0 c t .nil)) := by
          refine Closed.bind (pcond_in T _ _).in0 fun c n => Closed.bind (pwant_in0 T _ _) fun _ n => Closed.bind (psteps_in T _ _).in0 fun t n => ?_
          by_cases h3 : isB T n kElse = true
          · rw [if_pos h3]
            have k3 : Closed T (n + 1) ((pwant T [kLB] (n + 1)).bind fun _ n => (psteps T f n).bind fun e n => (psteps T f n).map (SF.one 2 0 c t e)) :=
              Closed.bind (pwant_in0 T _ _) fun _ n => Closed.bind (psteps_in T _ _).in0 fun e n => (ih n).map
            exact fun x m e => ⟨by have := (k3 x m e).1; omega, (k3 x m e).2⟩
          · rw [if_neg h3]
            exact (ih n).map
        exact fun x m e => ⟨by have := (key x m e).1; omega, (key x m e).2⟩
      · rw [if_neg h2]
        exact Closed.bind (pcrit_in T _).in0 fun b n => Closed.bind (pwant_in0 T _ _) fun _ n => (ih n).map
theorem pzones_closed (T : List Tok) : ∀ f a, Closed T a (pzones T f a)
  | 0, a => fun x n e => by cases e
  | f + 1, a => by
    rw [show pzones T (f + 1) a = if isB T a kRB then .ok [] (a + 1) else (pzone T a).bind fun z n => (pzones T f n).map (z :: ·) from rfl]
    by_cases h : isB T a kRB = true
    · rw [if_pos h]
      intro x n e
      cases e
      exact ⟨Nat.lt_succ_self _, h⟩
    · rw [if_neg h]
      exact Closed.bind (pzone_in T _).in0 fun z n => (pzones_closed T f n).map
/-- The brace behind, and further words. -/
theorem shut_want {α : Type} {T : List Tok} {a : Nat} {r : Res α} (h : Closed T a r) (ws : List (List UInt8)) : ((shut r).st.bind fun _ n => pwant T (kRB :: ws) n) = r.st.bind fun _ n => pwant T ws n := by
  cases r with
  | bad n => rfl
  | ok x n =>
    obtain ⟨h1, h2⟩ := h x n rfl
    show pwant T (kRB :: ws) (n - 1) = pwant T ws n
    rw [pwant, if_pos h2, show n - 1 + 1 = n by omega]
theorem shut_in {α : Type} {L a : Nat} {r : Res α} (h : r.In L a) : (shut r).In0 L a := by
  cases r with
  | ok x n => exact ⟨by have := h.1; show a ≤ n - 1; omega, .inl (by have := h.2; show n - 1 ≤ L; omega)⟩
  | bad n => exact h
theorem shut_val {α : Type} (d : α) (r : Res α) : (shut r).val d = r.val d := by cases r <;> rfl
/-- A step by a criterion. -/
theorem step_by {T : List Tok} {fu b : Nat} {F : SF} {r1 : Res Int} {r2 : Res Unit} (h : T.length ≤ fu + b) (h1 : isB T b kRB = false) (h2 : isB T b kIf = false) (e1 : r1 = pcrit T b) (e2 : r2 = r1.st.bind fun _ n => pwant T [kSemi] n) :
    ((shut (psteps T fu b)).map (F.app ·)) = r2.bind fun _ n => (shut (psteps T (fu - 1) n)).map ((F.app (.cons 1 (r1.val 0) 0 0 0 .nil .nil .nil .nil)).app ·) := by
  rw [psteps_step h, if_neg (by rw [h1]; decide), if_neg (by rw [h2]; decide), ← e1]
  clear e1
  cases r1 with
  | bad n => subst e2; rfl
  | ok x n =>
    have e2' : r2 = pwant T [kSemi] n := e2
    show (shut ((pwant T [kSemi] n).bind fun _ n => (psteps T (fu - 1) n).map (SF.one 1 x .zero .nil .nil))).map _ = _
    rw [← e2']
    cases r2 with
    | bad n => rfl
    | ok u n =>
      show (shut ((psteps T (fu - 1) n).map (SF.one 1 x .zero .nil .nil))).map _ = (shut (psteps T (fu - 1) n)).map _
      rw [shut_map]
      cases shut (psteps T (fu - 1) n) with
      | ok r q => show Res.ok (F.app (SF.one 1 x .zero .nil .nil r)) q = Res.ok ((F.app (.cons 1 x 0 0 0 .nil .nil .nil .nil)).app r) q; rw [SF.app_assoc]; rfl
      | bad q => rfl
/-- A step with a condition, up to its brace. -/
theorem step_if {T : List Tok} {fu b : Nat} {r1 : Res CT} {r2 r4 : Res Unit} {r3 : Res SF} (h : T.length ≤ fu + b) (h1 : isB T b kRB = false) (h2 : isB T b kIf = true) (e1 : r1 = pcond T T.length (b + 1)) (e2 : r2 = r1.st.bind fun _ n => pwant T [kLB] n)
    (e3 : r3 = r2.bind fun _ n => shut (psteps T (fu - 1) n)) (e4 : r4 = r3.st.bind fun _ n => pwant T [kRB] n) :
    psteps T fu b = r4.bind fun _ n => if isB T n kElse then (pwant T [kLB] (n + 1)).bind fun _ n => (psteps T (fu - 1) n).bind fun e n => (psteps T (fu - 1) n).map (SF.one 2 0 (r1.val .zero) (r3.val .nil) e)
      else (psteps T (fu - 1) n).map (SF.one 2 0 (r1.val .zero) (r3.val .nil) .nil) := by
  rw [psteps_step h, if_neg (by rw [h1]; decide), if_pos h2, ← e1]
  clear e1
  cases r1 with
  | bad n => subst e2; subst e3; subst e4; rfl
  | ok c n =>
    have e2' : r2 = pwant T [kLB] n := e2
    show ((pwant T [kLB] n).bind _) = _
    rw [← e2']
    clear e2 e2'
    cases r2 with
    | bad n => subst e3; subst e4; rfl
    | ok u n =>
      have e3' : r3 = shut (psteps T (fu - 1) n) := e3
      have e5 := shut_want (psteps_closed T (fu - 1) n) []
      rw [← e3', ← e4] at e5
      show ((psteps T (fu - 1) n).bind _) = _
      cases hp : psteps T (fu - 1) n with
      | bad n =>
        rw [hp] at e5 e3'
        rw [e5]
        rfl
      | ok t m =>
        rw [hp] at e5 e3'
        rw [e5, e3']
        rfl
theorem step_no {T : List Tok} {fu b : Nat} {F : SF} {r1 : Res CT} {r2 r4 : Res Unit} {r3 : Res SF} (h : T.length ≤ fu + b) (h1 : isB T b kRB = false) (h2 : isB T b kIf = true) (e1 : r1 = pcond T T.length (b + 1)) (e2 : r2 = r1.st.bind fun _ n => pwant T [kLB] n)
    (e3 : r3 = r2.bind fun _ n => shut (psteps T (fu - 1) n)) (e4 : r4 = r3.st.bind fun _ n => pwant T [kRB] n) (hq : qis T r4 kElse = false) :
    ((shut (psteps T fu b)).map (F.app ·)) = r4.bind fun _ n => (shut (psteps T (fu - 1) n)).map ((F.app (SF.one 2 0 (r1.val .zero) (r3.val .nil) .nil .nil)).app ·) := by
  rw [step_if h h1 h2 e1 e2 e3 e4]
  clear e4
  cases r4 with
  | bad n => rfl
  | ok u n =>
    have hn : isB T n kElse = false := hq
    show (shut (if isB T n kElse then _ else _)).map _ = _
    rw [hn, if_neg (by decide), shut_map]
    show _ = (shut (psteps T (fu - 1) n)).map _
    cases shut (psteps T (fu - 1) n) with
    | ok r q => show Res.ok (F.app (SF.one 2 0 (r1.val .zero) (r3.val .nil) .nil r)) q = Res.ok ((F.app (SF.one 2 0 (r1.val .zero) (r3.val .nil) .nil .nil)).app r) q; rw [SF.app_assoc]; rfl
    | bad q => rfl
theorem step_else {T : List Tok} {fu b a : Nat} {F : SF} {r1 : Res CT} {r2 r4 r5 r7 : Res Unit} {r3 r6 : Res SF} (h : T.length ≤ fu + b) (h1 : isB T b kRB = false) (h2 : isB T b kIf = true) (e1 : r1 = pcond T T.length (b + 1)) (e2 : r2 = r1.st.bind fun _ n => pwant T [kLB] n)
    (e3 : r3 = r2.bind fun _ n => shut (psteps T (fu - 1) n)) (e4 : r4 = r3.st.bind fun _ n => pwant T [kRB] n) (ea : r4 = .ok () a) (hq : isB T a kElse = true)
    (e5 : r5 = pwant T [kLB] (a + 1)) (e6 : r6 = r5.bind fun _ n => shut (psteps T (fu - 1) n)) (e7 : r7 = r6.st.bind fun _ n => pwant T [kRB] n) :
    ((shut (psteps T fu b)).map (F.app ·)) = r7.bind fun _ n => (shut (psteps T (fu - 1) n)).map ((F.app (SF.one 2 0 (r1.val .zero) (r3.val .nil) (r6.val .nil) .nil)).app ·) := by
  rw [step_if h h1 h2 e1 e2 e3 e4]
  clear e4
  subst ea
  show (shut (if isB T a kElse then _ else _)).map _ = _
  rw [if_pos hq, ← e5]
  clear e5
  cases r5 with
  | bad n => subst e6; subst e7; rfl
  | ok u n =>
    have e6' : r6 = shut (psteps T (fu - 1) n) := e6
    have e8 := shut_want (psteps_closed T (fu - 1) n) []
    rw [← e6', ← e7] at e8
    show (shut ((psteps T (fu - 1) n).bind _)).map _ = _
    cases hp : psteps T (fu - 1) n with
    | bad n =>
      rw [hp] at e8
      rw [e8]
      rfl
    | ok t m =>
      rw [hp] at e8 e6'
      rw [e8, e6']
      show (shut ((psteps T (fu - 1) m).map (SF.one 2 0 (r1.val .zero) (r3.val .nil) t))).map _ = (shut (psteps T (fu - 1) m)).map _
      rw [shut_map]
      cases shut (psteps T (fu - 1) m) with
      | ok r q => show Res.ok (F.app (SF.one 2 0 (r1.val .zero) (r3.val .nil) t r)) q = Res.ok ((F.app (SF.one 2 0 (r1.val .zero) (r3.val .nil) t .nil)).app r) q; rw [SF.app_assoc]; rfl
      | bad q => rfl
/-- A zone of one place, or of several. -/
theorem zone_one {T : List Tok} {fu b : Nat} {l : List ZT} {r1 : Res (List UInt8)} {r2 : Res Int} {r3 : Res Unit} (h : T.length ≤ fu + b) (h1 : isB T b kRB = false) (e1 : r1 = pname T b) (e2 : r2 = r1.st.bind fun _ n => pint T n) (hq : qis T r2.st kTo = false) (e3 : r3 = r2.st.bind fun _ n => pwant T [kSemi] n) :
    ((shut (pzones T fu b)).map (l ++ ·)) = r3.bind fun _ n => (shut (pzones T (fu - 1) n)).map ((l ++ [⟨r1.val [], r2.val 0, r2.val 0⟩]) ++ ·) := by
  rw [pzones_step h, if_neg (by rw [h1]; decide)]
  unfold pzone
  rw [← e1]
  clear e1
  cases r1 with
  | bad n => subst e2; subst e3; rfl
  | ok x n =>
    have e2' : r2 = pint T n := e2
    show (shut (((pint T n).bind _).bind _)).map _ = _
    rw [← e2']
    clear e2 e2'
    cases r2 with
    | bad n => subst e3; rfl
    | ok i n =>
      have hn : isB T n kTo = false := hq
      have e3' : r3 = pwant T [kSemi] n := e3
      show (shut ((if isB T n kTo then _ else _ : Res ZT).bind _)).map _ = _
      rw [if_neg (by rw [hn]; decide), ← e3']
      clear e3 e3'
      cases r3 with
      | bad n => rfl
      | ok u n =>
        show (shut ((pzones T (fu - 1) n).map ((⟨x, i, i⟩ : ZT) :: ·))).map _ = (shut (pzones T (fu - 1) n)).map _
        rw [shut_map]
        cases shut (pzones T (fu - 1) n) <;> simp [Res.map, Res.val]
theorem zone_two {T : List Tok} {fu b a : Nat} {l : List ZT} {r1 : Res (List UInt8)} {r2 r4 : Res Int} {r5 : Res Unit} (h : T.length ≤ fu + b) (h1 : isB T b kRB = false) (e1 : r1 = pname T b) (e2 : r2 = r1.st.bind fun _ n => pint T n) (ea : r2.st = .ok () a) (hq : isB T a kTo = true)
    (e4 : r4 = pint T (a + 1)) (e5 : r5 = r4.st.bind fun _ n => pwant T [kSemi] n) :
    ((shut (pzones T fu b)).map (l ++ ·)) = r5.bind fun _ n => (shut (pzones T (fu - 1) n)).map ((l ++ [⟨r1.val [], r2.val 0, r4.val 0⟩]) ++ ·) := by
  rw [pzones_step h, if_neg (by rw [h1]; decide)]
  unfold pzone
  rw [← e1]
  clear e1
  cases r1 with
  | bad n => subst e2; cases ea
  | ok x n =>
    have e2' : r2 = pint T n := e2
    show (shut (((pint T n).bind _).bind _)).map _ = _
    rw [← e2']
    clear e2 e2'
    obtain ⟨i, rfl⟩ := st_ok ea
    show (shut ((if isB T a kTo then _ else _ : Res ZT).bind _)).map _ = _
    rw [if_pos hq, ← e4]
    clear e4
    cases r4 with
    | bad n => subst e5; rfl
    | ok j n =>
      have e5' : r5 = pwant T [kSemi] n := e5
      show (shut (((pwant T [kSemi] n).map _).bind _)).map _ = _
      rw [← e5']
      clear e5 e5'
      cases r5 with
      | bad n => rfl
      | ok u n =>
        show (shut ((pzones T (fu - 1) n).map ((⟨x, i, j⟩ : ZT) :: ·))).map _ = (shut (pzones T (fu - 1) n)).map _
        rw [shut_map]
        cases shut (pzones T (fu - 1) n) <;> simp [Res.map, Res.val]
end Go.Proofs.YtlgdmbdhffdenaaGreatDoor
