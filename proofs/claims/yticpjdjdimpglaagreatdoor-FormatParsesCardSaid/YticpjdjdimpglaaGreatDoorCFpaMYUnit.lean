/- The parser's unit, conj, cond by their contracts. -/
import Derived.Test.YticpjdjdimpglaaGreatDoorCFpaMYJoin
import Derived.Test.YticpjdjdimpglaaGreatDoorCFpaMYComp
namespace Go.Proofs.YticpjdjdimpglaaGreatDoor
set_option linter.unusedVariables false
set_option linter.unusedSimpArgs false
open Go.RowKit
/-- The contract of unit with fuel f. -/
def UC (f : Nat) : Prop := ∀ (B g : Nat) (A : Option Addr) (n c : Nat) (T : List Tok) (a : Nat) (w : World), PSt w B g A n c T a → TOk T → a ≤ 65537 → T.length ≤ a + f →
  Calls Tryz.prog 171 #[.pointer (some ⟨g, 0, none⟩)] w (PPost w B g A n c T (punit T f a) (CV w))
theorem hmfP : ∀ (fn : Fn) (first cap : Array Value) (w : World), (Instr.makeFunc fn first cap).run Tryz.prog w = .ok (.func fn first cap) w := fun _ _ _ _ => rfl
/-- The result's box is filled. -/
theorem cv_fin {w w1 W : World} {B g n c m m1 cc1 : Nat} {A A1 : Option Addr} {T : List Tok} {r : Res CT} {x : CT} (HE : r = .ok x m) (hO1 : Only (· = g) w w1) (hP : PSt w1 B g A n c T m) (hg : g < w.heap.size)
    (hO : Only (· = w.heap.size) w1 W) (hR : RepH (fun k => k ≤ w.heap.size) w1 x.ps A1 m1 cc1) : PPost w B g A n c T r (CV w) (.returned (condV x A1 m1 cc1)) W := by
  unfold PPost
  rw [HE]
  exact ⟨hO1.new hO (fun k e => by rw [e]; exact Nat.le_refl _), ⟨_, rfl, A1, m1, cc1, rfl, (hR.only hO (fun k e => by rw [e]; exact Nat.le_refl _)).sub (fun k hk => Nat.le_of_lt hk)⟩,
    hP.only hO (by omega) (fun k e => by rw [e]; have := hP.lb; omega)⟩
theorem cv_bad {w w1 : World} {B g n c m : Nat} {A : Option Addr} {T : List Tok} {r : Res CT} (HE : r = .bad m) (hO1 : Only (· = g) w w1) (hP : PSt w1 B g A n c T m) : PPost w B g A n c T r (CV w) panF w1 := by
  unfold PPost
  rw [HE]
  exact ⟨hO1, rfl, hP⟩
set_option maxHeartbeats 4000000 in
set_option maxRecDepth 100000 in
theorem yconj_of (f : Nat) (hU : UC f) (B g : Nat) (A : Option Addr) (n c : Nat) (T : List Tok) (a : Nat) (w : World) (h : PSt w B g A n c T a) (hT : TOk T) (ha : a ≤ 65537) (hf : T.length ≤ a + f) :
    Calls Tryz.prog 134 #[.pointer (some ⟨g, 0, none⟩)] w (PPost w B g A n c T (pconj T f a) (CV w)) := by
  have hmf := hmfP
  have HS := Lib.hid h
  have HT := Lib.hid hT
  have HU := Lib.hid hU
  clear h hT hU
  go_enter Tryz.func134, Tryz.ntmps134
  go_wp2_with (fail)
  have hb0 : Below w.heap.size w (w.alloc (.cells #[.int .i64 0, .int .i64 0, .int .i64 0, .slice none 0 0] 24)) := (Below.refl _ _).alloc (Nat.le_refl _) _
  have hx0 := Blk.new w 24 #[.int .i64 0, .int .i64 0, .int .i64 0, .slice none 0 0]
  have hgw := HS.out.lt
  refine (yjoin_any 171 B g A n c T (punit T f) (punit_in T f) a kAnd 2 (by decide) (fun a' w' h1 h2 h3 => HU.out B g A n c T a' w' h3 HT.out h2 (by omega)) (fun _ => rfl) _ (HS.out.below hb0) HT.out ha).mono ?_
  rintro e w1 ⟨hO1', hp⟩
  have hO1 := Lib.hid ((Only.of_below hb0).trans hO1')
  have hx1 := hx0.only hO1' (by omega)
  rw [show pjoined T kAnd 2 (punit T f) a = pconj T f a from rfl] at hp
  clear hO1' hb0 hx0
  cases hv : pconj T f a with
  | bad m =>
    rw [hv] at hp
    obtain ⟨rfl, hP⟩ := hp
    go_wp2
    exact ⟨rfl, cv_bad rfl hO1.out hP⟩
  | ok x m =>
    rw [hv] at hp
    obtain ⟨⟨_, rfl, A1, m1, cc1, rfl, hR1⟩, hP1⟩ := hp
    unfold condV
    dsimp only [vi]
    obtain ⟨x0, x1, x2, x3, f0, f1, f2, f3⟩ := hx1.four
    have hl1 := hx1.lt
    go_wp2_with (fail)
    first | (refine calls_named ?_; intro W hW) | (refine body_named ?_; intro W hW) | (refine wpList_named ?_; intro W hW) | (refine wp_named ?_; intro W hW)
    obtain ⟨hk, hO⟩ : Blk W w.heap.size 24 #[.int .i64 x.k, .int .i64 x.v, .int .i64 x.n, .slice A1 m1 cc1] ∧ Only (· = w.heap.size) w1 W := by rw [← hW]; exact hx1.set4
    clear hW x0 x1 x2 x3 f0 f1 f2 f3
    obtain ⟨y0, y1, y2, y3, _⟩ := hk.four
    refine bodyPost_ret (by simp [results, Tryz.results134, go_sem, y0, y1, y2, y3]; try rfl) rfl ?_
    exact cv_fin hv hO1.out hP1 hgw hO (hR1.sub fun k hk => by simp only [World.size_alloc]; omega)
set_option maxHeartbeats 4000000 in
set_option maxRecDepth 100000 in
theorem ycond_of (f : Nat) (hU : UC f) (B g : Nat) (A : Option Addr) (n c : Nat) (T : List Tok) (a : Nat) (w : World) (h : PSt w B g A n c T a) (hT : TOk T) (ha : a ≤ 65537) (hf : T.length ≤ a + f) :
    Calls Tryz.prog 77 #[.pointer (some ⟨g, 0, none⟩)] w (PPost w B g A n c T (pcond T f a) (CV w)) := by
  have hmf := hmfP
  have HS := Lib.hid h
  have HT := Lib.hid hT
  have HU := Lib.hid hU
  clear h hT hU
  go_enter Tryz.func77, Tryz.ntmps77
  go_wp2_with (fail)
  have hb0 : Below w.heap.size w (w.alloc (.cells #[.int .i64 0, .int .i64 0, .int .i64 0, .slice none 0 0] 24)) := (Below.refl _ _).alloc (Nat.le_refl _) _
  have hx0 := Blk.new w 24 #[.int .i64 0, .int .i64 0, .int .i64 0, .slice none 0 0]
  have hgw := HS.out.lt
  refine (yjoin_any 134 B g A n c T (pconj T f) (pconj_in T f) a kOr 3 (by decide) (fun a' w' h1 h2 h3 => yconj_of f HU.out B g A n c T a' w' h3 HT.out h2 (by omega)) (fun _ => rfl) _ (HS.out.below hb0) HT.out ha).mono ?_
  rintro e w1 ⟨hO1', hp⟩
  have hO1 := Lib.hid ((Only.of_below hb0).trans hO1')
  have hx1 := hx0.only hO1' (by omega)
  rw [show pjoined T kOr 3 (pconj T f) a = pcond T f a from rfl] at hp
  clear hO1' hb0 hx0
  cases hv : pcond T f a with
  | bad m =>
    rw [hv] at hp
    obtain ⟨rfl, hP⟩ := hp
    go_wp2
    exact ⟨rfl, cv_bad rfl hO1.out hP⟩
  | ok x m =>
    rw [hv] at hp
    obtain ⟨⟨_, rfl, A1, m1, cc1, rfl, hR1⟩, hP1⟩ := hp
    unfold condV
    dsimp only [vi]
    obtain ⟨x0, x1, x2, x3, f0, f1, f2, f3⟩ := hx1.four
    have hl1 := hx1.lt
    go_wp2_with (fail)
    first | (refine calls_named ?_; intro W hW) | (refine body_named ?_; intro W hW) | (refine wpList_named ?_; intro W hW) | (refine wp_named ?_; intro W hW)
    obtain ⟨hk, hO⟩ : Blk W w.heap.size 24 #[.int .i64 x.k, .int .i64 x.v, .int .i64 x.n, .slice A1 m1 cc1] ∧ Only (· = w.heap.size) w1 W := by rw [← hW]; exact hx1.set4
    clear hW x0 x1 x2 x3 f0 f1 f2 f3
    obtain ⟨y0, y1, y2, y3, _⟩ := hk.four
    refine bodyPost_ret (by simp [results, Tryz.results77, go_sem, y0, y1, y2, y3]; try rfl) rfl ?_
    exact cv_fin hv hO1.out hP1 hgw hO (hR1.sub fun k hk => by simp only [World.size_alloc]; omega)
/-- A row of texts that the call itself makes. -/
theorem rd_texts {w : World} {b : Nat} {t : TypeId} {ws : List (List UInt8)} (h : Blk w b t (ws.map fun s => (.string (bs s) : Value)).toArray) (hl : ws.length ≤ 100) : Rd w w.heap.size 1 (some ⟨b, 0, none⟩) ws.length ws.length (ws.map fun s => .string (bs s)) :=
  ⟨by simp, Nat.le_refl _, by omega, fun _ => ⟨b, 0, rfl, h.lt, fun j u hj => by rw [h.cell, Nat.zero_add]; simpa using hj⟩⟩
set_option maxHeartbeats 4000000 in
set_option maxRecDepth 100000 in
theorem yunit_walk (B g : Nat) (A : Option Addr) (n c : Nat) (T : List Tok) (a : Nat) (r q1 q2 : Res CT) (w : World) (h : PSt w B g A n c T a) (hT : TOk T) (ha : a ≤ 65537)
    (h1 : isB T a kNot = true → ∀ w', PSt w' B g A n c T (a + 1) → Calls Tryz.prog 171 #[.pointer (some ⟨g, 0, none⟩)] w' (PPost w' B g A n c T q1 (CV w')))
    (h2 : isB T a kLP = true → ∀ w', PSt w' B g A n c T (a + 1) → Calls Tryz.prog 77 #[.pointer (some ⟨g, 0, none⟩)] w' (PPost w' B g A n c T q2 (CV w')))
    (hq : isB T a kLP = true → q2.In T.length (a + 1))
    (hr : r = if isB T a kNot then q1.map cnot else if isB T a kLP then q2.bind fun c n => (pwant T [kRP] n).map fun _ => c else pcomp T a) :
    Calls Tryz.prog 171 #[.pointer (some ⟨g, 0, none⟩)] w (PPost w B g A n c T r (CV w)) := by
  have HS := Lib.hid h
  have HT := Lib.hid hT
  have hTl := hT.len
  have hgw := h.lt
  have hb0 : Below w.heap.size w (w.alloc (.cells #[.int .i64 0, .int .i64 0, .int .i64 0, .slice none 0 0] 24)) := (Below.refl _ _).alloc (Nat.le_refl _) _
  have hx0 := Blk.new w 24 #[.int .i64 0, .int .i64 0, .int .i64 0, .slice none 0 0]
  have HS0 := Lib.hid (h.below hb0)
  cases hB : isB T a kNot with
  | true =>
    have HR := Lib.hid (show r = q1.map cnot by rw [hr, if_pos hB])
    have H1 := Lib.hid (h1 hB)
    have HC := Lib.hid (yskip_yes B g A n c T a kNot _ HS0.out (by omega) (by decide) hB)
    clear h1 h2 hr h hT hq hB
    go_enter Tryz.func171, Tryz.ntmps171
    go_wp2_with (fail)
    refine HC.out.mono ?_
    rintro e w1 ⟨rfl, hP1, hO1'⟩
    have hO1 := Lib.hid ((Only.of_below hb0).trans hO1')
    have hx1 := hx0.only hO1' (by omega)
    clear hO1' hx0 hb0
    go_wp2_with (fail)
    refine (H1.out w1 hP1).mono ?_
    rintro e w2 ⟨hO2', hp⟩
    have hO2 := Lib.hid (hO1.out.trans hO2')
    have hx2 := hx1.only hO2' (by omega)
    have hz1 := hx1.lt
    clear hP1 hx1
    cases hv : q1 with
    | bad m =>
      rw [hv] at hp HR
      obtain ⟨rfl, hP⟩ := hp
      go_wp2
      exact ⟨rfl, cv_bad HR.out hO2.out hP⟩
    | ok x m =>
      rw [hv] at hp HR
      obtain ⟨⟨_, rfl, A1, m1, cc1, rfl, hR1⟩, hP2⟩ := hp
      have HR1 := Lib.hid hR1
      clear hR1 hO2' H1
      unfold condV
      dsimp only [vi]
      obtain ⟨x0, x1, x2, x3, f0, f1, f2, f3⟩ := hx2.four
      have hl2 := hx2.lt
      go_wp2_with (fail)
      first | (refine calls_named ?_; intro W hW) | (refine body_named ?_; intro W hW) | (refine wpList_named ?_; intro W hW) | (refine wp_named ?_; intro W hW)
      have hbb : Below w2.heap.size w2 (w2.alloc (.cells #[.int .i64 x.k, .int .i64 x.v, .int .i64 x.n, .slice A1 m1 cc1] 24)) := (Below.refl _ _).alloc (Nat.le_refl _) _
      have h4 := hx2.set4 (y0 := .int .i64 4) (y1 := .int .i64 0) (y2 := .int .i64 0) (y3 := .slice (some ⟨w2.heap.size, 0, none⟩) 1 1)
      have hsV : ((((w2.setCell ⟨w.heap.size, 0, none⟩ (.int .i64 4)).setCell ⟨w.heap.size, 1, none⟩ (.int .i64 0)).setCell ⟨w.heap.size, 2, none⟩ (.int .i64 0)).setCell ⟨w.heap.size, 3, none⟩ (.slice (some ⟨w2.heap.size, 0, none⟩) 1 1)).heap.size = w2.heap.size := by simp
      generalize ((((w2.setCell ⟨w.heap.size, 0, none⟩ (.int .i64 4)).setCell ⟨w.heap.size, 1, none⟩ (.int .i64 0)).setCell ⟨w.heap.size, 2, none⟩ (.int .i64 0)).setCell ⟨w.heap.size, 3, none⟩ (.slice (some ⟨w2.heap.size, 0, none⟩) 1 1)) = V at h4 hW hsV
      have hkB : Blk W w2.heap.size 24 #[.int .i64 x.k, .int .i64 x.v, .int .i64 x.n, .slice A1 m1 cc1] := by rw [← hW, ← hsV]; exact Blk.new _ _ _
      have hk : Blk W w.heap.size 24 #[.int .i64 4, .int .i64 0, .int .i64 0, .slice (some ⟨w2.heap.size, 0, none⟩) 1 1] := by rw [← hW]; exact h4.1.alloc _
      have hO : Only (· = w.heap.size) w2 W := by rw [← hW]; exact h4.2.trans (Only.of_below ((Below.refl _ _).alloc (Nat.le_refl _) _))
      clear hW h4 hsV x0 x1 x2 x3 f0 f1 f2 f3 hbb
      obtain ⟨y0, y1, y2, y3, _⟩ := hk.four
      refine bodyPost_ret (by simp [results, Tryz.results171, go_sem, y0, y1, y2, y3]; try rfl) rfl ?_
      unfold PPost
      rw [HR.out]
      have hR3 : RepH (fun k => k < w.heap.size) W x.ps A1 m1 cc1 := (HR1.out.only hO (fun k e => by rw [e]; exact hz1)).sub (fun k hk => Nat.lt_trans hk hz1)
      exact ⟨hO2.out.new hO (fun k e => by rw [e]; exact Nat.le_refl _), ⟨_, rfl, some ⟨w2.heap.size, 0, none⟩, 1, 1, rfl, RepH.blk (F := (cnot x).ps) hkB (xs := [vi x.k, vi x.v, vi x.n, .slice A1 m1 cc1]) (RepF.one hR3) (by omega) (by simp [cnot, CF.one, CF.len])⟩,
        hP2.only hO (by omega) (fun k e => by rw [e]; have := hP2.lb; omega)⟩
  | false =>
    have HC := Lib.hid (yskip_no B g A n c T a kNot _ HS0.out (by omega) (by decide) hB)
    cases hB2 : isB T a kLP with
    | true =>
      have HR := Lib.hid (show r = q2.bind fun c n => (pwant T [kRP] n).map fun _ => c by rw [hr, if_neg (by rw [hB]; decide), if_pos hB2])
      have H2 := Lib.hid (h2 hB2)
      have hin := hq hB2
      have HC2 := Lib.hid (fun w' hs => yskip_yes B g A n c T a kLP w' hs (by omega) (by decide) hB2)
      clear h1 h2 hr h hT hq hB hB2
      go_enter Tryz.func171, Tryz.ntmps171
      go_wp2_with (fail)
      refine HC.out.mono ?_
      rintro e w0 ⟨rfl, hb0'⟩
      have HS1 := Lib.hid (HS0.out.below hb0')
      have hx1 := hx0.below hb0' hx0.lt
      have hb1 := Lib.hid (hb0.trans (hb0'.mono hb0.size))
      clear hb0' hx0 hb0
      go_wp2_with (fail)
      refine (HC2.out w0 HS1.out).mono ?_
      rintro e w1 ⟨rfl, hP1, hO1'⟩
      have hO1 := Lib.hid ((Only.of_below hb1.out).trans hO1')
      have hx2 := hx1.only hO1' (by omega)
      have hz1 := hx2.lt
      clear hO1' hx1
      go_wp2_with (fail)
      refine (H2.out w1 hP1).mono ?_
      rintro e w2 ⟨hO2', hp⟩
      have hO2 := Lib.hid (hO1.out.trans hO2')
      have hx3 := hx2.only hO2' (by omega)
      clear hP1 hx2
      cases hv : q2 with
      | bad m =>
        rw [hv] at hp HR
        obtain ⟨rfl, hP⟩ := hp
        go_wp2
        exact ⟨rfl, cv_bad HR.out hO2.out hP⟩
      | ok x m =>
        rw [hv] at hp HR hin
        obtain ⟨⟨_, rfl, A1, m1, cc1, rfl, hR1⟩, hP2'⟩ := hp
        have HR1 := Lib.hid hR1
        have HP2 := Lib.hid hP2'
        have hm : m ≤ 65537 := Nat.le_trans hin.2 hTl
        clear hR1 hO2' H2 hP2' hin
        unfold condV
        dsimp only [vi]
        go_wp2_with (fail)
        first | (refine calls_named ?_; intro W3 hW3) | (refine body_named ?_; intro W3 hW3) | (refine wpList_named ?_; intro W3 hW3) | (refine wp_named ?_; intro W3 hW3)
        have hc3 : Blk W3 w2.heap.size 24 #[.int .i64 x.k, .int .i64 x.v, .int .i64 x.n, .slice A1 m1 cc1] := by rw [← hW3]; exact (Blk.new w2 _ _).alloc _
        have hk3 : Blk W3 (w2.heap.size + 1) 9 #[.string (bs kRP)] := by rw [← hW3, ← World.size_alloc]; exact Blk.new _ _ _
        have hb3 : Below w2.heap.size w2 W3 := by rw [← hW3]; exact ((Below.refl _ _).alloc (Nat.le_refl _) _).alloc (by simp) _
        have hx4 := hx3.below hb3 hx3.lt
        have hz3 := hb3.size
        clear hW3 hx3
        refine (ywant_any B g A n c T m (some ⟨w2.heap.size + 1, 0, none⟩) 1 1 W3.heap.size [kRP] W3 (HP2.out.below hb3) hm hTl (rd_texts (ws := [kRP]) hk3 (by decide)) (by decide) (Nat.le_refl _) (fun p hp => by injection hp with hp; rw [← hp]; show w2.heap.size + 1 ≠ g; have := HP2.out.lt; omega) (by omega)).mono ?_
        rintro e w4 ⟨hO4, hp4⟩
        have hx5 := hx4.only hO4 (by omega)
        have hc5 := hc3.only hO4 (by have := HP2.out.lt; omega)
        have hO5 := Lib.hid (hO2.out.trans ((Only.of_below hb3).trans hO4))
        have HR5 := Lib.hid ((HR1.out.only (S' := fun _ => False) (Only.of_below hb3) (fun _ h => h.elim)).only hO4 (fun k e => by rw [e]; omega))
        clear hx4 hc3 hk3 hb3 hO4 HR1
        cases hw : pwant T [kRP] m with
        | bad m2 =>
          rw [hw] at hp4
          obtain ⟨rfl, hP⟩ := hp4
          have HE := Lib.hid (show r = .bad m2 by rw [HR.out]; show (pwant T [kRP] m).map _ = _; rw [hw]; rfl)
          clear hw
          go_wp2
          exact ⟨rfl, cv_bad HE.out hO5.out hP⟩
        | ok u m2 =>
          rw [hw] at hp4
          obtain ⟨⟨_, rfl, rfl⟩, hP⟩ := hp4
          have HE := Lib.hid (show r = .ok x m2 by rw [HR.out]; show (pwant T [kRP] m).map _ = _; rw [hw]; rfl)
          clear hw
          obtain ⟨x0, x1, x2, x3, f0, f1, f2, f3⟩ := hx5.four
          obtain ⟨z0, z1, z2, z3, _⟩ := hc5.four
          have hl5 := hx5.lt
          go_wp2_with (fail)
          first | (refine calls_named ?_; intro W hW) | (refine body_named ?_; intro W hW) | (refine wpList_named ?_; intro W hW) | (refine wp_named ?_; intro W hW)
          obtain ⟨hk, hO⟩ : Blk W w.heap.size 24 #[.int .i64 x.k, .int .i64 x.v, .int .i64 x.n, .slice A1 m1 cc1] ∧ Only (· = w.heap.size) w4 W := by rw [← hW]; exact hx5.set4
          clear hW x0 x1 x2 x3 f0 f1 f2 f3
          obtain ⟨y0, y1, y2, y3, _⟩ := hk.four
          refine bodyPost_ret (by simp [results, Tryz.results171, go_sem, y0, y1, y2, y3]; try rfl) rfl ?_
          exact cv_fin HE.out hO5.out hP hgw hO (HR5.out.sub fun k hk => by omega)
    | false =>
      have HR := Lib.hid (show r = pcomp T a by rw [hr, if_neg (by rw [hB]; decide), if_neg (by rw [hB2]; decide)])
      have HC2 := Lib.hid (fun w' hs => yskip_no B g A n c T a kLP w' hs (by omega) (by decide) hB2)
      clear h1 h2 hr h hq hB hB2
      go_enter Tryz.func171, Tryz.ntmps171
      go_wp2_with (fail)
      refine HC.out.mono ?_
      rintro e w0 ⟨rfl, hb0'⟩
      have HS1 := Lib.hid (HS0.out.below hb0')
      have hx1 := hx0.below hb0' hx0.lt
      have hb1 := Lib.hid (hb0.trans (hb0'.mono hb0.size))
      clear hb0' hx0 hb0
      go_wp2_with (fail)
      refine (HC2.out w0 HS1.out).mono ?_
      rintro e w1 ⟨rfl, hb1'⟩
      have HS2 := Lib.hid (HS1.out.below hb1')
      have hx2 := hx1.below hb1' hx1.lt
      have hb2 := Lib.hid (hb1.out.trans (hb1'.mono hb1.out.size))
      clear hb1' hx1
      go_wp2_with (fail)
      refine (ycomp_any B g A n c T a w1 HS2.out HT.out ha).mono ?_
      rintro e w2 ⟨hO2', hp⟩
      have hO2 := Lib.hid ((Only.of_below hb2.out).trans hO2')
      have hx3 := hx2.only hO2' (by omega)
      have hz1 := hx2.lt
      clear hx2
      cases hv : pcomp T a with
      | bad m =>
        rw [hv] at hp HR
        obtain ⟨rfl, hP⟩ := hp
        clear hv
        go_wp2
        exact ⟨rfl, cv_bad HR.out hO2.out hP⟩
      | ok x m =>
        rw [hv] at hp HR
        obtain ⟨⟨_, rfl, A1, m1, cc1, rfl, hR1⟩, hP2⟩ := hp
        have HR1 := Lib.hid hR1
        clear hR1 hO2' hv
        unfold condV
        dsimp only [vi]
        obtain ⟨x0, x1, x2, x3, f0, f1, f2, f3⟩ := hx3.four
        have hl3 := hx3.lt
        go_wp2_with (fail)
        first | (refine calls_named ?_; intro W hW) | (refine body_named ?_; intro W hW) | (refine wpList_named ?_; intro W hW) | (refine wp_named ?_; intro W hW)
        obtain ⟨hk, hO⟩ : Blk W w.heap.size 24 #[.int .i64 x.k, .int .i64 x.v, .int .i64 x.n, .slice A1 m1 cc1] ∧ Only (· = w.heap.size) w2 W := by rw [← hW]; exact hx3.set4
        clear hW x0 x1 x2 x3 f0 f1 f2 f3
        obtain ⟨y0, y1, y2, y3, _⟩ := hk.four
        refine bodyPost_ret (by simp [results, Tryz.results171, go_sem, y0, y1, y2, y3]; try rfl) rfl ?_
        exact cv_fin HR.out hO2.out hP2 hgw hO (HR1.out.sub fun k hk => by omega)
theorem pchoose_out {T : List Tok} {ws : List (List UInt8 × Int)} {a : Nat} (h : T.length ≤ a) (hw : lkup [] ws = none) : pchoose T ws a = .bad a := pchoose_none (by rw [nx_out T h]; exact hw)
theorem uc_all : ∀ f, UC f
  | 0 => fun B g A n c T a w h hT ha hf => by
    have e1 : ∀ s, isB T a s = false := fun s => by
      cases hq : isB T a s
      · rfl
      · have := isB_lt T hq; omega
    refine yunit_walk B g A n c T a _ (.bad 0) (.bad 0) w h hT ha (fun e => ?_) (fun e => ?_) (fun e => ?_) ?_
    · rw [e1] at e; cases e
    · rw [e1] at e; cases e
    · rw [e1] at e; cases e
    · rw [e1, e1, if_neg (by decide), if_neg (by decide)]
      unfold pcomp
      rw [pchoose_out (by omega) rfl]
      rfl
  | f + 1 => fun B g A n c T a w h hT ha hf =>
    yunit_walk B g A n c T a _ (punit T f (a + 1)) (pcond T f (a + 1)) w h hT ha
      (fun e w' h' => uc_all f B g A n c T (a + 1) w' h' hT (by have := isB_lt T e; have := hT.len; omega) (by omega))
      (fun e w' h' => ycond_of f (uc_all f) B g A n c T (a + 1) w' h' hT (by have := isB_lt T e; have := hT.len; omega) (by omega))
      (fun _ => pcond_in T f (a + 1)) rfl
/-- The parser's cond. -/
theorem ycond_any (B g : Nat) (A : Option Addr) (n c : Nat) (T : List Tok) (a : Nat) (w : World) (h : PSt w B g A n c T a) (hT : TOk T) (ha : a ≤ 65537) :
    Calls Tryz.prog 77 #[.pointer (some ⟨g, 0, none⟩)] w (PPost w B g A n c T (pcond T T.length a) (CV w)) :=
  ycond_of T.length (uc_all _) B g A n c T a w h hT ha (by omega)
end Go.Proofs.YticpjdjdimpglaaGreatDoor
