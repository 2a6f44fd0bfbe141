/- The parser's rules by their contract (printed by wip/bin/genrules.py). -/
import Derived.Test.YticpjdjdimpglaaGreatDoorCFpaMYSteps
namespace Go.Proofs.YticpjdjdimpglaaGreatDoor
set_option linter.unusedVariables false
set_option linter.unusedSimpArgs false
open Go.RowKit
/-- What rules hand back: rows of their own. -/
def RV (w : World) (r : RT) (w' : World) (v : Value) : Prop := ∃ A m c A' m' c', v = .agg #[.string (bs r.name), .int .i64 r.win, .int .i64 r.draw, .int .i64 r.loss, .slice A m c, .slice A' m' c'] ∧
  RepT (fun k => k < w.heap.size) w' r.order A m c ∧ RepZ (fun k => k < w.heap.size) w' r.zones A' m' c'
/-- The result's box that is being filled. -/
structure LSt (w0 wr : World) (B g : Nat) (A : Option Addr) (n c : Nat) (T : List Tok) (b : Nat) (cs : Array Value) : Prop where
  st : PSt wr B g A n c T b
  only : Only (· = g) w0 wr
  glt : g < w0.heap.size
  box : Blk wr w0.heap.size 28 cs
section
variable {w0 wr W : World} {B g n c b b' : Nat} {A : Option Addr} {T : List Tok} {cs : Array Value}
theorem LSt.go (h : LSt w0 wr B g A n c T b cs) (hp : PSt W B g A n c T b') (ho : Only (· = g) wr W) : LSt w0 W B g A n c T b' cs :=
  ⟨hp, h.only.trans ho, h.glt, h.box.only ho (by have := h.glt; omega)⟩
theorem LSt.below (h : LSt w0 wr B g A n c T b cs) (hb : Below wr.heap.size wr W) : LSt w0 W B g A n c T b cs := h.go (h.st.below hb) (Only.of_below hb)
theorem LSt.boxed (w0 : World) (i : Nat) (v : Value) : Only (· = w0.heap.size) wr (wr.setCell ⟨w0.heap.size, i, none⟩ v) := Only.set (S := (· = w0.heap.size)) wr (p := ⟨w0.heap.size, i, none⟩) rfl _
theorem LSt.set (h : LSt w0 wr B g A n c T b cs) (i : Nat) (v : Value) : LSt w0 (wr.setCell ⟨w0.heap.size, i, none⟩ v) B g A n c T b (cs.setIfInBounds i v) :=
  ⟨h.st.only (LSt.boxed w0 i v) (by have := h.glt; omega) (fun k hk => by have := h.glt; have := h.st.lb; omega), h.only.new (LSt.boxed w0 i v) (fun k hk => by omega), h.glt, h.box.set i v⟩
end
set_option maxHeartbeats 8000000 in
set_option maxRecDepth 100000 in
theorem yrules_any (B g : Nat) (A : Option Addr) (n c : Nat) (T : List Tok) (a : Nat) (w : World) (h : PSt w B g A n c T a) (hT : TOk T) (ha : a ≤ 65537) :
    Calls Tryz.prog 80 #[.pointer (some ⟨g, 0, none⟩)] w (PPost w B g A n c T (prules T a) (RV w)) := by
  have HS := Lib.hid h
  have HT := Lib.hid hT
  have hTl := hT.len
  have hgw := h.lt
  have hb0 : Below w.heap.size w (w.alloc (.cells #[.string ⟨#[]⟩, .int .i64 0, .int .i64 0, .int .i64 0, .slice none 0 0, .slice none 0 0] 28)) := (Below.refl _ _).alloc (Nat.le_refl _) _
  have HL0 := Lib.hid (show LSt w _ B g A n c T a _ from ⟨h.below hb0, Only.of_below hb0, hgw, Blk.new w 28 #[.string ⟨#[]⟩, .int .i64 0, .int .i64 0, .int .i64 0, .slice none 0 0, .slice none 0 0]⟩)
  clear h hT hb0
  go_enter Tryz.func80, Tryz.ntmps80
  go_wp2_with (fail)
  first | (refine calls_named ?_; intro W0 hW0) | (refine body_named ?_; intro W0 hW0) | (refine wpList_named ?_; intro W0 hW0) | (refine wp_named ?_; intro W0 hW0)
  have hk0 : Blk W0 (w.heap.size + 1) 9 #[.string (bs kRules)] := by have := Blk.new (w.alloc (.cells #[.string ⟨#[]⟩, .int .i64 0, .int .i64 0, .int .i64 0, .slice none 0 0, .slice none 0 0] 28)) 9 #[.string (bs kRules)]; rw [World.size_alloc] at this; rw [← hW0]; exact this
  have HM0 := Lib.hid (show LSt w W0 B g A n c T a _ by rw [← hW0]; exact HL0.out.below ((Below.refl _ _).alloc (Nat.le_refl _) _))
  clear hW0
  generalize hsb0 : w.heap.size + 1 = sb0 at hk0 ⊢
  refine (ywant_any B g A n c T a (some ⟨sb0, 0, none⟩) 1 1 W0.heap.size [kRules] W0 HM0.out.st ha hTl (rd_texts (ws := [kRules]) hk0 (by decide)) (by decide) (Nat.le_refl _) (fun p hp => by injection hp with hp; rw [← hp]; show sb0 ≠ g; have := HM0.out.glt; omega) (by omega)).mono ?_
  rintro e w0 ⟨hO0, hp⟩
  have hin := pwant_in T (s := kRules) (r := []) (a := a)
  cases hv : pwant T [kRules] a with
  | bad m0 =>
    rw [hv] at hp
    obtain ⟨rfl, hP⟩ := hp
    have HE := Lib.hid (show prules T a = .bad m0 by unfold prules; rw [hv]; rfl)
    clear hv hin
    go_wp2
    refine ⟨rfl, ?_⟩
    unfold PPost
    rw [HE.out]
    exact ⟨HM0.out.only.trans hO0, rfl, hP⟩
  | ok u m0 =>
    rw [hv] at hp hin
    obtain ⟨⟨_, rfl, rfl⟩, hP⟩ := hp
    have hm0 : m0 ≤ 65537 := Nat.le_trans hin.2 hTl
    have HD1 := Lib.hid (show prules T a = (pname T m0).bind fun sn n => (pwant T [kLB, kWin] n).bind fun _ n => (pint T n).bind fun i1 n => (pwant T [kDraw] n).bind fun _ n => (pint T n).bind fun i2 n => (pwant T [kLoss] n).bind fun _ n => (pint T n).bind fun i3 n => (pwant T [kSemi, kOrder, kLB] n).bind fun _ n => (psteps T T.length n).bind fun fo n => (pwant T [kZones, kLB] n).bind fun _ n => (pzones T T.length n).bind fun zs n => (pwant T [kRB] n).map fun _ => (⟨sn, i1, i2, i3, fo, zs⟩ : RT) by unfold prules; rw [hv]; rfl)
    have HL0 := Lib.hid (HM0.out.go hP hO0)
    clear hv hO0 hP hin
    go_wp2_with (fail)
    refine (yname_any B g A n c T m0 w0 HL0.out.st HT.out hm0).mono ?_
    rintro e w1 ⟨hO1, hp⟩
    have hin := pname_in T m0
    cases hv : pname T m0 with
    | bad m1 =>
      rw [hv] at hp
      obtain ⟨rfl, hP⟩ := hp
      have HE := Lib.hid (show prules T a = .bad m1 by rw [HD1.out]; rw [hv]; rfl)
      clear hv hin
      go_wp2
      refine ⟨rfl, ?_⟩
      unfold PPost
      rw [HE.out]
      exact ⟨HL0.out.only.trans hO1, rfl, hP⟩
    | ok sn m1 =>
      rw [hv] at hp hin
      obtain ⟨⟨_, rfl, rfl⟩, hP⟩ := hp
      have hm1 : m1 ≤ 65537 := Nat.le_trans hin.2 hTl
      have HD2 := Lib.hid (show prules T a = (pwant T [kLB, kWin] m1).bind fun _ n => (pint T n).bind fun i1 n => (pwant T [kDraw] n).bind fun _ n => (pint T n).bind fun i2 n => (pwant T [kLoss] n).bind fun _ n => (pint T n).bind fun i3 n => (pwant T [kSemi, kOrder, kLB] n).bind fun _ n => (psteps T T.length n).bind fun fo n => (pwant T [kZones, kLB] n).bind fun _ n => (pzones T T.length n).bind fun zs n => (pwant T [kRB] n).map fun _ => (⟨sn, i1, i2, i3, fo, zs⟩ : RT) by rw [HD1.out]; rw [hv]; rfl)
      have HL1 := Lib.hid (HL0.out.go hP hO1)
      clear hv hO1 hP hin
      have x1 : w1.cell? ⟨w.heap.size, 0, none⟩ = some (.string ⟨#[]⟩) := by rw [HL1.out.box.cell]; rfl
      have f1 := HL1.out.box.frozen 0
      have l1 := HL1.out.box.lt
      go_wp2_with (fail)
      first | (refine calls_named ?_; intro W2 hW2) | (refine body_named ?_; intro W2 hW2) | (refine wpList_named ?_; intro W2 hW2) | (refine wp_named ?_; intro W2 hW2)
      have hk2 : Blk W2 w1.heap.size 9 #[.string (bs kLB), .string (bs kWin)] := by have := Blk.new (w1.setCell ⟨w.heap.size, 0, none⟩ (.string (bs sn))) 9 #[.string (bs kLB), .string (bs kWin)]; rw [World.size_setCell] at this; rw [← hW2]; exact this
      have HM2 := Lib.hid (show LSt w W2 B g A n c T m1 #[.string (bs sn), .int .i64 0, .int .i64 0, .int .i64 0, .slice none 0 0, .slice none 0 0] by rw [← hW2]; exact (HL1.out.set 0 (.string (bs sn))).below ((Below.refl _ _).alloc (Nat.le_refl _) _))
      have hgs2 : g < w1.heap.size := HL1.out.st.lt
      clear hW2
      generalize w1.heap.size = sb2 at hk2 hgs2 ⊢
      refine (ywant_any B g A n c T m1 (some ⟨sb2, 0, none⟩) 2 2 W2.heap.size [kLB, kWin] W2 HM2.out.st hm1 hTl (rd_texts (ws := [kLB, kWin]) hk2 (by decide)) (by decide) (Nat.le_refl _) (fun p hp => by injection hp with hp; rw [← hp]; show sb2 ≠ g; omega) (by omega)).mono ?_
      rintro e w2 ⟨hO2, hp⟩
      have hin := pwant_in T (s := kLB) (r := [kWin]) (a := m1)
      cases hv : pwant T [kLB, kWin] m1 with
      | bad m2 =>
        rw [hv] at hp
        obtain ⟨rfl, hP⟩ := hp
        have HE := Lib.hid (show prules T a = .bad m2 by rw [HD2.out]; rw [hv]; rfl)
        clear hv hin
        go_wp2
        refine ⟨rfl, ?_⟩
        unfold PPost
        rw [HE.out]
        exact ⟨HM2.out.only.trans hO2, rfl, hP⟩
      | ok u m2 =>
        rw [hv] at hp hin
        obtain ⟨⟨_, rfl, rfl⟩, hP⟩ := hp
        have hm2 : m2 ≤ 65537 := Nat.le_trans hin.2 hTl
        have HD3 := Lib.hid (show prules T a = (pint T m2).bind fun i1 n => (pwant T [kDraw] n).bind fun _ n => (pint T n).bind fun i2 n => (pwant T [kLoss] n).bind fun _ n => (pint T n).bind fun i3 n => (pwant T [kSemi, kOrder, kLB] n).bind fun _ n => (psteps T T.length n).bind fun fo n => (pwant T [kZones, kLB] n).bind fun _ n => (pzones T T.length n).bind fun zs n => (pwant T [kRB] n).map fun _ => (⟨sn, i1, i2, i3, fo, zs⟩ : RT) by rw [HD2.out]; rw [hv]; rfl)
        have HL2 := Lib.hid (HM2.out.go hP hO2)
        clear hv hO2 hP hin
        go_wp2_with (fail)
        refine (yint_any B g A n c T m2 w2 HL2.out.st HT.out hm2).mono ?_
        rintro e w3 ⟨hO3, hp⟩
        have hin := pint_in T m2
        cases hv : pint T m2 with
        | bad m3 =>
          rw [hv] at hp
          obtain ⟨rfl, hP⟩ := hp
          have HE := Lib.hid (show prules T a = .bad m3 by rw [HD3.out]; rw [hv]; rfl)
          clear hv hin
          go_wp2
          refine ⟨rfl, ?_⟩
          unfold PPost
          rw [HE.out]
          exact ⟨HL2.out.only.trans hO3, rfl, hP⟩
        | ok i1 m3 =>
          rw [hv] at hp hin
          obtain ⟨⟨_, rfl, rfl, _, _⟩, hP⟩ := hp
          have hm3 : m3 ≤ 65537 := Nat.le_trans hin.2 hTl
          have HD4 := Lib.hid (show prules T a = (pwant T [kDraw] m3).bind fun _ n => (pint T n).bind fun i2 n => (pwant T [kLoss] n).bind fun _ n => (pint T n).bind fun i3 n => (pwant T [kSemi, kOrder, kLB] n).bind fun _ n => (psteps T T.length n).bind fun fo n => (pwant T [kZones, kLB] n).bind fun _ n => (pzones T T.length n).bind fun zs n => (pwant T [kRB] n).map fun _ => (⟨sn, i1, i2, i3, fo, zs⟩ : RT) by rw [HD3.out]; rw [hv]; rfl)
          have HL3 := Lib.hid (HL2.out.go hP hO3)
          clear hv hO3 hP hin
          have x3 : w3.cell? ⟨w.heap.size, 1, none⟩ = some (.int .i64 0) := by rw [HL3.out.box.cell]; rfl
          have f3 := HL3.out.box.frozen 1
          have l3 := HL3.out.box.lt
          go_wp2_with (fail)
          first | (refine calls_named ?_; intro W4 hW4) | (refine body_named ?_; intro W4 hW4) | (refine wpList_named ?_; intro W4 hW4) | (refine wp_named ?_; intro W4 hW4)
          have hk4 : Blk W4 w3.heap.size 9 #[.string (bs kDraw)] := by have := Blk.new (w3.setCell ⟨w.heap.size, 1, none⟩ (.int .i64 i1)) 9 #[.string (bs kDraw)]; rw [World.size_setCell] at this; rw [← hW4]; exact this
          have HM4 := Lib.hid (show LSt w W4 B g A n c T m3 #[.string (bs sn), .int .i64 i1, .int .i64 0, .int .i64 0, .slice none 0 0, .slice none 0 0] by rw [← hW4]; exact (HL3.out.set 1 (.int .i64 i1)).below ((Below.refl _ _).alloc (Nat.le_refl _) _))
          have hgs4 : g < w3.heap.size := HL3.out.st.lt
          clear hW4
          generalize w3.heap.size = sb4 at hk4 hgs4 ⊢
          refine (ywant_any B g A n c T m3 (some ⟨sb4, 0, none⟩) 1 1 W4.heap.size [kDraw] W4 HM4.out.st hm3 hTl (rd_texts (ws := [kDraw]) hk4 (by decide)) (by decide) (Nat.le_refl _) (fun p hp => by injection hp with hp; rw [← hp]; show sb4 ≠ g; omega) (by omega)).mono ?_
          rintro e w4 ⟨hO4, hp⟩
          have hin := pwant_in T (s := kDraw) (r := []) (a := m3)
          cases hv : pwant T [kDraw] m3 with
          | bad m4 =>
            rw [hv] at hp
            obtain ⟨rfl, hP⟩ := hp
            have HE := Lib.hid (show prules T a = .bad m4 by rw [HD4.out]; rw [hv]; rfl)
            clear hv hin
            go_wp2
            refine ⟨rfl, ?_⟩
            unfold PPost
            rw [HE.out]
            exact ⟨HM4.out.only.trans hO4, rfl, hP⟩
          | ok u m4 =>
            rw [hv] at hp hin
            obtain ⟨⟨_, rfl, rfl⟩, hP⟩ := hp
            have hm4 : m4 ≤ 65537 := Nat.le_trans hin.2 hTl
            have HD5 := Lib.hid (show prules T a = (pint T m4).bind fun i2 n => (pwant T [kLoss] n).bind fun _ n => (pint T n).bind fun i3 n => (pwant T [kSemi, kOrder, kLB] n).bind fun _ n => (psteps T T.length n).bind fun fo n => (pwant T [kZones, kLB] n).bind fun _ n => (pzones T T.length n).bind fun zs n => (pwant T [kRB] n).map fun _ => (⟨sn, i1, i2, i3, fo, zs⟩ : RT) by rw [HD4.out]; rw [hv]; rfl)
            have HL4 := Lib.hid (HM4.out.go hP hO4)
            clear hv hO4 hP hin
            go_wp2_with (fail)
            refine (yint_any B g A n c T m4 w4 HL4.out.st HT.out hm4).mono ?_
            rintro e w5 ⟨hO5, hp⟩
            have hin := pint_in T m4
            cases hv : pint T m4 with
            | bad m5 =>
              rw [hv] at hp
              obtain ⟨rfl, hP⟩ := hp
              have HE := Lib.hid (show prules T a = .bad m5 by rw [HD5.out]; rw [hv]; rfl)
              clear hv hin
              go_wp2
              refine ⟨rfl, ?_⟩
              unfold PPost
              rw [HE.out]
              exact ⟨HL4.out.only.trans hO5, rfl, hP⟩
            | ok i2 m5 =>
              rw [hv] at hp hin
              obtain ⟨⟨_, rfl, rfl, _, _⟩, hP⟩ := hp
              have hm5 : m5 ≤ 65537 := Nat.le_trans hin.2 hTl
              have HD6 := Lib.hid (show prules T a = (pwant T [kLoss] m5).bind fun _ n => (pint T n).bind fun i3 n => (pwant T [kSemi, kOrder, kLB] n).bind fun _ n => (psteps T T.length n).bind fun fo n => (pwant T [kZones, kLB] n).bind fun _ n => (pzones T T.length n).bind fun zs n => (pwant T [kRB] n).map fun _ => (⟨sn, i1, i2, i3, fo, zs⟩ : RT) by rw [HD5.out]; rw [hv]; rfl)
              have HL5 := Lib.hid (HL4.out.go hP hO5)
              clear hv hO5 hP hin
              have x5 : w5.cell? ⟨w.heap.size, 2, none⟩ = some (.int .i64 0) := by rw [HL5.out.box.cell]; rfl
              have f5 := HL5.out.box.frozen 2
              have l5 := HL5.out.box.lt
              go_wp2_with (fail)
              first | (refine calls_named ?_; intro W6 hW6) | (refine body_named ?_; intro W6 hW6) | (refine wpList_named ?_; intro W6 hW6) | (refine wp_named ?_; intro W6 hW6)
              have hk6 : Blk W6 w5.heap.size 9 #[.string (bs kLoss)] := by have := Blk.new (w5.setCell ⟨w.heap.size, 2, none⟩ (.int .i64 i2)) 9 #[.string (bs kLoss)]; rw [World.size_setCell] at this; rw [← hW6]; exact this
              have HM6 := Lib.hid (show LSt w W6 B g A n c T m5 #[.string (bs sn), .int .i64 i1, .int .i64 i2, .int .i64 0, .slice none 0 0, .slice none 0 0] by rw [← hW6]; exact (HL5.out.set 2 (.int .i64 i2)).below ((Below.refl _ _).alloc (Nat.le_refl _) _))
              have hgs6 : g < w5.heap.size := HL5.out.st.lt
              clear hW6
              generalize w5.heap.size = sb6 at hk6 hgs6 ⊢
              refine (ywant_any B g A n c T m5 (some ⟨sb6, 0, none⟩) 1 1 W6.heap.size [kLoss] W6 HM6.out.st hm5 hTl (rd_texts (ws := [kLoss]) hk6 (by decide)) (by decide) (Nat.le_refl _) (fun p hp => by injection hp with hp; rw [← hp]; show sb6 ≠ g; omega) (by omega)).mono ?_
              rintro e w6 ⟨hO6, hp⟩
              have hin := pwant_in T (s := kLoss) (r := []) (a := m5)
              cases hv : pwant T [kLoss] m5 with
              | bad m6 =>
                rw [hv] at hp
                obtain ⟨rfl, hP⟩ := hp
                have HE := Lib.hid (show prules T a = .bad m6 by rw [HD6.out]; rw [hv]; rfl)
                clear hv hin
                go_wp2
                refine ⟨rfl, ?_⟩
                unfold PPost
                rw [HE.out]
                exact ⟨HM6.out.only.trans hO6, rfl, hP⟩
              | ok u m6 =>
                rw [hv] at hp hin
                obtain ⟨⟨_, rfl, rfl⟩, hP⟩ := hp
                have hm6 : m6 ≤ 65537 := Nat.le_trans hin.2 hTl
                have HD7 := Lib.hid (show prules T a = (pint T m6).bind fun i3 n => (pwant T [kSemi, kOrder, kLB] n).bind fun _ n => (psteps T T.length n).bind fun fo n => (pwant T [kZones, kLB] n).bind fun _ n => (pzones T T.length n).bind fun zs n => (pwant T [kRB] n).map fun _ => (⟨sn, i1, i2, i3, fo, zs⟩ : RT) by rw [HD6.out]; rw [hv]; rfl)
                have HL6 := Lib.hid (HM6.out.go hP hO6)
                clear hv hO6 hP hin
                go_wp2_with (fail)
                refine (yint_any B g A n c T m6 w6 HL6.out.st HT.out hm6).mono ?_
                rintro e w7 ⟨hO7, hp⟩
                have hin := pint_in T m6
                cases hv : pint T m6 with
                | bad m7 =>
                  rw [hv] at hp
                  obtain ⟨rfl, hP⟩ := hp
                  have HE := Lib.hid (show prules T a = .bad m7 by rw [HD7.out]; rw [hv]; rfl)
                  clear hv hin
                  go_wp2
                  refine ⟨rfl, ?_⟩
                  unfold PPost
                  rw [HE.out]
                  exact ⟨HL6.out.only.trans hO7, rfl, hP⟩
                | ok i3 m7 =>
                  rw [hv] at hp hin
                  obtain ⟨⟨_, rfl, rfl, _, _⟩, hP⟩ := hp
                  have hm7 : m7 ≤ 65537 := Nat.le_trans hin.2 hTl
                  have HD8 := Lib.hid (show prules T a = (pwant T [kSemi, kOrder, kLB] m7).bind fun _ n => (psteps T T.length n).bind fun fo n => (pwant T [kZones, kLB] n).bind fun _ n => (pzones T T.length n).bind fun zs n => (pwant T [kRB] n).map fun _ => (⟨sn, i1, i2, i3, fo, zs⟩ : RT) by rw [HD7.out]; rw [hv]; rfl)
                  have HL7 := Lib.hid (HL6.out.go hP hO7)
                  clear hv hO7 hP hin
                  have x7 : w7.cell? ⟨w.heap.size, 3, none⟩ = some (.int .i64 0) := by rw [HL7.out.box.cell]; rfl
                  have f7 := HL7.out.box.frozen 3
                  have l7 := HL7.out.box.lt
                  go_wp2_with (fail)
                  first | (refine calls_named ?_; intro W8 hW8) | (refine body_named ?_; intro W8 hW8) | (refine wpList_named ?_; intro W8 hW8) | (refine wp_named ?_; intro W8 hW8)
                  have hk8 : Blk W8 w7.heap.size 9 #[.string (bs kSemi), .string (bs kOrder), .string (bs kLB)] := by have := Blk.new (w7.setCell ⟨w.heap.size, 3, none⟩ (.int .i64 i3)) 9 #[.string (bs kSemi), .string (bs kOrder), .string (bs kLB)]; rw [World.size_setCell] at this; rw [← hW8]; exact this
                  have HM8 := Lib.hid (show LSt w W8 B g A n c T m7 #[.string (bs sn), .int .i64 i1, .int .i64 i2, .int .i64 i3, .slice none 0 0, .slice none 0 0] by rw [← hW8]; exact (HL7.out.set 3 (.int .i64 i3)).below ((Below.refl _ _).alloc (Nat.le_refl _) _))
                  have hgs8 : g < w7.heap.size := HL7.out.st.lt
                  clear hW8
                  generalize w7.heap.size = sb8 at hk8 hgs8 ⊢
                  refine (ywant_any B g A n c T m7 (some ⟨sb8, 0, none⟩) 3 3 W8.heap.size [kSemi, kOrder, kLB] W8 HM8.out.st hm7 hTl (rd_texts (ws := [kSemi, kOrder, kLB]) hk8 (by decide)) (by decide) (Nat.le_refl _) (fun p hp => by injection hp with hp; rw [← hp]; show sb8 ≠ g; omega) (by omega)).mono ?_
                  rintro e w8 ⟨hO8, hp⟩
                  have hin := pwant_in T (s := kSemi) (r := [kOrder, kLB]) (a := m7)
                  cases hv : pwant T [kSemi, kOrder, kLB] m7 with
                  | bad m8 =>
                    rw [hv] at hp
                    obtain ⟨rfl, hP⟩ := hp
                    have HE := Lib.hid (show prules T a = .bad m8 by rw [HD8.out]; rw [hv]; rfl)
                    clear hv hin
                    go_wp2
                    refine ⟨rfl, ?_⟩
                    unfold PPost
                    rw [HE.out]
                    exact ⟨HM8.out.only.trans hO8, rfl, hP⟩
                  | ok u m8 =>
                    rw [hv] at hp hin
                    obtain ⟨⟨_, rfl, rfl⟩, hP⟩ := hp
                    have hm8 : m8 ≤ 65537 := Nat.le_trans hin.2 hTl
                    have HD9 := Lib.hid (show prules T a = (psteps T T.length m8).bind fun fo n => (pwant T [kZones, kLB] n).bind fun _ n => (pzones T T.length n).bind fun zs n => (pwant T [kRB] n).map fun _ => (⟨sn, i1, i2, i3, fo, zs⟩ : RT) by rw [HD8.out]; rw [hv]; rfl)
                    have HL8 := Lib.hid (HM8.out.go hP hO8)
                    clear hv hO8 hP hin
                    go_wp2_with (fail)
                    refine (ysteps_any B g A n c T m8 w8 HL8.out.st HT.out hm8).mono ?_
                    rintro e w9 ⟨hO9, hp⟩
                    have hin := psteps_in T T.length m8
                    cases hv : psteps T T.length m8 with
                    | bad m9 =>
                      rw [hv] at hp
                      obtain ⟨rfl, hP⟩ := hp
                      have HE := Lib.hid (show prules T a = .bad m9 by rw [HD9.out]; rw [hv]; rfl)
                      clear hv hin
                      go_wp2
                      refine ⟨rfl, ?_⟩
                      unfold PPost
                      rw [HE.out]
                      exact ⟨HL8.out.only.trans hO9, rfl, hP⟩
                    | ok fo m9 =>
                      rw [hv] at hp hin
                      obtain ⟨⟨_, rfl, A9, n9, c9, rfl, hR⟩, hP⟩ := hp
                      have hm9 : m9 ≤ 65537 := Nat.le_trans hin.2 hTl
                      have HD10 := Lib.hid (show prules T a = (pwant T [kZones, kLB] m9).bind fun _ n => (pzones T T.length n).bind fun zs n => (pwant T [kRB] n).map fun _ => (⟨sn, i1, i2, i3, fo, zs⟩ : RT) by rw [HD9.out]; rw [hv]; rfl)
                      have HL9 := Lib.hid (HL8.out.go hP hO9)
                      have HR9 := Lib.hid (hR.sub (S' := fun k => k ≤ w.heap.size) (fun k hk => Nat.lt_of_le_of_lt hk HL8.out.box.lt))
                      clear hR
                      clear hv hO9 hP hin
                      have x9 : w9.cell? ⟨w.heap.size, 4, none⟩ = some (.slice none 0 0) := by rw [HL9.out.box.cell]; rfl
                      have f9 := HL9.out.box.frozen 4
                      have l9 := HL9.out.box.lt
                      go_wp2_with (fail)
                      first | (refine calls_named ?_; intro W10 hW10) | (refine body_named ?_; intro W10 hW10) | (refine wpList_named ?_; intro W10 hW10) | (refine wp_named ?_; intro W10 hW10)
                      have hk10 : Blk W10 w9.heap.size 9 #[.string (bs kZones), .string (bs kLB)] := by have := Blk.new (w9.setCell ⟨w.heap.size, 4, none⟩ (.slice A9 n9 c9)) 9 #[.string (bs kZones), .string (bs kLB)]; rw [World.size_setCell] at this; rw [← hW10]; exact this
                      have HM10 := Lib.hid (show LSt w W10 B g A n c T m9 #[.string (bs sn), .int .i64 i1, .int .i64 i2, .int .i64 i3, .slice A9 n9 c9, .slice none 0 0] by rw [← hW10]; exact (HL9.out.set 4 (.slice A9 n9 c9)).below ((Below.refl _ _).alloc (Nat.le_refl _) _))
                      have HR9' := Lib.hid (show _ by exact (HR9.out.only (LSt.boxed w 4 (.slice A9 n9 c9)) (fun k hk => by omega)).only (S' := fun _ => False) (w' := W10) (by rw [← hW10]; exact Only.of_below ((Below.refl _ _).alloc (Nat.le_refl _) _)) (fun _ h => h.elim))
                      have hgs10 : g < w9.heap.size := HL9.out.st.lt
                      clear hW10
                      generalize w9.heap.size = sb10 at hk10 hgs10 ⊢
                      refine (ywant_any B g A n c T m9 (some ⟨sb10, 0, none⟩) 2 2 W10.heap.size [kZones, kLB] W10 HM10.out.st hm9 hTl (rd_texts (ws := [kZones, kLB]) hk10 (by decide)) (by decide) (Nat.le_refl _) (fun p hp => by injection hp with hp; rw [← hp]; show sb10 ≠ g; omega) (by omega)).mono ?_
                      rintro e w10 ⟨hO10, hp⟩
                      have hin := pwant_in T (s := kZones) (r := [kLB]) (a := m9)
                      cases hv : pwant T [kZones, kLB] m9 with
                      | bad m10 =>
                        rw [hv] at hp
                        obtain ⟨rfl, hP⟩ := hp
                        have HE := Lib.hid (show prules T a = .bad m10 by rw [HD10.out]; rw [hv]; rfl)
                        clear hv hin
                        go_wp2
                        refine ⟨rfl, ?_⟩
                        unfold PPost
                        rw [HE.out]
                        exact ⟨HM10.out.only.trans hO10, rfl, hP⟩
                      | ok u m10 =>
                        rw [hv] at hp hin
                        obtain ⟨⟨_, rfl, rfl⟩, hP⟩ := hp
                        have hm10 : m10 ≤ 65537 := Nat.le_trans hin.2 hTl
                        have HD11 := Lib.hid (show prules T a = (pzones T T.length m10).bind fun zs n => (pwant T [kRB] n).map fun _ => (⟨sn, i1, i2, i3, fo, zs⟩ : RT) by rw [HD10.out]; rw [hv]; rfl)
                        have HL10 := Lib.hid (HM10.out.go hP hO10)
                        have HR9's := Lib.hid (HR9'.out.only hO10 (fun k hk => by omega))
                        clear hv hO10 hP hin
                        go_wp2_with (fail)
                        refine (yzones_any B g A n c T m10 w10 HL10.out.st HT.out hm10).mono ?_
                        rintro e w11 ⟨hO11, hp⟩
                        have hin := pzones_in T T.length m10
                        cases hv : pzones T T.length m10 with
                        | bad m11 =>
                          rw [hv] at hp
                          obtain ⟨rfl, hP⟩ := hp
                          have HE := Lib.hid (show prules T a = .bad m11 by rw [HD11.out]; rw [hv]; rfl)
                          clear hv hin
                          go_wp2
                          refine ⟨rfl, ?_⟩
                          unfold PPost
                          rw [HE.out]
                          exact ⟨HL10.out.only.trans hO11, rfl, hP⟩
                        | ok zs m11 =>
                          rw [hv] at hp hin
                          obtain ⟨⟨_, rfl, A11, n11, c11, rfl, hR⟩, hP⟩ := hp
                          have hm11 : m11 ≤ 65537 := Nat.le_trans hin.2 hTl
                          have HD12 := Lib.hid (show prules T a = (pwant T [kRB] m11).map fun _ => (⟨sn, i1, i2, i3, fo, zs⟩ : RT) by rw [HD11.out]; rw [hv]; rfl)
                          have HL11 := Lib.hid (HL10.out.go hP hO11)
                          have HR9'ss := Lib.hid (HR9's.out.only hO11 (fun k hk => by omega))
                          have HR11 := Lib.hid (hR.sub (S' := fun k => k ≤ w.heap.size) (fun k hk => Nat.lt_of_le_of_lt hk HL10.out.box.lt))
                          clear hR
                          clear hv hO11 hP hin
                          have x11 : w11.cell? ⟨w.heap.size, 5, none⟩ = some (.slice none 0 0) := by rw [HL11.out.box.cell]; rfl
                          have f11 := HL11.out.box.frozen 5
                          have l11 := HL11.out.box.lt
                          go_wp2_with (fail)
                          first | (refine calls_named ?_; intro W12 hW12) | (refine body_named ?_; intro W12 hW12) | (refine wpList_named ?_; intro W12 hW12) | (refine wp_named ?_; intro W12 hW12)
                          have hk12 : Blk W12 w11.heap.size 9 #[.string (bs kRB)] := by have := Blk.new (w11.setCell ⟨w.heap.size, 5, none⟩ (.slice A11 n11 c11)) 9 #[.string (bs kRB)]; rw [World.size_setCell] at this; rw [← hW12]; exact this
                          have HM12 := Lib.hid (show LSt w W12 B g A n c T m11 #[.string (bs sn), .int .i64 i1, .int .i64 i2, .int .i64 i3, .slice A9 n9 c9, .slice A11 n11 c11] by rw [← hW12]; exact (HL11.out.set 5 (.slice A11 n11 c11)).below ((Below.refl _ _).alloc (Nat.le_refl _) _))
                          have HR9'ss' := Lib.hid (show _ by exact (HR9'ss.out.only (LSt.boxed w 5 (.slice A11 n11 c11)) (fun k hk => by omega)).only (S' := fun _ => False) (w' := W12) (by rw [← hW12]; exact Only.of_below ((Below.refl _ _).alloc (Nat.le_refl _) _)) (fun _ h => h.elim))
                          have HR11' := Lib.hid (show _ by exact (HR11.out.only (LSt.boxed w 5 (.slice A11 n11 c11)) (fun k hk => by omega)).only (S' := fun _ => False) (w' := W12) (by rw [← hW12]; exact Only.of_below ((Below.refl _ _).alloc (Nat.le_refl _) _)) (fun _ h => h.elim))
                          have hgs12 : g < w11.heap.size := HL11.out.st.lt
                          clear hW12
                          generalize w11.heap.size = sb12 at hk12 hgs12 ⊢
                          refine (ywant_any B g A n c T m11 (some ⟨sb12, 0, none⟩) 1 1 W12.heap.size [kRB] W12 HM12.out.st hm11 hTl (rd_texts (ws := [kRB]) hk12 (by decide)) (by decide) (Nat.le_refl _) (fun p hp => by injection hp with hp; rw [← hp]; show sb12 ≠ g; omega) (by omega)).mono ?_
                          rintro e w12 ⟨hO12, hp⟩
                          have hin := pwant_in T (s := kRB) (r := []) (a := m11)
                          cases hv : pwant T [kRB] m11 with
                          | bad m12 =>
                            rw [hv] at hp
                            obtain ⟨rfl, hP⟩ := hp
                            have HE := Lib.hid (show prules T a = .bad m12 by rw [HD12.out]; rw [hv]; rfl)
                            clear hv hin
                            go_wp2
                            refine ⟨rfl, ?_⟩
                            unfold PPost
                            rw [HE.out]
                            exact ⟨HM12.out.only.trans hO12, rfl, hP⟩
                          | ok u m12 =>
                            rw [hv] at hp hin
                            obtain ⟨⟨_, rfl, rfl⟩, hP⟩ := hp
                            have hm12 : m12 ≤ 65537 := Nat.le_trans hin.2 hTl
                            have HD13 := Lib.hid (show prules T a = .ok ⟨sn, i1, i2, i3, fo, zs⟩ m12 by rw [HD12.out]; rw [hv]; rfl)
                            have HL12 := Lib.hid (HM12.out.go hP hO12)
                            have HR9'ss's := Lib.hid (HR9'ss'.out.only hO12 (fun k hk => by omega))
                            have HR11's := Lib.hid (HR11'.out.only hO12 (fun k hk => by omega))
                            clear hv hO12 hP hin
                            have z0 : w12.cell? ⟨w.heap.size, 0, none⟩ = some (.string (bs sn)) := by rw [HL12.out.box.cell]; rfl
                            have z1 : w12.cell? ⟨w.heap.size, 1, none⟩ = some (.int .i64 i1) := by rw [HL12.out.box.cell]; rfl
                            have z2 : w12.cell? ⟨w.heap.size, 2, none⟩ = some (.int .i64 i2) := by rw [HL12.out.box.cell]; rfl
                            have z3 : w12.cell? ⟨w.heap.size, 3, none⟩ = some (.int .i64 i3) := by rw [HL12.out.box.cell]; rfl
                            have z4 : w12.cell? ⟨w.heap.size, 4, none⟩ = some (.slice A9 n9 c9) := by rw [HL12.out.box.cell]; rfl
                            have z5 : w12.cell? ⟨w.heap.size, 5, none⟩ = some (.slice A11 n11 c11) := by rw [HL12.out.box.cell]; rfl
                            have g0 := HL12.out.box.frozen 0
                            have g1 := HL12.out.box.frozen 1
                            have g2 := HL12.out.box.frozen 2
                            have g3 := HL12.out.box.frozen 3
                            have g4 := HL12.out.box.frozen 4
                            have g5 := HL12.out.box.frozen 5
                            have lx := HL12.out.box.lt
                            go_wp2_with (fail)
                            first | (refine calls_named ?_; intro W hW) | (refine body_named ?_; intro W hW) | (refine wpList_named ?_; intro W hW) | (refine wp_named ?_; intro W hW)
                            have HLE := Lib.hid (show LSt w W B g A n c T m12 #[.string (bs sn), .int .i64 i1, .int .i64 i2, .int .i64 i3, .slice A9 n9 c9, .slice A11 n11 c11] by rw [← hW]; exact ((((((HL12.out).set 0 (.string (bs sn))).set 1 (.int .i64 i1)).set 2 (.int .i64 i2)).set 3 (.int .i64 i3)).set 4 (.slice A9 n9 c9)).set 5 (.slice A11 n11 c11))
                            have HOE : Only (· = w.heap.size) w12 W := by rw [← hW]; exact (((((LSt.boxed w 0 _).trans (LSt.boxed w 1 _)).trans (LSt.boxed w 2 _)).trans (LSt.boxed w 3 _)).trans (LSt.boxed w 4 _)).trans (LSt.boxed w 5 _)
                            clear hW z0 z1 z2 z3 z4 z5
                            have z0 : W.cell? ⟨w.heap.size, 0, none⟩ = some (.string (bs sn)) := by rw [HLE.out.box.cell]; rfl
                            have z1 : W.cell? ⟨w.heap.size, 1, none⟩ = some (.int .i64 i1) := by rw [HLE.out.box.cell]; rfl
                            have z2 : W.cell? ⟨w.heap.size, 2, none⟩ = some (.int .i64 i2) := by rw [HLE.out.box.cell]; rfl
                            have z3 : W.cell? ⟨w.heap.size, 3, none⟩ = some (.int .i64 i3) := by rw [HLE.out.box.cell]; rfl
                            have z4 : W.cell? ⟨w.heap.size, 4, none⟩ = some (.slice A9 n9 c9) := by rw [HLE.out.box.cell]; rfl
                            have z5 : W.cell? ⟨w.heap.size, 5, none⟩ = some (.slice A11 n11 c11) := by rw [HLE.out.box.cell]; rfl
                            refine bodyPost_ret (by simp [results, Tryz.results80, go_sem, z0, z1, z2, z3, z4, z5]; try rfl) rfl ?_
                            unfold PPost
                            rw [HD13.out]
                            exact ⟨HLE.out.only, ⟨_, rfl, _, _, _, _, _, _, rfl, (HR9'ss's.out.only HOE (fun k hk => by omega)).sub (fun k hk => Nat.le_of_lt hk), (HR11's.out.only HOE (fun k hk => by omega)).sub (fun k hk => Nat.le_of_lt hk)⟩, HLE.out.st⟩
end Go.Proofs.YticpjdjdimpglaaGreatDoor
