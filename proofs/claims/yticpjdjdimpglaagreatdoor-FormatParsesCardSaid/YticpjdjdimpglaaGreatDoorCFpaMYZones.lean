/- The parser's zones by their contract. -/
import Derived.Test.YticpjdjdimpglaaGreatDoorCFpaMYUnit
namespace Go.Proofs.YticpjdjdimpglaaGreatDoor
set_option linter.unusedVariables false
set_option linter.unusedSimpArgs false
open Go.RowKit
theorem elemZone : Elem Tryz.prog 26 73 3 32 := Elem.mk' Tryz.underlying26 (z := .agg #[.string ⟨#[]⟩, .int .i64 0, .int .i64 0]) (by kernel_rfl) rfl (by omega)
/-- What zones hand back: a row of their own. -/
def ZV (w : World) (l : List ZT) (w' : World) (v : Value) : Prop := ∃ A m c, v = .slice A m c ∧ RepZ (fun k => k < w.heap.size) w' l A m c
/-- The row of zones that is being made. -/
structure ZSt (w0 wr : World) (B g : Nat) (A : Option Addr) (n c : Nat) (T : List Tok) (b : Nat) (l : List ZT) (A' : Option Addr) (c' : Nat) : Prop where
  st : PSt wr B g A n c T b
  only : Only (· = g) w0 wr
  glt : g < w0.heap.size
  row : wr.ownsRow w0.heap.size 73 3 (.slice A' l.length c') l.length (l.flatMap zoneCells)
section
variable {w0 wr W w1 : World} {B g n c b b' c' : Nat} {A A' : Option Addr} {T : List Tok} {l : List ZT}
theorem ZSt.go (h : ZSt w0 wr B g A n c T b l A' c') (hp : PSt W B g A n c T b') (ho : Only (· = g) wr W) : ZSt w0 W B g A n c T b' l A' c' :=
  ⟨hp, h.only.trans ho, h.glt, own_only h.row ho (fun k hk => by have := (h.row.lt k hk).1; have := h.glt; omega)⟩
theorem ZSt.below (h : ZSt w0 wr B g A n c T b l A' c') (hb : Below wr.heap.size wr W) : ZSt w0 W B g A n c T b l A' c' := h.go (h.st.below hb) (Only.of_below hb)
theorem ZSt.push (h : ZSt w0 W B g A n c T b l A' c') {z : ZT} {A2 : Option Addr} {m cc : Nat} (hm : m = l.length + 1) (hg : W.grownBy w1 (Value.slice A' l.length c').ownBlock)
    (hown : w1.ownsRow w0.heap.size 73 3 (.slice A2 m cc) m (l.flatMap zoneCells ++ zoneCells z)) : ZSt w0 w1 B g A n c T b (l ++ [z]) A2 cc := by
  have ho : Only (fun k => (Value.slice A' l.length c').ownBlock = some k) W w1 := Only.of_grown hg (fun k hk => hk)
  have hl := fun k hk => (h.row.lt k hk).1
  subst hm
  refine ⟨h.st.only ho (fun e => by have := hl _ e; have := h.glt; omega) (fun k hk => by have := hl k hk; have := h.glt; have := h.st.lb; omega), h.only.new ho (fun k hk => hl k hk), h.glt, ?_⟩
  have e1 : (l ++ [z]).length = l.length + 1 := by simp
  have e2 : (l ++ [z]).flatMap zoneCells = l.flatMap zoneCells ++ zoneCells z := by simp
  rw [e1, e2]
  exact hown
/-- The zone's box is written. -/
theorem ZSt.box (h : ZSt w0 wr B g A n c T b l A' c') {zb : Nat} (ho : Only (· = zb) wr W) (hz : w0.heap.size ≤ zb) (hl : ∀ k, (Value.slice A' l.length c').ownBlock = some k → k < zb) : ZSt w0 W B g A n c T b l A' c' :=
  ⟨h.st.only ho (by have := h.glt; omega) (fun k hk => by have := h.glt; have := h.st.lb; omega), h.only.new ho (fun k hk => by omega), h.glt, own_only h.row ho (fun k hk e => by have := hl k hk; omega)⟩
theorem ZSt.zv (h : ZSt w0 wr B g A n c T b l A' c') : ZV w0 l wr (.slice A' l.length c') :=
  ⟨_, _, _, rfl, own_rd h.row, fun _ p hp hS => by subst hp; have := (h.row.lt p.block rfl).1; omega⟩
end
theorem pzones_step {T : List Tok} {f b : Nat} (h : T.length ≤ f + b) : pzones T f b = if isB T b kRB then .ok [] (b + 1) else (pzone T b).bind fun z n => (pzones T (f - 1) n).map (z :: ·) := by
  cases f with
  | succ f => rfl
  | zero =>
    rw [if_neg]
    · have hk := nx_out T (a := b) (by omega)
      have : pzone T b = .bad b := by
        unfold pzone pname
        rw [hk, if_neg (by decide)]
        rfl
      rw [this]
      rfl
    · intro e
      have := isB_lt T e
      omega
set_option maxHeartbeats 4000000 in
set_option maxRecDepth 100000 in
theorem yzones_any (B g : Nat) (A : Option Addr) (n c : Nat) (T : List Tok) (a : Nat) (w : World) (h : PSt w B g A n c T a) (hT : TOk T) (ha : a ≤ 65537) :
    Calls Tryz.prog 141 #[.pointer (some ⟨g, 0, none⟩)] w (PPost w B g A n c T (pzones T T.length a) (ZV w)) := by
  have HS := Lib.hid h
  have HT := Lib.hid hT
  have hTl := hT.len
  have hgw := h.lt
  clear h hT
  go_enter Tryz.func141, Tryz.ntmps141
  go_wp2_with (fail)
  go_loopg [2] T.length (fun gk s wr => ∃ (b : Nat) (l : List ZT) (A' : Option Addr) (c' : Nat), T.length ≤ gk + b ∧ a ≤ b ∧ b ≤ 65537 ∧ l.length ≤ b ∧ s = .slice A' l.length c' ∧ Hid (ZSt w wr B g A n c T b l A' c') ∧ Hid (pzones T T.length a = (pzones T gk b).map (l ++ ·)))
  case atStart => exact ⟨a, [], none, 0, by omega, Nat.le_refl _, ha, Nat.zero_le _, rfl, ⟨HS.out, Only.refl _ _, hgw, World.ownsRow_nil _ _ _ _⟩, by cases pzones T T.length a <;> rfl⟩
  case round =>
    obtain ⟨b, l, A', c', hgk, hab, hb, hlb, rfl, HZ, HE⟩ := hrel
    cases hB : isB T b kRB with
    | true =>
      have HE2 := Lib.hid (show pzones T T.length a = .ok l (b + 1) by
        rw [HE.out, pzones_step hgk, if_pos hB]
        show Res.ok (l ++ []) _ = _
        rw [List.append_nil])
      have HC := Lib.hid (yskip_yes B g A n c T b kRB wr HZ.out.st (by omega) (by decide) hB)
      clear hB HE
      go_wp2_with (fail)
      refine HC.out.mono ?_
      rintro e w1 ⟨rfl, hP, hO⟩
      have HZ1 := Lib.hid (HZ.out.go hP hO)
      clear hP hO
      go_wp2_with (fail)
      go_ret
      unfold PPost
      rw [HE2.out]
      exact ⟨HZ1.out.only, ⟨_, rfl, HZ1.out.zv⟩, HZ1.out.st⟩
    | false =>
      have HE2 := Lib.hid (show pzones T T.length a = ((pzone T b).bind fun z n => (pzones T (gk - 1) n).map (z :: ·)).map (l ++ ·) by
        rw [HE.out, pzones_step hgk, if_neg (by rw [hB]; decide)])
      have HC := Lib.hid (yskip_no B g A n c T b kRB wr HZ.out.st (by omega) (by decide) hB)
      clear hB HE
      go_wp2_with (fail)
      refine HC.out.mono ?_
      rintro e w1 ⟨rfl, hb1⟩
      have HZ1 := Lib.hid (HZ.out.below hb1)
      clear hb1
      go_wp2_with (fail)
      refine (yname_any B g A n c T b w1 HZ1.out.st HT.out hb).mono ?_
      rintro e w2 ⟨hO2, hp⟩
      have hin := pname_in T b
      have HD : pzone T b = (pname T b).bind fun s n => (pint T n).bind fun i n => if isB T n kTo then (pint T (n + 1)).bind fun j n => (pwant T [kSemi] n).map fun _ => (⟨s, i, j⟩ : ZT) else (pwant T [kSemi] n).map fun _ => ⟨s, i, i⟩ := rfl
      cases hv : pname T b with
      | bad m =>
        rw [hv] at hp HD
        obtain ⟨rfl, hP⟩ := hp
        have HE3 := Lib.hid (show pzones T T.length a = .bad m by rw [HE2.out, HD]; rfl)
        clear hv HD hin
        go_wp2
        refine ⟨rfl, ?_⟩
        unfold PPost
        rw [HE3.out]
        exact ⟨HZ1.out.only.trans hO2, rfl, hP⟩
      | ok sn m =>
        rw [hv] at hp HD hin
        obtain ⟨⟨_, rfl, rfl⟩, hP⟩ := hp
        have HZ2 := Lib.hid (HZ1.out.go hP hO2)
        have hm : m ≤ 65537 := Nat.le_trans hin.2 hTl
        have hbm : b < m := hin.1
        clear hv hO2 hP
        go_wp2_with (fail)
        refine (yint_any B g A n c T m w2 HZ2.out.st HT.out hm).mono ?_
        rintro e w3 ⟨hO3, hp⟩
        have hin := pint_in T m
        have HD2 : pzone T b = (pint T m).bind fun i n => if isB T n kTo then (pint T (n + 1)).bind fun j n => (pwant T [kSemi] n).map fun _ => (⟨sn, i, j⟩ : ZT) else (pwant T [kSemi] n).map fun _ => ⟨sn, i, i⟩ := HD
        clear HD
        cases hv : pint T m with
        | bad m2 =>
          rw [hv] at hp HD2
          obtain ⟨rfl, hP⟩ := hp
          have HE3 := Lib.hid (show pzones T T.length a = .bad m2 by rw [HE2.out, HD2]; rfl)
          clear hv HD2 hin
          go_wp2
          refine ⟨rfl, ?_⟩
          unfold PPost
          rw [HE3.out]
          exact ⟨HZ2.out.only.trans hO3, rfl, hP⟩
        | ok x m2 =>
          rw [hv] at hp HD2 hin
          obtain ⟨⟨_, rfl, rfl, _, _⟩, hP⟩ := hp
          have HZ3 := Lib.hid (HZ2.out.go hP hO3)
          have hm2 : m2 ≤ 65537 := Nat.le_trans hin.2 hTl
          have hmm : m < m2 := hin.1
          have HD3 := Lib.hid (show pzone T b = if isB T m2 kTo then (pint T (m2 + 1)).bind fun j n => (pwant T [kSemi] n).map fun _ => (⟨sn, x, j⟩ : ZT) else (pwant T [kSemi] m2).map fun _ => ⟨sn, x, x⟩ from HD2)
          clear hv hO3 hP HD2 hin
          go_wp2_with (fail)
          first | (refine calls_named ?_; intro W hW) | (refine body_named ?_; intro W hW) | (refine wpList_named ?_; intro W hW) | (refine wp_named ?_; intro W hW)
          have hbx : Blk W w3.heap.size 73 #[.string (bs sn), .int .i64 x, .int .i64 x] := by rw [← hW]; exact Blk.new _ _ _
          have hb3 : Below w3.heap.size w3 W := by rw [← hW]; exact (Below.refl _ _).alloc (Nat.le_refl _) _
          have hown3 : ∀ k, (Value.slice A' l.length c').ownBlock = some k → k < w3.heap.size := fun k hk => (HZ3.out.row.lt k hk).2
          have hz3 : w.heap.size ≤ w3.heap.size := HZ3.out.only.size
          have HZ4 := Lib.hid (HZ3.out.below hb3)
          have hg3 := HZ3.out.st.lt
          clear hW hb3
          generalize w3.heap.size = zb at *
          cases hB : isB T m2 kTo with
          | true =>
            have hlt := isB_lt T hB
            have HD4 := Lib.hid (show pzone T b = (pint T (m2 + 1)).bind fun j n => (pwant T [kSemi] n).map fun _ => (⟨sn, x, j⟩ : ZT) by rw [HD3.out, if_pos hB])
            have HC := Lib.hid (yskip_yes B g A n c T m2 kTo W HZ4.out.st (by omega) (by decide) hB)
            clear hB HD3
            refine HC.out.mono ?_
            rintro e w5 ⟨rfl, hP, hO⟩
            have HZ5 := Lib.hid (HZ4.out.go hP hO)
            have hbx5 := hbx.only hO (by omega)
            clear hP hO hbx
            go_wp2_with (fail)
            refine (yint_any B g A n c T (m2 + 1) w5 HZ5.out.st HT.out (by omega)).mono ?_
            rintro e w6 ⟨hO6, hp⟩
            have hin := pint_in T (m2 + 1)
            cases hv : pint T (m2 + 1) with
            | bad m3 =>
              rw [hv] at hp
              obtain ⟨rfl, hP⟩ := hp
              have HE3 := Lib.hid (show pzones T T.length a = .bad m3 by rw [HE2.out, HD4.out, hv]; rfl)
              clear hv hin
              go_wp2
              refine ⟨rfl, ?_⟩
              unfold PPost
              rw [HE3.out]
              exact ⟨HZ5.out.only.trans hO6, rfl, hP⟩
            | ok y m3 =>
              rw [hv] at hp hin
              obtain ⟨⟨_, rfl, rfl, _, _⟩, hP⟩ := hp
              have hm3 : m3 ≤ 65537 := Nat.le_trans hin.2 hTl
              have hmm3 : m2 + 1 < m3 := hin.1
              have HD5 := Lib.hid (show pzone T b = (pwant T [kSemi] m3).map fun _ => (⟨sn, x, y⟩ : ZT) by rw [HD4.out, hv]; rfl)
              have HZ6 := Lib.hid (HZ5.out.go hP hO6)
              have hbx6 := hbx5.only hO6 (by omega)
              have c2 : w6.cell? ⟨zb, 2, none⟩ = some (.int .i64 x) := by rw [hbx6.cell]; rfl
              have f2 := hbx6.frozen 2
              have hl6 := hbx6.lt
              clear hv hO6 hP hin hbx5
              go_wp2_with (fail)
              first | (refine calls_named ?_; intro W7 hW7) | (refine body_named ?_; intro W7 hW7) | (refine wpList_named ?_; intro W7 hW7) | (refine wp_named ?_; intro W7 hW7)
              have ho7 : Only (· = zb) w6 (w6.setCell ⟨zb, 2, none⟩ (.int .i64 y)) := Only.set (S := (· = zb)) w6 (p := ⟨zb, 2, none⟩) rfl _
              have ho7' : Only (· = zb) w6 W7 := by rw [← hW7]; exact ho7.trans (Only.of_below ((Below.refl _ _).alloc (Nat.le_refl _) _))
              have hbx7 : Blk W7 zb 73 #[.string (bs sn), .int .i64 x, .int .i64 y] := by rw [← hW7]; exact (hbx6.set 2 _).alloc _
              have hk7 : Blk W7 w6.heap.size 9 #[.string (bs kSemi)] := by have := Blk.new (w6.setCell ⟨zb, 2, none⟩ (.int .i64 y)) 9 #[.string (bs kSemi)]; rw [← hW7]; rwa [World.size_setCell] at this
              have hsb : g < w6.heap.size := HZ6.out.st.lt
              clear hW7 ho7 hbx6 c2 f2
              have HZ7 := Lib.hid (HZ6.out.box ho7' (by omega) hown3)
              generalize w6.heap.size = sb at *
              refine (ywant_any B g A n c T m3 (some ⟨sb, 0, none⟩) 1 1 W7.heap.size [kSemi] W7 HZ7.out.st (by omega) hTl (rd_texts (ws := [kSemi]) hk7 (by decide)) (by decide) (Nat.le_refl _) (fun p hp => by injection hp with hp; rw [← hp]; show sb ≠ g; omega) (by omega)).mono ?_
              rintro e w8 ⟨hO8, hp⟩
              have hin := pwant_in T (s := kSemi) (r := []) (a := m3)
              cases hw : pwant T [kSemi] m3 with
              | bad m4 =>
                rw [hw] at hp
                obtain ⟨rfl, hP⟩ := hp
                have HE3 := Lib.hid (show pzones T T.length a = .bad m4 by rw [HE2.out, HD5.out, hw]; rfl)
                clear hw hin
                go_wp2
                refine ⟨rfl, ?_⟩
                unfold PPost
                rw [HE3.out]
                exact ⟨HZ7.out.only.trans hO8, rfl, hP⟩
              | ok u m4 =>
                rw [hw] at hp hin
                obtain ⟨⟨_, rfl, rfl⟩, hP⟩ := hp
                have hm4 : m4 ≤ 65537 := Nat.le_trans hin.2 hTl
                have hmm4 : m3 < m4 := hin.1
                have hm4T : m4 ≤ T.length := hin.2
                have HE4 := Lib.hid (show pzones T T.length a = (pzones T (gk - 1) m4).map ((l ++ [(⟨sn, x, y⟩ : ZT)]) ++ ·) by
                  rw [HE2.out, HD5.out, hw]
                  show ((pzones T (gk - 1) m4).map ((⟨sn, x, y⟩ : ZT) :: ·)).map (l ++ ·) = _
                  cases pzones T (gk - 1) m4 <;> simp [Res.map])
                have HZ8 := Lib.hid (HZ7.out.go hP hO8)
                have hbx8 := hbx7.only hO8 (by omega)
                have z0 : w8.cell? ⟨zb, 0, none⟩ = some (.string (bs sn)) := by rw [hbx8.cell]; rfl
                have z1 : w8.cell? ⟨zb, 1, none⟩ = some (.int .i64 x) := by rw [hbx8.cell]; rfl
                have z2 : w8.cell? ⟨zb, 2, none⟩ = some (.int .i64 y) := by rw [hbx8.cell]; rfl
                have Hgk := Lib.hid hgk
                clear hw hO8 hP hin hbx7 hgk
                go_wp2_with (at_builtin; refine Hid.out ?_)
                refine Lib.hid ?_
                have hbb : Below w8.heap.size w8 (w8.alloc (.cells #[.string (bs sn), .int .i64 x, .int .i64 y] 73)) := (Below.refl _ _).alloc (Nat.le_refl _) _
                have HZ9 := Lib.hid (HZ8.out.below hbb)
                refine wpList_push_apart elemZone rfl (.tmp 23) (.tmp 25) rfl w.heap.size A' l.length c' (l.flatMap zoneCells) rfl HZ9.out.row w8.heap.size rfl (zoneCells ⟨sn, x, y⟩) rfl (new_cells _ _ _) (by intro u hu; simp [zoneCells] at hu; rcases hu with rfl | rfl | rfl <;> rfl) (by omega) (by omega) (by have := HZ9.out.only.size; omega) ?_
                intro A3 c3 w9 hown9 hb9 hg9 hap9
                have HZ10 := Lib.hid (HZ9.out.push rfl hg9 hown9)
                clear hown9 hb9 hg9 hap9 hbb z0 z1 z2 hbx8
                go_wp2_with (fail)
                go_roundg (gk - 1)
                case measure => have := Hgk.out; omega
                case rel => exact ⟨m4, _, A3, c3, by have := Hgk.out; omega, by omega, hm4, by simp; omega, slice_eq (by simp), HZ10.out, HE4.out⟩
          | false =>
            have HD5 := Lib.hid (show pzone T b = (pwant T [kSemi] m2).map fun _ => (⟨sn, x, x⟩ : ZT) by rw [HD3.out, if_neg (by rw [hB]; decide)])
            have HC := Lib.hid (yskip_no B g A n c T m2 kTo W HZ4.out.st (by omega) (by decide) hB)
            clear hB HD3
            refine HC.out.mono ?_
            rintro e w6 ⟨rfl, hb6⟩
            have HZ6 := Lib.hid (HZ4.out.below hb6)
            have hbx6 := hbx.below hb6 hbx.lt
            clear hb6 hbx
            go_wp2_with (fail)
            first | (refine calls_named ?_; intro W7 hW7) | (refine body_named ?_; intro W7 hW7) | (refine wpList_named ?_; intro W7 hW7) | (refine wp_named ?_; intro W7 hW7)
            have hb7 : Below w6.heap.size w6 W7 := by rw [← hW7]; exact (Below.refl _ _).alloc (Nat.le_refl _) _
            have hbx7 := hbx6.below hb7 hbx6.lt
            have hk7 : Blk W7 w6.heap.size 9 #[.string (bs kSemi)] := by rw [← hW7]; exact Blk.new _ _ _
            have hsb : g < w6.heap.size := HZ6.out.st.lt
            clear hW7 hbx6
            have HZ7 := Lib.hid (HZ6.out.below hb7)
            generalize w6.heap.size = sb at *
            refine (ywant_any B g A n c T m2 (some ⟨sb, 0, none⟩) 1 1 W7.heap.size [kSemi] W7 HZ7.out.st (by omega) hTl (rd_texts (ws := [kSemi]) hk7 (by decide)) (by decide) (Nat.le_refl _) (fun p hp => by injection hp with hp; rw [← hp]; show sb ≠ g; omega) (by omega)).mono ?_
            rintro e w8 ⟨hO8, hp⟩
            have hin := pwant_in T (s := kSemi) (r := []) (a := m2)
            cases hw : pwant T [kSemi] m2 with
            | bad m4 =>
              rw [hw] at hp
              obtain ⟨rfl, hP⟩ := hp
              have HE3 := Lib.hid (show pzones T T.length a = .bad m4 by rw [HE2.out, HD5.out, hw]; rfl)
              clear hw hin
              go_wp2
              refine ⟨rfl, ?_⟩
              unfold PPost
              rw [HE3.out]
              exact ⟨HZ7.out.only.trans hO8, rfl, hP⟩
            | ok u m4 =>
              rw [hw] at hp hin
              obtain ⟨⟨_, rfl, rfl⟩, hP⟩ := hp
              have hm4 : m4 ≤ 65537 := Nat.le_trans hin.2 hTl
              have hmm4 : m2 < m4 := hin.1
              have hm4T : m4 ≤ T.length := hin.2
              have HE4 := Lib.hid (show pzones T T.length a = (pzones T (gk - 1) m4).map ((l ++ [(⟨sn, x, x⟩ : ZT)]) ++ ·) by
                rw [HE2.out, HD5.out, hw]
                show ((pzones T (gk - 1) m4).map ((⟨sn, x, x⟩ : ZT) :: ·)).map (l ++ ·) = _
                cases pzones T (gk - 1) m4 <;> simp [Res.map])
              have HZ8 := Lib.hid (HZ7.out.go hP hO8)
              have hbx8 := hbx7.only hO8 (by omega)
              have z0 : w8.cell? ⟨zb, 0, none⟩ = some (.string (bs sn)) := by rw [hbx8.cell]; rfl
              have z1 : w8.cell? ⟨zb, 1, none⟩ = some (.int .i64 x) := by rw [hbx8.cell]; rfl
              have z2 : w8.cell? ⟨zb, 2, none⟩ = some (.int .i64 x) := by rw [hbx8.cell]; rfl
              have Hgk := Lib.hid hgk
              clear hw hO8 hP hin hbx7 hgk
              go_wp2_with (at_builtin; refine Hid.out ?_)
              refine Lib.hid ?_
              have hbb : Below w8.heap.size w8 (w8.alloc (.cells #[.string (bs sn), .int .i64 x, .int .i64 x] 73)) := (Below.refl _ _).alloc (Nat.le_refl _) _
              have HZ9 := Lib.hid (HZ8.out.below hbb)
              refine wpList_push_apart elemZone rfl (.tmp 23) (.tmp 25) rfl w.heap.size A' l.length c' (l.flatMap zoneCells) rfl HZ9.out.row w8.heap.size rfl (zoneCells ⟨sn, x, x⟩) rfl (new_cells _ _ _) (by intro u hu; simp [zoneCells] at hu; rcases hu with rfl | rfl | rfl <;> rfl) (by omega) (by omega) (by have := HZ9.out.only.size; omega) ?_
              intro A3 c3 w9 hown9 hb9 hg9 hap9
              have HZ10 := Lib.hid (HZ9.out.push rfl hg9 hown9)
              clear hown9 hb9 hg9 hap9 hbb z0 z1 z2 hbx8
              go_wp2_with (fail)
              go_roundg (gk - 1)
              case measure => have := Hgk.out; omega
              case rel => exact ⟨m4, _, A3, c3, by have := Hgk.out; omega, by omega, hm4, by simp; omega, slice_eq (by simp), HZ10.out, HE4.out⟩
end Go.Proofs.YticpjdjdimpglaaGreatDoor
