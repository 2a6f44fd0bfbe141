/- format.flat by its contract. -/
import Derived.Test.YticpjdjdimpglaaGreatDoorCTisMSam
namespace Go.Proofs.YticpjdjdimpglaaGreatDoor
set_option linter.unusedVariables false
set_option linter.unusedSimpArgs false
open Go.RowKit
theorem KN.below {w w' : World} {b n : Nat} {kn : List Int} (h : KN w b n kn) (hb : Below w.heap.size w w') : KN w' b n kn := MK.block h (hb.block _ (MK.lt h))
/-- What flat answers. -/
def FlPost (S : Nat → Prop) (w : World) (r : Except Int SF) (e : Ending) (w' : World) : Prop :=
  Below w.heap.size w w' ∧ match r with
    | .ok G => ∃ A m d, e = .returned (.tuple #[.slice A m d, .int .i64 0]) ∧ RepT S w' G A m d
    | .error x => e = .returned (.tuple #[.slice none 0 0, .int .i64 x])
/-- The contract of flat for steps of a size. -/
def FLAT (N : Nat) : Prop := ∀ (S : Nat → Prop) (F : SF) (A : Option Addr) (m d : Nat) (v : Value) (n : Nat) (kn : List Int) (w : World), F.sz < N → F.okB = true → n + F.sz ≤ 900000 → (∀ k, S k → k < w.heap.size) → RepT S w F A m d → KV w v n kn →
  Calls Tryz.prog 66 #[.slice A m d, v] w (FlPost S w (flat kn F))
/-- The blocks to be kept clear of in a round. -/
def S2 (S : Nat → Prop) (b : Nat) (A : Option Addr) (n c : Nat) (k : Nat) : Prop := (S k ∨ k = b) ∨ (Value.slice A n c).ownBlock = some k
theorem wf_small {x : Int} (h1 : -1000 ≤ x) (h2 : x ≤ 1000) : (Lit.int .i64 x).wf = true := WalkArith.wf_i64 (by omega)
/-- The state of flat's loop, at index i. -/
structure FSt (S : Nat → Prop) (w w1 : World) (F : SF) (kn : List Int) (n : Nat) (i nn : Nat) (A : Option Addr) (c : Nat) (wr : World) : Prop where
  ex : ∃ (G : SF) (kn' : List Int) (n' : Nat), FlatAt kn F kn' G (F.toL.drop i) ∧ SSt (fun k => S k ∨ k = w.heap.size) w1 wr G A nn c ∧ KN wr w.heap.size n' kn' ∧ n' + szL (F.toL.drop i) ≤ n + F.sz ∧ nn + szL (F.toL.drop i) ≤ F.sz
  hb : Below w.heap.size w wr
  h1 : w1.heap.size ≤ wr.heap.size
set_option maxHeartbeats 8000000 in
set_option maxRecDepth 100000 in
theorem flat_of (N : Nat) (ih : FLAT N) : FLAT (N + 1) := by
  intro S F A m d v n kn w hN hok hz hS h hv
  have HI := Lib.hid ih
  have HR := Lib.hid h
  have HS := Lib.hid hS
  have HN := Lib.hid hN
  have HZ := Lib.hid hz
  have HOK := Lib.hid (fun x (hx : x ∈ F.toL) => okS_of hok hx)
  have HL := Lib.hid (h.len.trans (stoL_len F).symm)
  have HSZ := Lib.hid (show ∀ x ∈ F.toL, x.th.sz + x.el.sz + 2 ≤ F.sz from fun x hx => ssz_memF hx)
  generalize hr : flat kn F = r
  have HE := Lib.hid hr
  have hc := h.choose_spec.1.cap
  have hbg := h.choose_spec.1.big
  clear ih h hS hN hz hok hr
  go_enter Tryz.func66, Tryz.ntmps66
  go_wp2_with (fail)
  refine (copied_any v n kn w hv (by have := HZ.out; omega)).mono ?_
  rintro e w1 ⟨rfl, hk1, hb1⟩
  have hm0 := hk1.lt
  have HST := Lib.hid (show FSt S w w1 F kn n 0 0 none 0 w1 from ⟨⟨.nil, kn, n, FlatAt.start kn F, SSt.zero (Nat.le_refl _), hk1, by rw [List.drop_zero, szL_toL]; exact Nat.le_refl _, by rw [List.drop_zero, szL_toL]; omega⟩, hb1, Nat.le_refl _⟩)
  have HM0 := Lib.hid hm0
  have HB1 := Lib.hid hb1
  clear hk1 hb1 hv hm0
  go_wp2_with (fail)
  go_loopw [4, 18] (fun o q wr => ∃ (i nn : Nat) (A' : Option Addr) (c' : Nat), i ≤ m ∧ q = .int .i64 i ∧ o = .slice A' nn c' ∧ Hid (FSt S w w1 F kn n i nn A' c' wr)) (fun _ q _ => m - (intOf q).toNat)
  case atStart => exact ⟨0, 0, none, 0, Nat.zero_le _, rfl, rfl, HST.out⟩
  case round =>
    obtain ⟨i, nn, A', c', him, rfl, rfl, HF⟩ := hrel
    obtain ⟨G, kn', n', hfa, hss, hkn, hn1, hn2⟩ := HF.out.ex
    have HB := Lib.hid HF.out.hb
    have hw1 := HF.out.h1
    clear HF
    by_cases hlt : i < m
    · obtain ⟨b, off, x, Bc, nc, ec, B1, n1, e1, B2, n2, e2, rfl, hb, hSb, hx, ⟨g0, g1, g2, g3, g4, g5, g6, g7⟩, k1, k2, k3⟩ := HR.out.elem hlt
      rw [← HB.out.cell (p := ⟨b, _, none⟩) hb] at g0 g1 g2 g3 g4 g5 g6 g7
      obtain ⟨hdr, hmem⟩ := drop_mem hx
      rw [hdr] at hfa hn1 hn2
      rw [szL_cons] at hn1 hn2
      have HFA := Lib.hid hfa
      have HOX := Lib.hid (HOK.out x hmem)
      have HXZ := Lib.hid (HSZ.out x hmem)
      have hbl : b < wr.heap.size := Nat.lt_of_lt_of_le hb HB.out.size
      have HC1 := Lib.hid k1
      have HC2 := Lib.hid k2
      have HC3 := Lib.hid k3
      clear hfa hx hdr hmem k1 k2 k3 hSb
      have hi2 : (i : Int) < (m : Int) := by omega
      have HN1 := Lib.hid hn1
      have HN2 := Lib.hid hn2
      clear hn1 hn2
      have hs1 : ∀ k, (S k ∨ k = w.heap.size) → k < w1.heap.size := fun k hk => by
        rcases hk with hk | rfl
        · exact Nat.lt_of_lt_of_le (HS.out k hk) HB1.out.size
        · exact HM0.out
      have HSL := Lib.hid (show ∀ k, S2 S w.heap.size A' nn c' k → k < wr.heap.size ∧ (S k ∨ w.heap.size ≤ k) from fun k hk => by
        rcases hk with hk | hk
        · refine ⟨Nat.lt_of_lt_of_le (hs1 k hk) hw1, ?_⟩
          rcases hk with hk | rfl
          · exact .inl hk
          · exact .inr (Nat.le_refl _)
        · have := hss.own_lt k hk
          exact ⟨this.2, .inr (Nat.le_trans HB1.out.size this.1)⟩)
      have HSS := Lib.hid hss
      have HKN := Lib.hid hkn
      have HW1 := Lib.hid hw1
      clear hss hkn hs1
      by_cases hk : x.k = 1
      · have hk1 : (x.k == 1) = true := by rw [hk]; rfl
        have HK := Lib.hid hk
        have hkr : 1 ≤ x.b ∧ x.b ≤ 12 := by
          rcases HOX.out with h | h
          · exact h.2
          · have := h.1; omega
        have hkey := keyInt x.b (wf_small (by omega) (by omega))
        clear hk hkr
        go_wp2_with (at_lookup; refine Hid.out ?_)
        refine Lib.hid ?_
        first | (refine calls_named ?_; intro W2 hW2) | (refine body_named ?_; intro W2 hW2) | (refine wpList_named ?_; intro W2 hW2) | (refine wp_named ?_; intro W2 hW2)
        have hb2 : Below wr.heap.size wr W2 := by rw [← hW2]; exact (Below.refl _ _).alloc (Nat.le_refl _) _
        have hx2 : Blk W2 wr.heap.size 56 #[.int .i64 x.k, .int .i64 x.b, .int .i64 x.c.k, .int .i64 x.c.v, .int .i64 x.c.n, .slice Bc nc ec, .slice B1 n1 e1, .slice B2 n2 e2] := by rw [← hW2]; exact Blk.new wr _ _
        clear hW2 g0 g1 g2 g3 g4 g5 g6 g7
        have HB2 := Lib.hid (HB.out.trans (hb2.mono HB.out.size))
        have HBr := Lib.hid hb2
        have x0 := hx2.cell 0
        have x1 := hx2.cell 1
        have x2 := hx2.cell 2
        have x3 := hx2.cell 3
        have x4 := hx2.cell 4
        have x5 := hx2.cell 5
        have x6 := hx2.cell 6
        have x7 := hx2.cell 7
        have xl := hx2.lt
        have HX2 := Lib.hid hx2
        clear hb2 hx2
        refine wpList_mk_look rfl _ _ rfl lawInt Tryz.underlying140 Tryz.underlying4 (zeroB _) (KN.below HKN.out HBr.out) rfl x.b rfl hkey ?_
        have hwz := HBr.out.size
        cases hcn : kn'.contains x.b
        · have HST := Lib.hid (FlatAt.step HFA.out (stepF_new HK.out hcn))
          clear hcn
          go_wp2_with (at_builtin; refine Hid.out ?_)
          refine Lib.hid ?_
          have hbb : Below W2.heap.size W2 (W2.alloc (.cells #[.int .i64 x.k, .int .i64 x.b, .int .i64 x.c.k, .int .i64 x.c.v, .int .i64 x.c.n, .slice Bc nc ec, .slice B1 n1 e1, .slice B2 n2 e2] 56)) := (Below.refl _ _).alloc (Nat.le_refl _) _
          have HBW := Lib.hid (HB2.out.trans (hbb.mono HB2.out.size))
          have hbt : Below wr.heap.size wr (W2.alloc (.cells #[.int .i64 x.k, .int .i64 x.b, .int .i64 x.c.k, .int .i64 x.c.v, .int .i64 x.c.n, .slice Bc nc ec, .slice B1 n1 e1, .slice B2 n2 e2] 56)) := HBr.out.trans (hbb.mono hwz)
          have hssb := HSS.out.below hbt
          obtain ⟨zs, hrow, hrep⟩ := hssb.row
          have hnn : nn ≤ 900000 := by have := HN2.out; have := HZ.out; omega
          refine wpList_push_apart elemStep2 rfl (.tmp 30) (.tmp 32) rfl w1.heap.size A' nn c' zs rfl hrow W2.heap.size rfl [.int .i64 x.k, .int .i64 x.b, .int .i64 x.c.k, .int .i64 x.c.v, .int .i64 x.c.n, .slice Bc nc ec, .slice B1 n1 e1, .slice B2 n2 e2] rfl (new_cells _ _ _) (by intro u hu; simp at hu; rcases hu with rfl | rfl | rfl | rfl | rfl | rfl | rfl | rfl <;> rfl) (by omega) (by omega) (by simp only [World.size_alloc]; omega) ?_
          intro A4 c4 w5 hown5 hb5 hg5 hap5
          have hnews : RepS (S2 S w.heap.size A' nn c') (W2.alloc (.cells #[.int .i64 x.k, .int .i64 x.b, .int .i64 x.c.k, .int .i64 x.c.v, .int .i64 x.c.n, .slice Bc nc ec, .slice B1 n1 e1, .slice B2 n2 e2] 56)) x.one [vi x.k, vi x.b, vi x.c.k, vi x.c.v, vi x.c.n, .slice Bc nc ec, .slice B1 n1 e1, .slice B2 n2 e2] :=
            RepS.st ((HC1.out.new.below HBW.out).sub fun k hk => (HSL.out k hk).2) ((HC2.out.new.below HBW.out).sub fun k hk => (HSL.out k hk).2) ((HC3.out.new.below HBW.out).sub fun k hk => (HSL.out k hk).2)
          have HSS5 := Lib.hid (SSt.push (M := x.one) hssb hrep hnews rfl hg5 hown5 hap5)
          have HKN5 := Lib.hid (show KN w5 w.heap.size n' kn' from MK.block (KN.below HKN.out hbt) (hb5.block _ HM0.out))
          have HX5 := Lib.hid ((HX2.out.below hbb xl).only (Only.of_grown hg5 (fun k hk => hk)) (fun hk => by
            have := (hrow.lt _ hk).2
            have h3 := HSS.out.own_lt _ hk
            omega))
          have HB5 := Lib.hid (HBW.out.grown hg5 (by have := HBW.out.size; exact this) (fun k hk => by have := HSS.out.own_lt _ hk; have := HB1.out.size; omega))
          have hz5 := hb5.size
          have HZ5 := Lib.hid (show w1.heap.size ≤ w5.heap.size by simp only [World.size_alloc] at hz5; omega)
          clear hbb hbt hssb hrow hrep hnews hown5 hb5 hg5 hap5 HX2 x0 x1 x2 x3 x4 x5 x6 x7 xl
          have y0 := HX5.out.cell 0
          have y1 := HX5.out.cell 1
          have yl := HX5.out.lt
          go_wp2_with (at_mapUpdate; refine Hid.out ?_)
          refine Lib.hid ?_
          refine wpList_mk_store rfl _ _ _ rfl lawInt Tryz.underlying140 Tryz.underlying4 HKN5.out (by have := HN1.out; have := HZ.out; unfold maxLen; omega) rfl x.b rfl rfl hkey ?_
          intro w6 hk6 hg6
          have hO6 : Only (· = w.heap.size) w5 w6 := Only.of_grown hg6 (fun k hk => by injection hk with hk; exact hk.symm)
          have HB6 := Lib.hid (hO6.below HB5.out HB5.out.size (fun q hq => by rw [show q = w.heap.size from hq]; exact Nat.le_refl _))
          have HSS6 := Lib.hid (HSS5.out.only hO6 (fun k hk => .inr hk) (fun k hk he => by have h3 := (HSS5.out.own_lt k hk).1; have h4 := HM0.out; have h5 : k = w.heap.size := he; omega))
          have HKN6 := Lib.hid hk6
          have HZ6 := Lib.hid (show w1.heap.size ≤ w6.heap.size from Nat.le_trans HZ5.out hO6.size)
          clear hk6 hg6 hO6
          go_wp2_with (fail)
          go_roundw
          case rel => exact ⟨i + 1, nn + 1, A4, c4, hlt, by go_num, rfl, ⟨⟨_, _, _, HST.out, HSS6.out, HKN6.out, by have := HN1.out; omega, by have := HN2.out; omega⟩, HB6.out, HZ6.out⟩⟩
          case measure => simp [intOf]; omega
        · have HST := Lib.hid (FlatAt.step HFA.out (stepF_by HK.out hcn))
          have HMB := Lib.hid (show ∀ y, y ∈ x.b :: kn' ↔ y ∈ kn' from fun y => by
            rw [List.mem_cons]
            exact ⟨fun h => h.elim (fun h => by rw [h]; exact List.contains_iff_mem.1 hcn) id, .inr⟩)
          clear hcn
          go_wp2_with (at_mapUpdate; refine Hid.out ?_)
          refine Lib.hid ?_
          refine wpList_mk_store rfl _ _ _ rfl lawInt Tryz.underlying140 Tryz.underlying4 (KN.below HKN.out HBr.out) (by have := HN1.out; have := HZ.out; unfold maxLen; omega) rfl x.b rfl rfl hkey ?_
          intro w6 hk6 hg6
          have hO6 : Only (· = w.heap.size) W2 w6 := Only.of_grown hg6 (fun k hk => by injection hk with hk; exact hk.symm)
          have HB6 := Lib.hid (hO6.below HB2.out HB2.out.size (fun q hq => by rw [show q = w.heap.size from hq]; exact Nat.le_refl _))
          have hss2 := HSS.out.below HBr.out
          have HSS6 := Lib.hid (hss2.only hO6 (fun k hk => .inr hk) (fun k hk he => by have h3 := (hss2.own_lt k hk).1; have h4 := HM0.out; have h5 : k = w.heap.size := he; omega))
          have HKN6 := Lib.hid (hk6.same HMB.out)
          have HZ6 := Lib.hid (show w1.heap.size ≤ w6.heap.size from Nat.le_trans (Nat.le_trans HW1.out hwz) hO6.size)
          clear hk6 hg6 hO6 hss2 x0 x1 x2 x3 x4 x5 x6 x7 xl
          go_wp2_with (fail)
          go_roundw
          case rel => exact ⟨i + 1, nn, A', c', hlt, by go_num, rfl, ⟨⟨_, _, _, by rw [appF_nil] at HST; exact HST.out, HSS6.out, HKN6.out, by have := HN1.out; omega, by have := HN2.out; omega⟩, HB6.out, HZ6.out⟩⟩
          case measure => simp [intOf]; omega
      · have HKV := Lib.hid (show okC x.c = true ∧ x.th.okB = true ∧ x.el.okB = true by
          rcases HOX.out with h | h
          · exact absurd h.1 hk
          · exact h.2)
        have hkb : (x.k == 1) = false := by simpa using hk
        have HK := Lib.hid hk
        clear hk
        go_wp2_with (fail)
        first | (refine calls_named ?_; intro W2 hW2) | (refine body_named ?_; intro W2 hW2) | (refine wpList_named ?_; intro W2 hW2) | (refine wp_named ?_; intro W2 hW2)
        have hb2 : Below wr.heap.size wr W2 := by rw [← hW2]; exact (Below.refl _ _).alloc (Nat.le_refl _) _
        have hx2 : Blk W2 wr.heap.size 56 #[.int .i64 x.k, .int .i64 x.b, .int .i64 x.c.k, .int .i64 x.c.v, .int .i64 x.c.n, .slice Bc nc ec, .slice B1 n1 e1, .slice B2 n2 e2] := by rw [← hW2]; exact Blk.new wr _ _
        clear hW2 g0 g1 g2 g3 g4 g5 g6 g7
        have HX2 := Lib.hid hx2
        have HB2 := Lib.hid (HB.out.trans (hb2.mono HB.out.size))
        have HBr2 := Lib.hid hb2
        have hz2 := hb2.size
        clear hb2 hx2
        obtain ⟨⟨y, z⟩, hyz⟩ : ∃ q, q = tidy x.c := ⟨_, rfl⟩
        refine (tidy_any (S := S2 S w.heap.size A' nn c') (c := x.c) (fun k hk => Nat.lt_of_lt_of_le (HSL.out k hk).1 hz2) ((HC1.out.new.below HB2.out).sub fun k hk => (HSL.out k hk).2) (by have := HN2.out; have := HZ.out; omega)).mono ?_
        rw [← hyz]
        have HTY := Lib.hid hyz
        clear hyz
        rintro e w3 ⟨hb3, At, mt, dt, rfl, hrt⟩
        have HB3 := Lib.hid (HB2.out.trans (hb3.mono HB2.out.size))
        have HBr3 := Lib.hid (HBr2.out.trans (hb3.mono hz2))
        have HX3 := Lib.hid (HX2.out.below hb3 HX2.out.lt)
        have HRT := Lib.hid hrt
        have hz3 := hb3.size
        clear hb3 hrt HX2
        unfold cV
        dsimp only [vi]
        by_cases hz0 : z = 0
        · subst hz0
          have HZ0 := Lib.hid (show (tidy x.c).2 = 0 by rw [← HTY.out])
          have x6 := HX3.out.cell 6
          have xl := HX3.out.lt
          go_wp2_with (fail)
          first | (refine calls_named ?_; intro W4 hW4) | (refine body_named ?_; intro W4 hW4) | (refine wpList_named ?_; intro W4 hW4) | (refine wp_named ?_; intro W4 hW4)
          have hb4 : Below w3.heap.size w3 W4 := by rw [← hW4]; exact (Below.refl _ _).alloc (Nat.le_refl _) _
          have hc4 : Blk W4 w3.heap.size 24 #[.int .i64 y.k, .int .i64 y.v, .int .i64 y.n, .slice At mt dt] := by rw [← hW4]; exact Blk.new w3 _ _
          clear hW4 x6
          have HB4 := Lib.hid (HB3.out.trans (hb4.mono HB3.out.size))
          have HBr4 := Lib.hid (HBr3.out.trans (hb4.mono HBr3.out.size))
          have HX4 := Lib.hid (HX3.out.below hb4 xl)
          have HRT4 := Lib.hid (HRT.out.new.below hb4)
          have HCB4 := Lib.hid hc4
          have hz4 := hb4.size
          clear hb4 hc4 HX3 xl
          have HS4 := Lib.hid (show ∀ k, (S2 S w.heap.size A' nn c' k ∨ k = w3.heap.size) → k < W4.heap.size ∧ (S k ∨ w.heap.size ≤ k) from fun k hk => by
            rcases hk with hk | rfl
            · have := HSL.out k hk
              exact ⟨by omega, this.2⟩
            · exact ⟨HCB4.out.lt, .inr HB3.out.size⟩)
          refine (HI.out (fun k => S2 S w.heap.size A' nn c' k ∨ k = w3.heap.size) x.th B1 n1 e1 (.map (some w.heap.size)) n' kn' W4 (by have := HXZ.out; have := HN.out; omega) HKV.out.2.1 (by have := HN1.out; have := HZ.out; omega) (fun k hk => (HS4.out k hk).1) ((HC2.out.new.below HB4.out).sub fun k hk => (HS4.out k hk).2) (.inr ⟨_, rfl, KN.below HKN.out HBr4.out⟩)).mono ?_
          cases ht : flat kn' x.th with
          | error e =>
            rintro e' w5 ⟨hb5, rfl⟩
            have HRR := Lib.hid (show r = .error e by rw [← HE.out]; exact FlatAt.stop HFA.out (stepF_e2 HK.out HZ0.out ht))
            have hne : (e != 0) = true := bne_iff_ne.2 (flat_err _ _ _ ht)
            have HB5 := Lib.hid (HB4.out.trans (hb5.mono HB4.out.size))
            clear hb5 ht
            go_wp2_with (fail)
            go_ret2
            refine ⟨HB5.out, ?_⟩
            rw [HRR.out]
            rfl
          | ok t =>
            rintro e' w5 ⟨hb5, A5, m5, d5, rfl, hr5⟩
            have HTH := Lib.hid ht
            have HB5 := Lib.hid (HB4.out.trans (hb5.mono HB4.out.size))
            have HBr5 := Lib.hid (HBr4.out.trans (hb5.mono HBr4.out.size))
            have HX5 := Lib.hid (HX4.out.below hb5 HX4.out.lt)
            have HRT5 := Lib.hid (HRT4.out.below hb5)
            have HCB5 := Lib.hid (HCB4.out.below hb5 HCB4.out.lt)
            have HR5 := Lib.hid hr5
            have HM5 := Lib.hid hr5.len
            have HTL := Lib.hid (flat_slen _ _ _ ht)
            have hz5 := hb5.size
            clear hb5 hr5 ht HX4 HRT4 HCB4
            have x7 := HX5.out.cell 7
            have xl := HX5.out.lt
            go_wp2_with (fail)
            refine (HI.out (fun k => S2 S w.heap.size A' nn c' k ∨ k = w3.heap.size) x.el B2 n2 e2 (.map (some w.heap.size)) n' kn' w5 (by have := HXZ.out; have := HN.out; omega) HKV.out.2.2 (by have := HN1.out; have := HZ.out; omega) (fun k hk => Nat.lt_of_lt_of_le (HS4.out k hk).1 hz5) ((HC3.out.new.below HB5.out).sub fun k hk => (HS4.out k hk).2) (.inr ⟨_, rfl, KN.below HKN.out HBr5.out⟩)).mono ?_
            clear x7 xl
            cases hf : flat kn' x.el with
            | error e =>
              rintro e' w6 ⟨hb6, rfl⟩
              have HRR := Lib.hid (show r = .error e by rw [← HE.out]; exact FlatAt.stop HFA.out (stepF_e3 HK.out HZ0.out HTH.out hf))
              have hne : (e != 0) = true := bne_iff_ne.2 (flat_err _ _ _ hf)
              have HB6 := Lib.hid (HB5.out.trans (hb6.mono HB5.out.size))
              clear hb6 hf
              go_wp2_with (fail)
              go_ret2
              refine ⟨HB6.out, ?_⟩
              rw [HRR.out]
              rfl
            | ok f =>
              rintro e' w6 ⟨hb6, A6, m6, d6, rfl, hr6⟩
              have HEL := Lib.hid hf
              have HB6 := Lib.hid (HB5.out.trans (hb6.mono HB5.out.size))
              have HBr6 := Lib.hid (HBr5.out.trans (hb6.mono HBr5.out.size))
              have HRT6 := Lib.hid (HRT5.out.below hb6)
              have HCB6 := Lib.hid (HCB5.out.below hb6 HCB5.out.lt)
              have HR56 := Lib.hid (HR5.out.below hb6)
              have HR6 := Lib.hid hr6
              have HFL := Lib.hid (flat_slen _ _ _ hf)
              have hz6 := hb6.size
              clear hb6 hr6 hf HX5 HRT5 HCB5 HR5
              go_wp2_with (fail)
              refine (same_all (t.sz + 1) _ _ t f A5 m5 d5 A6 m6 d6 w6 (Nat.lt_succ_self _) HR56.out HR6.out).mono ?_
              rintro e' w7 ⟨rfl, hb7⟩
              have HB7 := Lib.hid (HB6.out.trans (hb7.mono HB6.out.size))
              have HBr7 := Lib.hid (HBr6.out.trans (hb7.mono HBr6.out.size))
              have HRT7 := Lib.hid (HRT6.out.below hb7)
              have HCB7 := Lib.hid (HCB6.out.below hb7 HCB6.out.lt)
              have HR57 := Lib.hid (HR56.out.below hb7)
              have HR67 := Lib.hid (HR6.out.below hb7)
              have hz7 := hb7.size
              clear hb7 HRT6 HCB6 HR56 HR6
              obtain ⟨wo, rfl⟩ : ∃ wo, wo = wr := ⟨_, rfl⟩
              by_cases htf : t = f
              · rw [decide_eq_true htf]
                have HTS := Lib.hid (FlatAt.step HFA.out (stepF_same HK.out HZ0.out HTH.out (HEL.out.trans (congrArg Except.ok htf.symm))))
                have HTO := Lib.hid (fun q (hq : q ∈ t.toL) => okS_of (flat_valid _ _ _ HKV.out.2.1 HTH.out).1 hq)
                have HTm := Lib.hid (HM5.out.trans (stoL_len t).symm)
                have hc5 := HR57.out.choose_spec.1.cap
                have hbg5 := HR57.out.choose_spec.1.big
                have HW7 := Lib.hid (show w1.heap.size ≤ w7.heap.size from Nat.le_trans HW1.out HBr7.out.size)
                have HN5 := Lib.hid (show n' + m5 + szL (F.toL.drop (i + 1)) ≤ n + F.sz ∧ nn + m5 + szL (F.toL.drop (i + 1)) ≤ F.sz by
                  have h1 := HTL.out
                  have h2 := HM5.out
                  have h3 := HN1.out
                  have h4 := HN2.out
                  omega)
                clear htf
                go_wp2_with (fail)
                go_loopw [72] (fun q wq => ∃ (j n2 : Nat) (kn2 : List Int), j ≤ m5 ∧ q = .int .i64 j ∧ n2 ≤ n' + j ∧ Hid (KN wq w.heap.size n2 kn2) ∧ Hid (∀ y, y ∈ kn2 ↔ y ∈ (SF.ofL (t.toL.take j)).byL ∨ y ∈ kn') ∧ Hid (SSt (fun k => S k ∨ k = w.heap.size) w1 wq G A' nn c') ∧ Hid (RepT (fun k => S2 S w.heap.size A' nn c' k ∨ k = w3.heap.size) wq t A5 m5 d5) ∧ Hid (Below w.heap.size w wq) ∧ Hid (w1.heap.size ≤ wq.heap.size)) (fun q _ => m5 - (intOf q).toNat)
                case atStart => exact ⟨0, n', kn', Nat.zero_le _, rfl, Nat.le_refl _, KN.below HKN.out HBr7.out, fun y => by simp [SF.ofL, SF.byL], HSS.out.below HBr7.out, HR57.out, HB7.out, HW7.out⟩
                case round =>
                  obtain ⟨j, n2, kn2, hj, rfl, hn2, HKq, HMM, HSq, HRq, HBq, HWq⟩ := hrel
                  by_cases hjl : j < m5
                  · obtain ⟨bq, oq, q, Bd, nd, ed, D1, l1, v1, D2, l2, v2, rfl, hbq, hSq, hq, ⟨q0, q1, q2, q3, q4, q5, q6, q7⟩, -, -, -⟩ := HRq.out.elem hjl
                    have HMJ := Lib.hid (byL_take hq)
                    have HOQ := Lib.hid (HTO.out q (drop_mem hq).2)
                    have hj2 : (j : Int) < (m5 : Int) := by omega
                    have hba : Below wr.heap.size wr (wr.alloc (.cells #[.int .i64 q.k, .int .i64 q.b, .int .i64 q.c.k, .int .i64 q.c.v, .int .i64 q.c.n, .slice Bd nd ed, .slice D1 l1 v1, .slice D2 l2 v2] 56)) := (Below.refl _ _).alloc (Nat.le_refl _) _
                    have HBA := Lib.hid hba
                    clear hq hSq hba
                    by_cases hk : q.k = 1
                    · have hk1 : (q.k == 1) = true := by rw [hk]; rfl
                      have hkr : 1 ≤ q.b ∧ q.b ≤ 12 := by
                        rcases HOQ.out with h | h
                        · exact h.2
                        · have := h.1; omega
                      have hkey := keyInt q.b (wf_small (by omega) (by omega))
                      have HQK := Lib.hid hk
                      clear hk hkr
                      go_wp2_with (at_mapUpdate; refine Hid.out ?_)
                      refine Lib.hid ?_
                      refine wpList_mk_store rfl _ _ _ rfl lawInt Tryz.underlying140 Tryz.underlying4 (KN.below HKq.out HBA.out) (by have := HN5.out; have := HZ.out; unfold maxLen; omega) rfl q.b rfl rfl hkey ?_
                      intro w8 hk8 hg8
                      have hO8 : Only (· = w.heap.size) (wr.alloc (.cells #[.int .i64 q.k, .int .i64 q.b, .int .i64 q.c.k, .int .i64 q.c.v, .int .i64 q.c.n, .slice Bd nd ed, .slice D1 l1 v1, .slice D2 l2 v2] 56)) w8 := Only.of_grown hg8 (fun k hk => by injection hk with hk; exact hk.symm)
                      have hbA := HBq.out.trans (HBA.out.mono HBq.out.size)
                      have HB8 := Lib.hid (hO8.below hbA hbA.size (fun q hq => by rw [show q = w.heap.size from hq]; exact Nat.le_refl _))
                      have hs8 := HSq.out.below HBA.out
                      have HS8 := Lib.hid (hs8.only hO8 (fun k hk => .inr hk) (fun k hk he => by have h3 := (hs8.own_lt k hk).1; have h4 := HM0.out; have h5 : k = w.heap.size := he; omega))
                      have HR8 := Lib.hid ((HRq.out.below HBA.out).only hO8 (fun k hk => .inl (.inl (.inr hk))))
                      have HK8 := Lib.hid hk8
                      have HW8 := Lib.hid (show w1.heap.size ≤ w8.heap.size from Nat.le_trans (Nat.le_trans HWq.out HBA.out.size) hO8.size)
                      have HM8 := Lib.hid (show ∀ y, y ∈ q.b :: kn2 ↔ y ∈ (SF.ofL (t.toL.take (j + 1))).byL ∨ y ∈ kn' from fun y => by
                        rw [HMJ.out, List.mem_cons, HMM.out]
                        constructor
                        · rintro (rfl | h | h)
                          · exact .inl (.inr ⟨HQK.out, rfl⟩)
                          · exact .inl (.inl h)
                          · exact .inr h
                        · rintro ((h | ⟨_, rfl⟩) | h)
                          · exact .inr (.inl h)
                          · exact .inl rfl
                          · exact .inr (.inr h))
                      clear hk8 hg8 hO8 hbA hs8 q0 q1 q2 q3 q4 q5 q6 q7
                      go_wp2_with (fail)
                      go_roundw
                      case rel => exact ⟨j + 1, n2 + 1, q.b :: kn2, hjl, by go_num, by omega, HK8.out, HM8.out, HS8.out, HR8.out, HB8.out, HW8.out⟩
                      case measure => simp [intOf]; omega
                    · have hk1 : (q.k == 1) = false := by simpa using hk
                      have HM8 := Lib.hid (show ∀ y, y ∈ kn2 ↔ y ∈ (SF.ofL (t.toL.take (j + 1))).byL ∨ y ∈ kn' from fun y => by
                        rw [HMJ.out, HMM.out]
                        constructor
                        · rintro (h | h)
                          · exact .inl (.inl h)
                          · exact .inr h
                        · rintro ((h | ⟨h, _⟩) | h)
                          · exact .inl h
                          · exact absurd h hk
                          · exact .inr h)
                      clear hk
                      go_wp2_with (fail)
                      go_roundw
                      case rel => exact ⟨j + 1, n2, kn2, hjl, by go_num, by omega, KN.below HKq.out HBA.out, HM8.out, HSq.out.below HBA.out, HRq.out.below HBA.out, HBq.out.trans (HBA.out.mono HBq.out.size), Nat.le_trans HWq.out HBA.out.size⟩
                      case measure => simp [intOf]; omega
                  · obtain rfl : j = m5 := by omega
                    have hjj : ¬ (j : Int) < (j : Int) := by omega
                    have HMT := Lib.hid (show ∀ y, y ∈ kn2 ↔ y ∈ t.byL ++ kn' from fun y => by
                      rw [HMM.out, List.take_of_length_le (by rw [← HTm.out]; exact Nat.le_refl _), sofL_toL, List.mem_append])
                    have HK8 := Lib.hid (MK.same HKq.out HMT.out)
                    go_wp2_with (at_builtin; refine Hid.out ?_)
                    refine Lib.hid ?_
                    obtain ⟨zs, hrow, hrep⟩ := HSq.out.row
                    obtain ⟨ys, hrd, hav, hrf⟩ := HRq.out
                    have hnn : nn + j ≤ 900000 := by have := HN5.out; have := HZ.out; omega
                    have hwq := HWq.out
                    refine wpList_app_apart elemStep2 rfl (.tmp 83) (.tmp 84) rfl w1.heap.size A' nn c' zs rfl hrow _ A5 j d5 rfl ys hrd hrf.one' (by omega) (by omega) hwq ?_
                    intro A9 c9 w11 hown11 hb11 hg11 hap11
                    have HSS11 := Lib.hid (SSt.push (M := t) HSq.out hrep (hrf.sub fun k hk => .inl hk) (by rw [← HM5.out]) hg11 hown11 hap11)
                    have HKN11 := Lib.hid (show KN w11 w.heap.size n2 (t.byL ++ kn') from MK.block HK8.out (hb11.block _ HM0.out))
                    have HB11 := Lib.hid (HBq.out.grown hg11 HBq.out.size (fun k hk => by have := HSq.out.own_lt _ hk; have := HB1.out.size; omega))
                    have HZ11 := Lib.hid (show w1.heap.size ≤ w11.heap.size from Nat.le_trans hwq hb11.size)
                    clear hrow hrep hrd hav hrf hown11 hb11 hg11 hap11
                    go_wp2_with (fail)
                    go_roundw
                    case rel => exact ⟨i + 1, nn + j, A9, c9, hlt, by go_num, rfl, ⟨⟨_, _, _, HTS.out, HSS11.out, HKN11.out, by have := HN5.out; omega, HN5.out.2⟩, HB11.out, HZ11.out⟩⟩
                    case measure => simp [intOf]; omega
              · rw [decide_eq_false htf]
                have HNE := Lib.hid htf
                clear htf
                by_cases h0 : m5 = 0
                · subst h0
                  have HT0 := Lib.hid (show t.num = 0 by rw [snum_len, ← HM5.out])
                  have c0 := HCB7.out.cell 0
                  have c1 := HCB7.out.cell 1
                  have c2 := HCB7.out.cell 2
                  have c3 := HCB7.out.cell 3
                  have cl := HCB7.out.lt
                  go_wp2_with (fail)
                  first | (refine calls_named ?_; intro W8 hW8) | (refine body_named ?_; intro W8 hW8) | (refine wpList_named ?_; intro W8 hW8) | (refine wp_named ?_; intro W8 hW8)
                  have hb8 : Below w7.heap.size w7 W8 := by rw [← hW8]; exact (Below.refl _ _).alloc (Nat.le_refl _) _
                  have hn8 : Blk W8 w7.heap.size 24 #[.int .i64 y.k, .int .i64 y.v, .int .i64 y.n, .slice At mt dt] := by rw [← hW8]; exact Blk.new _ _ _
                  clear hW8 c0 c1 c2 c3
                  have HB8 := Lib.hid (HB7.out.trans (hb8.mono HB7.out.size))
                  have HBr8 := Lib.hid (HBr7.out.trans (hb8.mono HBr7.out.size))
                  have HCB8 := Lib.hid (HCB7.out.below hb8 cl)
                  have HR68 := Lib.hid (HR67.out.below hb8)
                  have hz8 := hb8.size
                  have HRN := Lib.hid (show RepH (fun k => S2 S w.heap.size A' nn c' k ∨ k = w3.heap.size) W8 (cnot y).ps (some ⟨w7.heap.size, 0, none⟩) 1 1 from ⟨[.int .i64 y.k, .int .i64 y.v, .int .i64 y.n, .slice At mt dt], own_rd (own_of_blk2 (base := 0) (m := 1) hn8 rfl (Nat.zero_le _) (by omega)), fun _ p hp hs => by
                    injection hp with hp
                    have h1 := (HS4.out _ hs).1
                    rw [← hp] at h1
                    simp only at h1
                    omega, RepF.one1 (x := y) ((HRT7.out.below hb8).sub fun k hk => by
                      rcases hk with hk | rfl
                      · exact .inl hk
                      · exact .inr (Nat.le_refl _))⟩)
                  have HCN := Lib.hid (show (cnot y).ps.cnt ≤ 999999 by
                    have h1 := (tidy_ok HZ0.out).2.2.1
                    rw [← HTY.out] at h1
                    have h2 : (CF.one y .nil).cnt ≤ 256 := (tcond_ok h1).2.1
                    have h3 : (cnot y).ps.cnt = (CF.one y .nil).cnt := rfl
                    omega)
                  clear hb8 hn8 cl
                  obtain ⟨⟨y2, z2⟩, hyz2⟩ : ∃ q, q = tidy (cnot y) := ⟨_, rfl⟩
                  refine (tidy_any (S := (fun k => S2 S w.heap.size A' nn c' k ∨ k = w3.heap.size)) (c := cnot y) (fun k hk => by have := (HS4.out k hk).1; omega) HRN.out HCN.out).mono ?_
                  rw [← hyz2]
                  have HTZ := Lib.hid (show tidy (cnot (tidy x.c).1) = (y2, z2) by rw [← HTY.out]; exact hyz2.symm)
                  clear hyz2
                  rintro e w9 ⟨hb9, Ad, md, dd, rfl, hrd⟩
                  have HB9 := Lib.hid (HB8.out.trans (hb9.mono HB8.out.size))
                  have HBr9 := Lib.hid (HBr8.out.trans (hb9.mono HBr8.out.size))
                  have HCB9 := Lib.hid (HCB8.out.below hb9 HCB8.out.lt)
                  have HR69 := Lib.hid (HR68.out.below hb9)
                  have HRD := Lib.hid hrd
                  clear hb9 hrd
                  unfold cV
                  dsimp only [vi]
                  have c0 := HCB9.out.cell 0
                  have c1 := HCB9.out.cell 1
                  have c2 := HCB9.out.cell 2
                  have c3 := HCB9.out.cell 3
                  have f0 := HCB9.out.frozen 0
                  have f1 := HCB9.out.frozen 1
                  have f2 := HCB9.out.frozen 2
                  have f3 := HCB9.out.frozen 3
                  have cl := HCB9.out.lt
                  by_cases hz2 : z2 = 0
                  · subst hz2
                    have HST := Lib.hid (FlatAt.step HFA.out (stepF_not HK.out HZ0.out HTH.out HEL.out HNE.out HT0.out (by rw [HTZ.out])))
                    rw [HTZ.out] at HST
                    go_wp2_with (with_reducible refine at_op (Op.load 24 (.tmp 8)) rfl ?_; refine Hid.out ?_)
                    refine Lib.hid ?_
                    first | (refine calls_named ?_; intro W10 hW10) | (refine body_named ?_; intro W10 hW10) | (refine wpList_named ?_; intro W10 hW10) | (refine wp_named ?_; intro W10 hW10)
                    have hO10 : Only (· = w3.heap.size) w9 W10 := by rw [← hW10]; exact HCB9.out.set4.2
                    have hc10 : Blk W10 w3.heap.size 24 #[.int .i64 y2.k, .int .i64 y2.v, .int .i64 y2.n, .slice Ad md dd] := by rw [← hW10]; exact HCB9.out.set4.1
                    clear hW10 c0 c1 c2 c3 f0 f1 f2 f3 cl
                    have HB10 := Lib.hid (hO10.below HB9.out HB9.out.size (fun q hq => by rw [show q = w3.heap.size from hq]; exact HB3.out.size))
                    have HBr10 := Lib.hid (hO10.below HBr9.out HBr9.out.size (fun q hq => by rw [show q = w3.heap.size from hq]; exact HBr3.out.size))
                    have HR610 := Lib.hid (HR69.out.only hO10 (fun k hk => .inr hk))
                    have HRD10 := Lib.hid (HRD.out.only hO10 (fun k hk => .inr hk))
                    have c0 := hc10.cell 0
                    have c1 := hc10.cell 1
                    have c2 := hc10.cell 2
                    have c3 := hc10.cell 3
                    have cl := hc10.lt
                    clear hO10 hc10
                    go_wp2_with (at_builtin; refine Hid.out ?_)
                    refine Lib.hid ?_
                    clear c0 c1 c2 c3 cl
                    have hba : Below W10.heap.size W10 (W10.alloc (.cells #[.int .i64 2, .int .i64 0, .int .i64 y2.k, .int .i64 y2.v, .int .i64 y2.n, .slice Ad md dd, .slice A6 m6 d6, .slice none 0 0] 56)) := (Below.refl _ _).alloc (Nat.le_refl _) _
                    have HBW := Lib.hid (HB10.out.trans (hba.mono HB10.out.size))
                    have hbt : Below wo.heap.size wo (W10.alloc (.cells #[.int .i64 2, .int .i64 0, .int .i64 y2.k, .int .i64 y2.v, .int .i64 y2.n, .slice Ad md dd, .slice A6 m6 d6, .slice none 0 0] 56)) := HBr10.out.trans (hba.mono HBr10.out.size)
                    have hssb := HSS.out.below hbt
                    obtain ⟨zs, hrow, hrep⟩ := hssb.row
                    have hnn : nn ≤ 900000 := by have := HN2.out; have := HZ.out; omega
                    have hzz := HBr10.out.size
                    have hw11 := HW1.out
                    refine wpList_push_apart elemStep2 rfl (.tmp 101) (.tmp 106) rfl w1.heap.size A' nn c' zs rfl hrow W10.heap.size rfl [.int .i64 2, .int .i64 0, .int .i64 y2.k, .int .i64 y2.v, .int .i64 y2.n, .slice Ad md dd, .slice A6 m6 d6, .slice none 0 0] rfl (new_cells _ _ _) (by intro u hu; simp at hu; rcases hu with rfl | rfl | rfl | rfl | rfl | rfl | rfl | rfl <;> rfl) (by omega) (by omega) (by simp only [World.size_alloc]; omega) ?_
                    intro A9 c9 w11 hown11 hb11 hg11 hap11
                    have hnews : RepS (S2 S w.heap.size A' nn c') (W10.alloc (.cells #[.int .i64 2, .int .i64 0, .int .i64 y2.k, .int .i64 y2.v, .int .i64 y2.n, .slice Ad md dd, .slice A6 m6 d6, .slice none 0 0] 56)) (SF.one 2 0 y2 f .nil .nil) [.int .i64 2, .int .i64 0, .int .i64 y2.k, .int .i64 y2.v, .int .i64 y2.n, .slice Ad md dd, .slice A6 m6 d6, .slice none 0 0] := RepS.st (x := ⟨2, 0, y2, f, .nil⟩) ((HRD10.out.below hba).sub fun k hk => .inl hk) ((HR610.out.below hba).sub fun k hk => .inl hk) RepT.nil
                    have HSS11 := Lib.hid (SSt.push (M := SF.one 2 0 y2 f .nil .nil) hssb hrep hnews rfl hg11 hown11 hap11)
                    have HKN11 := Lib.hid (show KN w11 w.heap.size n' kn' from MK.block (KN.below HKN.out hbt) (hb11.block _ HM0.out))
                    have HB11 := Lib.hid (HBW.out.grown hg11 HBW.out.size (fun k hk => by have := HSS.out.own_lt _ hk; have := HB1.out.size; omega))
                    have hz11 := hb11.size
                    have HZ11 := Lib.hid (show w1.heap.size ≤ w11.heap.size by simp only [World.size_alloc] at hz11; omega)
                    clear hba hbt hssb hrow hrep hnews hown11 hb11 hg11 hap11
                    go_wp2_with (fail)
                    go_roundw
                    case rel => exact ⟨i + 1, nn + 1, A9, c9, hlt, by go_num, rfl, ⟨⟨_, _, _, HST.out, HSS11.out, HKN11.out, by have := HN1.out; omega, by have := HN2.out; omega⟩, HB11.out, HZ11.out⟩⟩
                    case measure => simp [intOf]; omega
                  · have HRR := Lib.hid (show r = .error z2 by
                      rw [← HE.out]
                      have h := FlatAt.stop HFA.out (stepF_e4 HK.out HZ0.out HTH.out HEL.out HNE.out HT0.out (by rw [HTZ.out]; exact hz2))
                      rw [HTZ.out] at h
                      exact h)
                    have hzb : (z2 != 0) = true := bne_iff_ne.2 hz2
                    clear hz2
                    go_wp2_with (fail)
                    first | (refine calls_named ?_; intro W10 hW10) | (refine body_named ?_; intro W10 hW10) | (refine wpList_named ?_; intro W10 hW10) | (refine wp_named ?_; intro W10 hW10)
                    have hO10 : Only (· = w3.heap.size) w9 W10 := by rw [← hW10]; exact HCB9.out.set4.2
                    clear hW10 c0 c1 c2 c3 f0 f1 f2 f3 cl
                    have HB10 := Lib.hid (hO10.below HB9.out HB9.out.size (fun q hq => by rw [show q = w3.heap.size from hq]; exact HB3.out.size))
                    go_ret2
                    refine ⟨HB10.out, ?_⟩
                    rw [HRR.out]
                    rfl
                · have HT0 := Lib.hid (show t.num ≠ 0 by rw [snum_len, ← HM5.out]; exact h0)
                  have HST := Lib.hid (FlatAt.step HFA.out (stepF_if HK.out HZ0.out HTH.out HEL.out HNE.out HT0.out))
                  rw [← HTY.out] at HST
                  have hm5 : ((m5 : Int) == 0) = false := by simpa using h0
                  have c0 := HCB7.out.cell 0
                  have c1 := HCB7.out.cell 1
                  have c2 := HCB7.out.cell 2
                  have c3 := HCB7.out.cell 3
                  have cl := HCB7.out.lt
                  clear h0
                  go_wp2_with (at_builtin; refine Hid.out ?_)
                  refine Lib.hid ?_
                  clear c0 c1 c2 c3 cl
                  have hba : Below w7.heap.size w7 (w7.alloc (.cells #[.int .i64 2, .int .i64 0, .int .i64 y.k, .int .i64 y.v, .int .i64 y.n, .slice At mt dt, .slice A5 m5 d5, .slice A6 m6 d6] 56)) := (Below.refl _ _).alloc (Nat.le_refl _) _
                  have HBW := Lib.hid (HB7.out.trans (hba.mono HB7.out.size))
                  have hbt : Below wo.heap.size wo (w7.alloc (.cells #[.int .i64 2, .int .i64 0, .int .i64 y.k, .int .i64 y.v, .int .i64 y.n, .slice At mt dt, .slice A5 m5 d5, .slice A6 m6 d6] 56)) := HBr7.out.trans (hba.mono HBr7.out.size)
                  have hssb := HSS.out.below hbt
                  obtain ⟨zs, hrow, hrep⟩ := hssb.row
                  have hnn : nn ≤ 900000 := by have := HN2.out; have := HZ.out; omega
                  have hzz := HBr7.out.size
                  have hw11 := HW1.out
                  refine wpList_push_apart elemStep2 rfl (.tmp 101) (.tmp 106) rfl w1.heap.size A' nn c' zs rfl hrow w7.heap.size rfl [.int .i64 2, .int .i64 0, .int .i64 y.k, .int .i64 y.v, .int .i64 y.n, .slice At mt dt, .slice A5 m5 d5, .slice A6 m6 d6] rfl (new_cells _ _ _) (by intro u hu; simp at hu; rcases hu with rfl | rfl | rfl | rfl | rfl | rfl | rfl | rfl <;> rfl) (by omega) (by omega) (by simp only [World.size_alloc]; omega) ?_
                  intro A9 c9 w11 hown11 hb11 hg11 hap11
                  have hnews : RepS (S2 S w.heap.size A' nn c') (w7.alloc (.cells #[.int .i64 2, .int .i64 0, .int .i64 y.k, .int .i64 y.v, .int .i64 y.n, .slice At mt dt, .slice A5 m5 d5, .slice A6 m6 d6] 56)) (SF.one 2 0 y t f .nil) [.int .i64 2, .int .i64 0, .int .i64 y.k, .int .i64 y.v, .int .i64 y.n, .slice At mt dt, .slice A5 m5 d5, .slice A6 m6 d6] := RepS.st (x := ⟨2, 0, y, t, f⟩) ((HRT7.out.below hba).sub fun k hk => .inl hk) ((HR57.out.below hba).sub fun k hk => .inl hk) ((HR67.out.below hba).sub fun k hk => .inl hk)
                  have HSS11 := Lib.hid (SSt.push (M := SF.one 2 0 y t f .nil) hssb hrep hnews rfl hg11 hown11 hap11)
                  have HKN11 := Lib.hid (show KN w11 w.heap.size n' kn' from MK.block (KN.below HKN.out hbt) (hb11.block _ HM0.out))
                  have HB11 := Lib.hid (HBW.out.grown hg11 HBW.out.size (fun k hk => by have := HSS.out.own_lt _ hk; have := HB1.out.size; omega))
                  have hz11 := hb11.size
                  have HZ11 := Lib.hid (show w1.heap.size ≤ w11.heap.size by simp only [World.size_alloc] at hz11; omega)
                  clear hba hbt hssb hrow hrep hnews hown11 hb11 hg11 hap11
                  go_wp2_with (fail)
                  go_roundw
                  case rel => exact ⟨i + 1, nn + 1, A9, c9, hlt, by go_num, rfl, ⟨⟨_, _, _, HST.out, HSS11.out, HKN11.out, by have := HN1.out; omega, by have := HN2.out; omega⟩, HB11.out, HZ11.out⟩⟩
                  case measure => simp [intOf]; omega
        · have HRR := Lib.hid (show r = .error z by
            rw [← HE.out]
            have h := FlatAt.stop HFA.out (stepF_e1 HK.out (show (tidy x.c).2 ≠ 0 by rw [← HTY.out]; exact hz0))
            rw [← HTY.out] at h
            exact h)
          have hzb : (z != 0) = true := bne_iff_ne.2 hz0
          clear hz0
          go_wp2_with (fail)
          first | (refine calls_named ?_; intro W4 hW4) | (refine body_named ?_; intro W4 hW4) | (refine wpList_named ?_; intro W4 hW4) | (refine wp_named ?_; intro W4 hW4)
          have hb4 : Below w3.heap.size w3 W4 := by rw [← hW4]; exact (Below.refl _ _).alloc (Nat.le_refl _) _
          clear hW4
          have HB4 := Lib.hid (HB3.out.trans (hb4.mono HB3.out.size))
          clear hb4
          go_ret2
          refine ⟨HB4.out, ?_⟩
          rw [HRR.out]
          rfl
    · obtain rfl : i = m := by omega
      have hii : ¬ (i : Int) < (i : Int) := by omega
      have HRR := Lib.hid (show r = .ok G by
        rw [List.drop_eq_nil_of_le (by rw [← HL.out]; omega)] at hfa
        rw [← HE.out]
        exact hfa.end_)
      have HRT := Lib.hid ((hss.rep (fun k hk => by
        rcases hk with hk | rfl
        · exact Nat.lt_of_lt_of_le (HS.out k hk) HB1.out.size
        · exact HM0.out)).sub (S' := S) fun k hk => .inl hk)
      clear hfa hss hkn
      go_wp2_with (fail)
      go_ret2
      refine ⟨HB.out, ?_⟩
      rw [HRR.out]
      exact ⟨_, _, _, rfl, HRT.out⟩
theorem flat_all : ∀ N, FLAT N
  | 0 => fun _ _ _ _ _ _ _ _ _ h => absurd h (by omega)
  | N + 1 => flat_of N (flat_all N)
/-- What Flat answers. -/
def FOPost (S : Nat → Prop) (w : World) (r : SF × Int) (e : Ending) (w' : World) : Prop :=
  Below w.heap.size w w' ∧ ∃ A m d, e = .returned (.tuple #[.slice A m d, .int .i64 r.2]) ∧ RepT S w' r.1 A m d
theorem torder_zeroF {l : SF} (h : torder l = 0) : l.okB = true ∧ l.num ≠ 0 := by
  unfold torder at h
  split at h
  · omega
  · split at h
    · omega
    · next h2 => exact ⟨by cases hl : l.okB <;> simp_all, fun e => h2 (.inl e)⟩
set_option maxHeartbeats 4000000 in
set_option maxRecDepth 100000 in
theorem flatO_any {S : Nat → Prop} {w : World} {F : SF} {A : Option Addr} {m d : Nat} (hS : ∀ k, S k → k < w.heap.size) (h : RepT S w F A m d) (hz : F.sz ≤ 900000) :
    Calls Tryz.prog 22 #[.slice A m d] w (FOPost S w (flatO F)) := by
  have HS := Lib.hid hS
  have HR := Lib.hid h
  have HZ := Lib.hid hz
  have HF := Lib.hid (show flatO F = if torder F ≠ 0 then (.nil, torder F) else match flat [] F with | .ok x => (x, 0) | .error e => (.nil, e) from rfl)
  generalize flatO F = r at HF ⊢
  have HO := Lib.hid (torder_any S F A m d w h (by omega))
  clear hS h hz
  go_enter Tryz.func22, Tryz.ntmps22
  go_wp2_with (fail)
  refine HO.out.mono ?_
  rintro e w1 ⟨rfl, hb1⟩
  have HB1 := Lib.hid hb1
  clear hb1 HO
  by_cases h0 : torder F = 0
  · have HOK := Lib.hid (torder_zeroF h0)
    have HF2 := Lib.hid (HF.out.trans (if_neg (Classical.not_not.2 h0)))
    rw [h0]
    clear HF h0
    go_wp2_with (fail)
    refine (flat_all (F.sz + 1) S F A m d (.map none) 0 [] w1 (Nat.lt_succ_self _) HOK.out.1 (by have := HZ.out; omega) (fun k hk => Nat.lt_of_lt_of_le (HS.out k hk) HB1.out.size) (HR.out.below HB1.out) (.inl ⟨rfl, rfl⟩)).mono ?_
    cases hf : flat [] F with
    | error e =>
      have HRR := Lib.hid (show r = (.nil, e) by rw [HF2.out, hf])
      clear hf HF2
      rintro e' w2 ⟨hb2, rfl⟩
      have HB2 := Lib.hid (HB1.out.trans (hb2.mono HB1.out.size))
      clear hb2
      go_wp2_with (fail)
      go_ret2
      refine ⟨HB2.out, none, 0, 0, ?_⟩
      rw [HRR.out]
      exact ⟨rfl, RepT.nil⟩
    | ok G =>
      have HRR := Lib.hid (show r = (G, 0) by rw [HF2.out, hf])
      clear hf HF2
      rintro e' w2 ⟨hb2, A2, m2, d2, rfl, hr2⟩
      have HB2 := Lib.hid (HB1.out.trans (hb2.mono HB1.out.size))
      have HR2 := Lib.hid hr2
      clear hb2 hr2
      go_wp2_with (fail)
      go_ret2
      refine ⟨HB2.out, A2, m2, d2, ?_⟩
      rw [HRR.out]
      exact ⟨rfl, HR2.out⟩
  · have HF2 := Lib.hid (HF.out.trans (if_pos h0))
    have hb : (torder F != 0) = true := bne_iff_ne.2 h0
    clear HF h0
    generalize torder F = z at hb HF2 ⊢
    go_wp2_with (fail)
    go_ret2
    refine ⟨HB1.out, none, 0, 0, ?_⟩
    rw [HF2.out]
    exact ⟨rfl, RepT.nil⟩
end Go.Proofs.YticpjdjdimpglaaGreatDoor
