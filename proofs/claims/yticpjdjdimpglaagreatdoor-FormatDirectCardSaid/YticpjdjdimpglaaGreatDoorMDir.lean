/- typing's Direct, its closure, slices.Contains at ints, by their contracts. -/
import Derived.Test.YticpjdjdimpglaaGreatDoorMHld
import Derived.Test.YticpjdjdimpglaaGreatDoorMTRow
import Derived.Test.YticpjdjdimpglaaGreatDoorMCmp2
import Derived.Test.YticpjdjdimpglaaGreatDoorMSam
import Derived.Test.YticpjdjdimpglaaGreatDoorMTidA
namespace Go.Proofs.YticpjdjdimpglaaGreatDoor
set_option linter.unusedVariables false
set_option linter.unusedSimpArgs false
open Go.RowKit

theorem elemI : Elem Tryz.prog 57 3 1 8 := Elem.mk' Tryz.underlying57 (z := .int .i64 0) (by kernel_rfl) rfl (by omega)
set_option maxHeartbeats 4000000 in
set_option maxRecDepth 100000 in
theorem sidx_any (l : List Int) (y : Int) (A : Option Addr) (m c : Nat) (w : World) (h : Rd w w.heap.size 1 A m c (l.map vi)) :
    Calls Tryz.prog 127 #[.slice A m c, .int .i64 y] w fun e w' => (∃ n : Int, e = .returned (.int .i64 n) ∧ decide (n ≥ 0) = l.contains y) ∧ Below w.heap.size w w' := by
  have HR := Lib.hid h
  have HL := Lib.hid (show m = l.length by have := h.len; simpa using this.symm)
  have hcap := h.cap
  have hbig := h.big
  clear h
  go_enter Tryz.func127, Tryz.ntmps127
  go_wp2_with (fail)
  go_loopw [8] (fun s wr => ∃ i : Nat, i ≤ m ∧ s = .int .i64 i ∧ Hid (Below w.heap.size w wr) ∧ Hid ((l.take i).contains y = false)) (fun s _ => m - (intOf s).toNat)
  case atStart => exact ⟨0, Nat.zero_le _, rfl, Below.refl _ _, by simp [Hid]⟩
  case round =>
    obtain ⟨i, him, rfl, HB, HA⟩ := hrel
    by_cases hlt : i < m
    · obtain ⟨b, off, rfl, hb, hc⟩ := HR.out.cells (by omega)
      have hil : i < l.length := by rw [← HL.out]; exact hlt
      have h0 := hc i (.int .i64 l[i]) (by rw [List.getElem?_map, List.getElem?_eq_getElem hil]; rfl)
      rw [← HB.out.cell (p := ⟨b, _, none⟩) hb] at h0
      have HT := Lib.hid (show l.take (i + 1) = l.take i ++ [l[i]] by rw [List.take_succ_eq_append_getElem hil])
      have HM := Lib.hid (List.getElem_mem hil)
      generalize l[i] = z at *
      clear hc hil
      have hbl : b < wr.heap.size := Nat.lt_of_lt_of_le hb HB.out.size
      have hi2 : (i : Int) < (m : Int) := by omega
      by_cases hy : y = z
      · subst hy
        have HA1 := Lib.hid (show l.contains y = true by rw [List.contains_iff_mem]; exact HM.out)
        go_wp2_with (fail)
        go_ret
        exact ⟨⟨i, rfl, by rw [HA1.out]; simp⟩, HB.out⟩
      · have hyb : (y == z) = false := by simpa using hy
        have HA1 := Lib.hid (show (l.take (i + 1)).contains y = false by
          rw [HT.out]
          have h1 := HA.out
          simp only [List.contains_eq_any_beq, List.any_append, List.any_cons, List.any_nil, Bool.or_false] at h1 ⊢
          rw [h1, hyb]
          rfl)
        clear hy
        go_wp2_with (fail)
        go_roundw
        case rel => exact ⟨i + 1, hlt, by go_num, HB.out, HA1.out⟩
        case measure => simp [intOf]; omega
    · have HA1 := Lib.hid (show l.contains y = false by
        have h1 := HA.out
        rw [List.take_of_length_le (by rw [← HL.out]; omega)] at h1
        exact h1)
      go_wp2_with (fail)
      go_ret
      exact ⟨⟨-1, rfl, by rw [HA1.out]; rfl⟩, HB.out⟩
set_option maxHeartbeats 4000000 in
set_option maxRecDepth 100000 in
theorem scontains_any (l : List Int) (y : Int) (A : Option Addr) (m c : Nat) (w : World) (h : Rd w w.heap.size 1 A m c (l.map vi)) :
    Calls Tryz.prog 75 #[.slice A m c, .int .i64 y] w fun e w' => e = .returned (.bool (l.contains y)) ∧ Below w.heap.size w w' := by
  have HC := Lib.hid (sidx_any l y A m c w h)
  clear h
  go_enter Tryz.func75, Tryz.ntmps75
  go_wp2_with (fail)
  refine HC.out.mono ?_
  rintro e w1 ⟨⟨n, rfl, hn⟩, hb⟩
  have HB := Lib.hid hb
  have HN := Lib.hid hn
  clear hb hn
  go_wp2
  go_ret
  exact ⟨congrArg (fun b => Ending.returned (Value.bool b)) HN.out, HB.out⟩
theorem sofL_app (l m : List ST) : SF.ofL (l ++ m) = (SF.ofL l).appF (SF.ofL m) := by
  induction l with
  | nil => rfl
  | cons x l ih => rw [List.cons_append, SF.ofL, SF.ofL, ih]; rfl
theorem apl_take (e : Int → Int) {l : List ST} {i : Nat} {x : ST} (h : l[i]? = some x) (bs : List Int) : apl e (SF.ofL (l.take (i + 1))) bs = apl e x.one (apl e (SF.ofL (l.take i)) bs) := by
  rw [List.take_add_one, h]
  show apl e (SF.ofL (l.take i ++ [x])) bs = _
  rw [sofL_app, apl_app]
  rfl
theorem apl_one (e : Int → Int) (x : ST) (bs : List Int) : apl e x.one bs = if x.k = 2 then (if ev e x.c then apl e x.th bs else apl e x.el bs) else if bs.contains x.b then bs else bs ++ [x.b] := by
  obtain ⟨k, b, c, th, el⟩ := x
  rfl
theorem apl_len (e : Int → Int) : ∀ (F : SF) (bs : List Int), (apl e F bs).length ≤ bs.length + F.sz
  | .nil, bs => Nat.le_refl _
  | .cons k b ck cv cn cps th el r, bs => by
    rw [apl_cons, SF.sz]
    refine Nat.le_trans (apl_len e r _) ?_
    have h1 := apl_len e th bs
    have h2 := apl_len e el bs
    split
    · split <;> omega
    · split
      · omega
      · simp only [List.length_append, List.length_cons, List.length_nil]; omega
/-- The state of the closure of Direct: what lies in the boxes. -/
structure DST (w0 : World) (base q u v : Nat) (t r f c : Int) (w : World) (bs : List Int) : Prop where
  hb : Below w0.heap.size w0 w
  hq : Blk w q 49 #[.int .i64 t, .int .i64 r, .int .i64 f, .int .i64 c]
  hu : Blk w u 90 #[.func (.func 74) #[] #[.pointer (some ⟨q, 0, none⟩), .pointer (some ⟨u, 0, none⟩), .pointer (some ⟨v, 0, none⟩)]]
  hv : ∃ (B : Option Addr) (c' : Nat), Blk w v 57 #[.slice B bs.length c'] ∧ w.ownsRow base 3 1 (.slice B bs.length c') bs.length (bs.map vi)
  hs : base ≤ w.heap.size
  lo : w0.heap.size ≤ q ∧ w0.heap.size ≤ u ∧ w0.heap.size ≤ v
  hi : q < base ∧ u < base ∧ v < base
  ne : q ≠ v ∧ u ≠ v
section
variable {w0 : World} {base q u v : Nat} {t r f c : Int} {w w' : World} {bs : List Int}
theorem DST.below (h : DST w0 base q u v t r f c w bs) (hb : Below w.heap.size w w') : DST w0 base q u v t r f c w' bs := by
  obtain ⟨B, c', h1, h2⟩ := h.hv
  exact ⟨h.hb.trans (hb.mono h.hb.size), h.hq.below hb h.hq.lt, h.hu.below hb h.hu.lt, ⟨B, c', h1.below hb h1.lt, own_below_all h2 hb⟩, Nat.le_trans h.hs hb.size, h.lo, h.hi, h.ne⟩
end
/-- The contract of the closure for steps of a size. -/
def APL (N : Nat) : Prop := ∀ (S : Nat → Prop) (w0 : World) (base q u v : Nat) (t r f c : Int) (F : SF) (A : Option Addr) (m d : Nat) (w : World) (bs : List Int), F.sz < N → F.okB = true → bs.length + F.sz ≤ 900000 → RepT S w0 F A m d → DST w0 base q u v t r f c w bs →
  Calls Tryz.prog 74 #[.slice A m d, .pointer (some ⟨q, 0, none⟩), .pointer (some ⟨u, 0, none⟩), .pointer (some ⟨v, 0, none⟩)] w fun e w' => e = .returned (.tuple #[]) ∧ DST w0 base q u v t r f c w' (apl (envV t r f c) F bs)
theorem sumF_le {F : SF} {i : Nat} {x : ST} (hx : F.toL[i]? = some x) : (SF.ofL (F.toL.take i)).sz + (x.c.ps.cnt + 2 + x.th.sz + x.el.sz) ≤ F.sz := by
  have key : ∀ (l : List ST) (i : Nat) (x : ST), l[i]? = some x → szL (l.take i) + (x.c.ps.cnt + 2 + x.th.sz + x.el.sz) ≤ szL l := by
    intro l
    induction l with
    | nil => intro i x h; simp at h
    | cons y l ih =>
      intro i x h
      cases i with
      | zero =>
        injection h with h
        subst h
        rw [List.take_zero, szL_cons]
        show 0 + _ ≤ _
        omega
      | succ i =>
        have := ih i x h
        rw [List.take_succ_cons, szL_cons, szL_cons]
        omega
  have := key F.toL i x hx
  rw [szL_toL] at this
  exact this
set_option maxHeartbeats 8000000 in
set_option maxRecDepth 100000 in
theorem apl_of (N : Nat) (ih : APL N) : APL (N + 1) := by
  intro S w0 base q u v t r f c F A m d w bs hN hok hz h hst
  have HI := Lib.hid ih
  have HR := Lib.hid h
  have HN := Lib.hid hN
  have HZ := Lib.hid hz
  have HOK := Lib.hid (fun x (hx : x ∈ F.toL) => okS_of hok hx)
  have HL := Lib.hid (h.len.trans (stoL_len F).symm)
  have HSZ := Lib.hid (show ∀ x ∈ F.toL, x.th.sz + x.el.sz + 2 ≤ F.sz from fun x hx => ssz_memF hx)
  have hcap := h.choose_spec.1.cap
  have hbig := h.choose_spec.1.big
  have HS := Lib.hid hst
  clear ih h hN hz hok hst
  go_enter Tryz.func74, Tryz.ntmps74
  go_wp2_with (fail)
  go_loopw [9] (fun s wr => ∃ i : Nat, i ≤ m ∧ s = .int .i64 i ∧ Hid (DST w0 base q u v t r f c wr (apl (envV t r f c) (SF.ofL (F.toL.take i)) bs))) (fun s _ => m - (intOf s).toNat)
  case atStart => exact ⟨0, Nat.zero_le _, rfl, HS.out⟩
  case round =>
    obtain ⟨i, him, rfl, HD⟩ := hrel
    by_cases hlt : i < m
    · obtain ⟨b, off, x, Bc, nc, ec, B1, n1, e1, B2, n2, e2, rfl, hb, hSb, hx, ⟨g0, g1, g2, g3, g4, g5, g6, g7⟩, k1, k2, k3⟩ := HR.out.elem hlt
      rw [← HD.out.hb.cell (p := ⟨b, _, none⟩) hb] at g0 g1 g2 g3 g4 g5 g6 g7
      have hbl : b < wr.heap.size := Nat.lt_of_lt_of_le hb HD.out.hb.size
      have HAT := Lib.hid (apl_take (envV t r f c) hx bs)
      rw [apl_one] at HAT
      have HLN := Lib.hid (show (apl (envV t r f c) (SF.ofL (F.toL.take i)) bs).length + (x.c.ps.cnt + 2 + x.th.sz + x.el.sz) ≤ 900000 by
        have h1 := apl_len (envV t r f c) (SF.ofL (F.toL.take i)) bs
        have h2 := sumF_le hx
        have := HZ.out
        omega)
      have hmem := (drop_mem hx).2
      have HOX := Lib.hid (HOK.out x hmem)
      have HXZ := Lib.hid (HSZ.out x hmem)
      have HC1 := Lib.hid k1
      have HC2 := Lib.hid k2
      have HC3 := Lib.hid k3
      clear hx k1 k2 k3 hSb hmem
      have hi2 : (i : Int) < (m : Int) := by omega
      generalize apl (envV t r f c) (SF.ofL (F.toL.take i)) bs = cs at HD HAT HLN
      have q0 := HD.out.hq.cell 0
      have q1 := HD.out.hq.cell 1
      have q2 := HD.out.hq.cell 2
      have q3 := HD.out.hq.cell 3
      have ql := HD.out.hq.lt
      by_cases hk : x.k = 2
      · have hkb : (x.k == 2) = true := by rw [hk]; rfl
        have HOV := Lib.hid (show okC x.c = true ∧ x.th.okB = true ∧ x.el.okB = true by
          rcases HOX.out with h | h
          · have := h.1; omega
          · exact h.2)
        rw [if_pos hk] at HAT
        clear hk
        go_wp2_with (fail)
        first | (refine calls_named ?_; intro W2 hW) | (refine body_named ?_; intro W2 hW) | (refine wpList_named ?_; intro W2 hW) | (refine wp_named ?_; intro W2 hW)
        have hb2 : Below wr.heap.size wr W2 := by rw [← hW]; exact (Below.refl _ _).alloc (Nat.le_refl _) _
        have hx2 : Blk W2 wr.heap.size 56 #[.int .i64 x.k, .int .i64 x.b, .int .i64 x.c.k, .int .i64 x.c.v, .int .i64 x.c.n, .slice Bc nc ec, .slice B1 n1 e1, .slice B2 n2 e2] := by rw [← hW]; exact Blk.new wr _ _
        clear hW g0 g1 g2 g3 g4 g5 g6 g7 q0 q1 q2 q3 ql
        have HD2 := Lib.hid (HD.out.below hb2)
        have HX2 := Lib.hid hx2
        clear hb2 hx2 HD
        refine (hld_all (x.c.ps.cnt + 1) S x.c Bc nc ec t r f c W2 (Nat.lt_succ_self _) HOV.out.1 (HC1.out.below HD2.out.hb)).mono ?_
        rintro e w3 ⟨rfl, hb3⟩
        have HD3 := Lib.hid (HD2.out.below hb3)
        have HX3 := Lib.hid (HX2.out.below hb3 HX2.out.lt)
        clear hb3 HD2 HX2
        have u0 := HD3.out.hu.cell 0
        have ul := HD3.out.hu.lt
        have xl := HX3.out.lt
        cases hv : ev (envV t r f c) x.c
        · rw [hv, if_neg (by decide)] at HAT
          clear hv
          have x0 := HX3.out.cell 0
          have x7 := HX3.out.cell 7
          go_wp2_with (fail)
          refine (HI.out S w0 base q u v t r f c x.el B2 n2 e2 w3 cs (by have := HXZ.out; have := HN.out; omega) HOV.out.2.2 (by have := HLN.out; omega) HC3.out HD3.out).mono ?_
          rintro e w4 ⟨rfl, hd4⟩
          have HD4 := Lib.hid hd4
          clear hd4 x0 x7 u0 ul xl
          go_wp2_with (fail)
          go_roundw
          case rel => exact ⟨i + 1, hlt, by go_num, by rw [HAT.out]; exact HD4.out⟩
          case measure => simp [intOf]; omega
        · rw [hv, if_pos rfl] at HAT
          clear hv
          have x6 := HX3.out.cell 6
          go_wp2_with (fail)
          refine (HI.out S w0 base q u v t r f c x.th B1 n1 e1 w3 cs (by have := HXZ.out; have := HN.out; omega) HOV.out.2.1 (by have := HLN.out; omega) HC2.out HD3.out).mono ?_
          rintro e w4 ⟨rfl, hd4⟩
          have HD4 := Lib.hid hd4
          clear hd4 x6 u0 ul xl
          go_wp2_with (fail)
          go_roundw
          case rel => exact ⟨i + 1, hlt, by go_num, by rw [HAT.out]; exact HD4.out⟩
          case measure => simp [intOf]; omega
      · have hkb : (x.k == 2) = false := by simpa using hk
        rw [if_neg hk] at HAT
        obtain ⟨B, c', hvb, hown⟩ := HD.out.hv
        have v0 := hvb.cell 0
        have vl := hvb.lt
        have HVB := Lib.hid hvb
        have HOW := Lib.hid hown
        clear hk hvb hown
        go_wp2_with (fail)
        first | (refine calls_named ?_; intro W2 hW) | (refine body_named ?_; intro W2 hW) | (refine wpList_named ?_; intro W2 hW) | (refine wp_named ?_; intro W2 hW)
        have hb2 : Below wr.heap.size wr W2 := by rw [← hW]; exact (Below.refl _ _).alloc (Nat.le_refl _) _
        have hx2 : Blk W2 wr.heap.size 56 #[.int .i64 x.k, .int .i64 x.b, .int .i64 x.c.k, .int .i64 x.c.v, .int .i64 x.c.n, .slice Bc nc ec, .slice B1 n1 e1, .slice B2 n2 e2] := by rw [← hW]; exact Blk.new wr _ _
        clear hW g0 g1 g2 g3 g4 g5 g6 g7 q0 q1 q2 q3 ql v0 vl
        have HD2 := Lib.hid (HD.out.below hb2)
        have HX2 := Lib.hid hx2
        have HV2 := Lib.hid (HVB.out.below hb2 HVB.out.lt)
        have HO2 := Lib.hid (own_below_all HOW.out hb2)
        clear hb2 hx2 HD HVB HOW
        refine (scontains_any cs x.b B cs.length c' W2 (own_rd HO2.out)).mono ?_
        rintro e w3 ⟨rfl, hb3⟩
        have HD3 := Lib.hid (HD2.out.below hb3)
        have HX3 := Lib.hid (HX2.out.below hb3 HX2.out.lt)
        have HV3 := Lib.hid (HV2.out.below hb3 HV2.out.lt)
        have HO3 := Lib.hid (own_below_all HO2.out hb3)
        clear hb3 HD2 HX2 HV2 HO2
        cases hcn : cs.contains x.b
        · rw [hcn, if_neg (by decide)] at HAT
          clear hcn
          have v0 := HV3.out.cell 0
          have vl := HV3.out.lt
          have x1 := HX3.out.cell 1
          have xl := HX3.out.lt
          go_wp2_with (at_builtin; refine Hid.out ?_)
          refine Lib.hid ?_
          have hba : Below w3.heap.size w3 (w3.alloc (.cells #[.int .i64 x.b] 3)) := (Below.refl _ _).alloc (Nat.le_refl _) _
          have hln : cs.length ≤ 900000 := by have := HLN.out; omega
          have hs3 := HD3.out.hs
          refine wpList_push_apart elemI rfl (.tmp 41) (.tmp 44) rfl base B cs.length c' (cs.map vi) rfl (own_below_all HO3.out hba) w3.heap.size rfl [.int .i64 x.b] rfl (new_cells _ _ _) (by intro z hz; simp at hz; rw [hz]; rfl) (by omega) (by omega) (by simp only [World.size_alloc]; omega) ?_
          intro A4 c4 w5 hown5 hb5 hg5 hap5
          have hO5 := Only.of_grown (S := fun k => (Value.slice B cs.length c').ownBlock = some k) hg5 (fun k hk => hk)
          have hlt3 := HO3.out.lt
          have hne5 : ∀ k, (Value.slice B cs.length c').ownBlock = some k → base ≤ k := fun k hk => (hlt3 k hk).1
          have HB5 := Lib.hid (HD3.out.hb.trans ((hba.mono HD3.out.hb.size)))
          have HBW := Lib.hid (hO5.below HB5.out HB5.out.size (fun k hk => by have h1 := hne5 k hk; have h2 := HD3.out.hi.1; have h3 := HD3.out.lo.1; omega))
          have HQ5 := Lib.hid ((HD3.out.hq.below hba HD3.out.hq.lt).only hO5 (fun hk => by have h1 := hne5 _ hk; have h2 := HD3.out.hi.1; omega))
          have HU5 := Lib.hid ((HD3.out.hu.below hba HD3.out.hu.lt).only hO5 (fun hk => by have h1 := hne5 _ hk; have h2 := HD3.out.hi.2.1; omega))
          have HV5 := Lib.hid ((HV3.out.below hba HV3.out.lt).only hO5 (fun hk => by have h1 := hne5 _ hk; have h2 := HD3.out.hi.2.2; omega))
          have HO5 := Lib.hid hown5
          have hz5 := hO5.size
          have HZ5 := Lib.hid (show base ≤ w5.heap.size by simp only [World.size_alloc] at hz5; omega)
          clear hba hown5 hb5 hg5 hap5 hO5 hlt3 hne5 v0 vl x1 xl
          have v0 := HV5.out.cell 0
          have vf := HV5.out.frozen 0
          have vl := HV5.out.lt
          go_wp2_with (fail)
          have HDE := Lib.hid (show DST w0 base q u v t r f c (w5.setCell ⟨v, 0, none⟩ (.slice A4 (cs.length + 1) c4)) (cs ++ [x.b]) from
            ⟨HBW.out.setCell (p := ⟨v, 0, none⟩) HD3.out.lo.2.2 _, HQ5.out.off2 HD3.out.ne.1, HU5.out.off2 HD3.out.ne.2, ⟨A4, c4, by
              have h1 := HV5.out.set 0 (.slice A4 (cs.length + 1) c4)
              rw [List.length_append]
              exact h1, by
              have h1 := own_setCell (p := ⟨v, 0, none⟩) HO5.out (fun k hk => by
                have h2 := (HO5.out.lt k hk).1
                have h3 := HD3.out.hi.2.2
                show k ≠ v
                omega) (.slice A4 (cs.length + 1) c4)
              rw [List.length_append, List.map_append]
              exact h1⟩, by rw [World.size_setCell]; exact HZ5.out, HD3.out.lo, HD3.out.hi, HD3.out.ne⟩)
          clear v0 vf vl
          go_roundw
          case rel => exact ⟨i + 1, hlt, by go_num, by rw [HAT.out]; exact HDE.out⟩
          case measure => simp [intOf]; omega
        · rw [hcn, if_pos rfl] at HAT
          clear hcn
          go_wp2_with (fail)
          go_roundw
          case rel => exact ⟨i + 1, hlt, by go_num, by rw [HAT.out]; exact HD3.out⟩
          case measure => simp [intOf]; omega
    · obtain rfl : i = m := by omega
      have hjj : ¬ (i : Int) < (i : Int) := by omega
      have HE := Lib.hid (show DST w0 base q u v t r f c wr (apl (envV t r f c) F bs) by
        have h1 := HD.out
        rw [List.take_of_length_le (by rw [← HL.out]; exact Nat.le_refl _), sofL_toL] at h1
        exact h1)
      go_wp2_with (fail)
      go_end0
      exact ⟨rfl, HE.out⟩
theorem apl_all : ∀ N, APL N
  | 0 => fun _ _ _ _ _ _ _ _ _ _ _ _ _ _ _ _ h => absurd h (by omega)
  | N + 1 => apl_of N (apl_all N)
theorem torder_okB {F : SF} (h : torder F = 0) : F.okB = true := by
  unfold torder at h
  split at h
  · omega
  · split at h
    · omega
    · next h2 => cases hl : F.okB <;> simp_all
/-- Direct's answer. -/
def directO (F : SF) (t r f c : Int) : List Int × Int := if torder F ≠ 0 then ([], torder F) else if envE t r f c ≠ 0 then ([], envE t r f c) else (apl (envV t r f c) F [], 0)
def DPost (w : World) (z : List Int × Int) (e : Ending) (w' : World) : Prop := Below w.heap.size w w' ∧ ∃ B n c', e = .returned (.tuple #[.slice B n c', .int .i64 z.2]) ∧ Rd w' w'.heap.size 1 B n c' (z.1.map vi)
set_option maxHeartbeats 8000000 in
set_option maxRecDepth 100000 in
theorem direct_any (S : Nat → Prop) (F : SF) (A : Option Addr) (m d : Nat) (t r f c : Int) (w : World) (h : RepT S w F A m d) (hz : F.sz ≤ 900000) (hs : SpanIs w) :
    Calls Tryz.prog 29 #[.slice A m d, .agg #[.int .i64 t, .int .i64 r, .int .i64 f, .int .i64 c]] w (DPost w (directO F t r f c)) := by
  have HR := Lib.hid h
  have HZ := Lib.hid hz
  have HT := Lib.hid (fun W (hW : Below w.heap.size w W) => torder_any S F A m d W (h.below hW) (by omega))
  have HV := Lib.hid (fun W (hW : Below w.heap.size w W) => env_any t r f c W (hs.below hW))
  have HO := Lib.hid (show directO F t r f c = if torder F ≠ 0 then ([], torder F) else if envE t r f c ≠ 0 then ([], envE t r f c) else (apl (envV t r f c) F [], 0) from rfl)
  generalize directO F t r f c = z at HO ⊢
  have HK := Lib.hid (torder_okB (F := F))
  generalize envE t r f c = ee at HV HO
  clear h hz hs
  go_enter Tryz.func29, Tryz.ntmps29
  go_wp2_with (fail)
  first | (refine calls_named ?_; intro W hW) | (refine body_named ?_; intro W hW) | (refine wpList_named ?_; intro W hW) | (refine wp_named ?_; intro W hW)
  have hb : Below w.heap.size w W := by rw [← hW]; exact ((Below.refl _ _).alloc (Nat.le_refl _) _).alloc (by simp) _
  have hq : Blk W w.heap.size 49 #[.int .i64 t, .int .i64 r, .int .i64 f, .int .i64 c] := by rw [← hW]; exact (Blk.new w _ _).alloc _
  have hv : Blk W (w.heap.size + 1) 57 #[.slice none 0 0] := by
    rw [← hW, ← World.size_alloc w]
    exact Blk.new _ _ _
  clear hW
  have HB := Lib.hid hb
  have HQ := Lib.hid hq
  have HVB := Lib.hid hv
  clear hb hq hv
  refine (HT.out W HB.out).mono ?_
  rintro e w2 ⟨rfl, hb2⟩
  have HB2 := Lib.hid (HB.out.trans (hb2.mono HB.out.size))
  have HQ2 := Lib.hid (HQ.out.below hb2 HQ.out.lt)
  have HV2 := Lib.hid (HVB.out.below hb2 HVB.out.lt)
  clear hb2 HQ HVB HB
  by_cases h0 : torder F = 0
  · have HO2 := Lib.hid (HO.out.trans (if_neg (Classical.not_not.2 h0)))
    have HOK := Lib.hid (HK.out h0)
    rw [h0]
    clear h0 HO
    have q0 := HQ2.out.cell 0
    have q1 := HQ2.out.cell 1
    have q2 := HQ2.out.cell 2
    have q3 := HQ2.out.cell 3
    have ql := HQ2.out.lt
    go_wp2_with (fail)
    refine (HV.out w2 HB2.out).mono ?_
    rintro e w3 ⟨rfl, hb3⟩
    have HB3 := Lib.hid (HB2.out.trans (hb3.mono HB2.out.size))
    have HQ3 := Lib.hid (HQ2.out.below hb3 HQ2.out.lt)
    have HV3 := Lib.hid (HV2.out.below hb3 HV2.out.lt)
    clear hb3 HQ2 HV2 q0 q1 q2 q3 ql
    by_cases he : ee = 0
    · subst he
      have HO3 := Lib.hid (HO2.out.trans (if_neg (by decide)))
      clear HO2
      go_wp2_with (fail)
      first | (refine calls_named ?_; intro W4 hW) | (refine body_named ?_; intro W4 hW) | (refine wpList_named ?_; intro W4 hW) | (refine wp_named ?_; intro W4 hW)
      have hb4 : Below w3.heap.size w3 W4 := by rw [← hW]; exact (Below.refl _ _).alloc (Nat.le_refl _) _
      have hu4 : Blk W4 w3.heap.size 90 #[.func (.func 74) #[] #[.pointer (some ⟨w.heap.size, 0, none⟩), .pointer (some ⟨w3.heap.size, 0, none⟩), .pointer (some ⟨w.heap.size + 1, 0, none⟩)]] := by rw [← hW]; exact Blk.new _ _ _
      clear hW
      have hv4 := HV3.out.below hb4 HV3.out.lt
      have HDS := Lib.hid (show DST w W4.heap.size w.heap.size w3.heap.size (w.heap.size + 1) t r f c W4 [] from
        ⟨HB3.out.trans (hb4.mono HB3.out.size), HQ3.out.below hb4 HQ3.out.lt, hu4, ⟨none, 0, hv4, World.ownsRow_nil _ _ _ _⟩, Nat.le_refl _, ⟨Nat.le_refl _, HB3.out.size, by omega⟩,
          ⟨(HQ3.out.below hb4 HQ3.out.lt).lt, hu4.lt, hv4.lt⟩, ⟨by omega, by have h1 := HV3.out.lt; omega⟩⟩)
      clear hb4 hu4 hv4 HB3 HQ3 HV3
      refine (apl_all (F.sz + 1) S w W4.heap.size w.heap.size w3.heap.size (w.heap.size + 1) t r f c F A m d W4 [] (Nat.lt_succ_self _) HOK.out (by simp only [List.length_nil]; have := HZ.out; omega) HR.out HDS.out).mono ?_
      rintro e w5 ⟨rfl, hd5⟩
      obtain ⟨B, c', hvb, hown⟩ := hd5.hv
      have HB5 := Lib.hid hd5.hb
      have HVX := Lib.hid hvb
      have HRX := Lib.hid (show ∀ W6, Only (· = w.heap.size + 1) w5 W6 → Rd W6 W6.heap.size 1 B (apl (envV t r f c) F []).length c' ((apl (envV t r f c) F []).map vi) from fun W6 hO => own_rd (own_only hown hO (fun k hk he => by
        have h1 := (hown.lt k hk).1
        have h2 := hd5.hi.2.2
        have h3 : k = w.heap.size + 1 := he
        omega)))
      have HLO := Lib.hid hd5.lo
      clear hd5 hvb hown HDS
      generalize apl (envV t r f c) F [] = l at *
      generalize l.length = n at HVX HRX
      have v0 := HVX.out.cell 0
      have vf := HVX.out.frozen 0
      have vl := HVX.out.lt
      go_wp2_with (fail)
      first | (refine calls_named ?_; intro W6 hW) | (refine body_named ?_; intro W6 hW) | (refine wpList_named ?_; intro W6 hW) | (refine wp_named ?_; intro W6 hW)
      have hv6 : Blk W6 (w.heap.size + 1) 57 #[.slice B n c'] := by rw [← hW]; exact HVX.out.set 0 _
      have hO6 : Only (· = w.heap.size + 1) w5 W6 := by rw [← hW]; exact Only.set (S := (· = w.heap.size + 1)) w5 (p := ⟨w.heap.size + 1, 0, none⟩) rfl _
      clear hW v0 vf vl
      have HB6 := Lib.hid (hO6.below HB5.out HB5.out.size (fun k hk => by have h1 : k = w.heap.size + 1 := hk; omega))
      have HRE := Lib.hid (show Rd W6 W6.heap.size 1 B n c' (l.map vi) from HRX.out W6 hO6)
      have v0 := hv6.cell 0
      refine bodyPost_ret (v := .tuple #[.slice B n c', .int .i64 0]) (by simp [results, Tryz.results29, go_sem, v0]; try rfl) rfl ⟨HB6.out, B, n, c', ?_⟩
      rw [HO3.out]
      exact ⟨rfl, HRE.out⟩
    · have HO3 := Lib.hid (HO2.out.trans (if_pos he))
      have heb : (ee != 0) = true := bne_iff_ne.2 he
      clear HO2 he
      have v0 := HV3.out.cell 0
      have vf := HV3.out.frozen 0
      have vl := HV3.out.lt
      go_wp2_with (fail)
      first | (refine calls_named ?_; intro W4 hW) | (refine body_named ?_; intro W4 hW) | (refine wpList_named ?_; intro W4 hW) | (refine wp_named ?_; intro W4 hW)
      have hv4 : Blk W4 (w.heap.size + 1) 57 #[.slice none 0 0] := by rw [← hW]; exact HV3.out.set 0 _
      have hb4 : Below w.heap.size w W4 := by rw [← hW]; exact HB3.out.setCell (p := ⟨w.heap.size + 1, 0, none⟩) (by simp) _
      clear hW v0 vf vl
      have v0 := hv4.cell 0
      refine bodyPost_ret (v := .tuple #[.slice none 0 0, .int .i64 ee]) (by simp [results, Tryz.results29, go_sem, v0]; try rfl) rfl ⟨hb4, none, 0, 0, ?_⟩
      rw [HO3.out]
      exact ⟨rfl, Rd.nil⟩
  · have HO2 := Lib.hid (HO.out.trans (if_pos h0))
    have h0b : (torder F != 0) = true := bne_iff_ne.2 h0
    generalize torder F = tc at h0b HO2 ⊢
    clear h0 HO
    have v0 := HV2.out.cell 0
    have vf := HV2.out.frozen 0
    have vl := HV2.out.lt
    go_wp2_with (fail)
    first | (refine calls_named ?_; intro W4 hW) | (refine body_named ?_; intro W4 hW) | (refine wpList_named ?_; intro W4 hW) | (refine wp_named ?_; intro W4 hW)
    have hv4 : Blk W4 (w.heap.size + 1) 57 #[.slice none 0 0] := by rw [← hW]; exact HV2.out.set 0 _
    have hb4 : Below w.heap.size w W4 := by rw [← hW]; exact HB2.out.setCell (p := ⟨w.heap.size + 1, 0, none⟩) (by simp) _
    clear hW v0 vf vl
    have v0 := hv4.cell 0
    refine bodyPost_ret (v := .tuple #[.slice none 0 0, .int .i64 tc]) (by simp [results, Tryz.results29, go_sem, v0]; try rfl) rfl ⟨hb4, none, 0, 0, ?_⟩
    rw [HO2.out]
    exact ⟨rfl, Rd.nil⟩
end Go.Proofs.YticpjdjdimpglaaGreatDoor
