/- The parser's Rules and Condition by their contracts (printed by wip/bin/genwhole.py). -/
import Derived.Test.YticpjdjdimpglaaGreatDoorCFpaMYAtt2
import Derived.Test.YticpjdjdimpglaaGreatDoorCFpaMTokens
import Derived.Test.YticpjdjdimpglaaGreatDoorCFpaMFRules
import Derived.Deep.RegionWith
namespace Go.Proofs.YticpjdjdimpglaaGreatDoor
set_option linter.unusedVariables false
set_option linter.unusedSimpArgs false
open Go.RowKit
theorem RV.keep1 {w0 w w1 w2 : World} {c : RT} {v : Value} (h : RV w c w1 v) (ho : Only (· = w0.heap.size) w1 w2) (h0 : w0.heap.size < w.heap.size) : RV w0 c w2 v := by
  obtain ⟨A, m, cc, A', m', cc', e, h1, h2⟩ := h
  exact ⟨A, m, cc, A', m', cc', e, (h1.only ho (fun k hk => by omega)).sub (fun k hk => by omega), (h2.only ho (fun k hk => by omega)).sub (fun k hk => by omega)⟩
theorem RV.below {w0 w1 w2 : World} {c : RT} {v : Value} (h : RV w0 c w1 v) (hb : Below w1.heap.size w1 w2) : RV w0 c w2 v := by
  obtain ⟨A, m, cc, A', m', cc', e, h1, h2⟩ := h
  exact ⟨A, m, cc, A', m', cc', e, h1.only (S' := fun _ => False) (Only.of_below hb) (fun _ h => h.elim), h2.only (S' := fun _ => False) (Only.of_below hb) (fun _ h => h.elim)⟩
theorem RV.from {w0 w w1 : World} {c : RT} {v : Value} (h : RV w c w1 v) (hs : w0.heap.size ≤ w.heap.size) : RV w0 c w1 v := by
  obtain ⟨A, m, cc, A', m', cc', e, h1, h2⟩ := h
  exact ⟨A, m, cc, A', m', cc', e, h1.sub (fun k hk => Nat.lt_of_lt_of_le hk hs), h2.sub (fun k hk => Nat.lt_of_lt_of_le hk hs)⟩
set_option maxHeartbeats 4000000 in
set_option maxRecDepth 100000 in
theorem ywhR1_any (p q : Nat) (B g : Nat) (A : Option Addr) (n c : Nat) (T : List Tok) (w : World) (hT : TOk T) (h : PSt w B g A n c T 0) (hp : Blk w p 114 #[.func (.func 80) #[] #[]]) (hq : Blk w q 112 #[.pointer (some ⟨g, 0, none⟩)]) (hgp : p ≠ g) (hgq : q ≠ g) :
    Calls Tryz.prog 136 #[.pointer (some ⟨p, 0, none⟩), .pointer (some ⟨q, 0, none⟩)] w (PPost w B g A n c T (pend T (prules T 0)) (RV w)) := by
  have HS := Lib.hid h
  have HT := Lib.hid hT
  have hTl := hT.len
  have hgw := h.lt
  have hfld : ∀ (x y z : Value) (w : World), Sem.run Tryz.prog (Instr.field 171 (.agg #[x, y, z]) 0) w = .ok x w := fun _ _ _ _ => rfl
  have xp : w.cell? ⟨p, 0, none⟩ = some (.func (.func 80) #[] #[]) := by rw [hp.cell]; rfl
  have xq : w.cell? ⟨q, 0, none⟩ = some (.pointer (some ⟨g, 0, none⟩)) := by rw [hq.cell]; rfl
  have lp := hp.lt
  have lq := hq.lt
  clear h hT
  go_enter Tryz.func136, Tryz.ntmps136
  go_wp2_with (fail)
  have hb0 : Below w.heap.size w (w.alloc (.cells #[.string ⟨#[]⟩, .int .i64 0, .int .i64 0, .int .i64 0, .slice none 0 0, .slice none 0 0] 28)) := (Below.refl _ _).alloc (Nat.le_refl _) _
  have hx0 := Blk.new w 28 #[.string ⟨#[]⟩, .int .i64 0, .int .i64 0, .int .i64 0, .slice none 0 0, .slice none 0 0]
  refine (yrules_any B g A n c T 0 _ (HS.out.below hb0) HT.out (by omega)).mono ?_
  rintro e w1 ⟨hO1, hp1⟩
  have hx1 := hx0.only hO1 (by omega)
  have hq1 := (hq.below hb0 lq).only hO1 hgq
  have HO := Lib.hid ((Only.of_below hb0).trans hO1)
  have yq : w1.cell? ⟨q, 0, none⟩ = some (.pointer (some ⟨g, 0, none⟩)) := by rw [hq1.cell]; rfl
  clear hO1 hx0 hb0 xp xq
  cases hv : prules T 0 with
  | bad m =>
    rw [hv] at hp1
    obtain ⟨rfl, hP⟩ := hp1
    have HE := Lib.hid (show pend T (prules T 0) = .bad m by unfold pend; rw [hv]; rfl)
    rw [← hv]
    clear hv
    go_wp2
    refine ⟨rfl, ?_⟩
    unfold PPost
    rw [HE.out]
    exact ⟨HO.out, rfl, hP⟩
  | ok x m =>
    rw [hv] at hp1
    obtain ⟨⟨_, rfl, A1, m1, cc1, A2, m2, cc2, rfl, hR1, hR2⟩, hP⟩ := hp1
    have HV := Lib.hid (show RV (w.alloc (.cells #[.string ⟨#[]⟩, .int .i64 0, .int .i64 0, .int .i64 0, .slice none 0 0, .slice none 0 0] 28)) x w1 (.agg #[.string (bs x.name), .int .i64 x.win, .int .i64 x.draw, .int .i64 x.loss, .slice A1 m1 cc1, .slice A2 m2 cc2]) from ⟨A1, m1, cc1, A2, m2, cc2, rfl, hR1, hR2⟩)
    have HP := Lib.hid hP
    have hin := prules_in T 0
    rw [hv] at hin
    have hm : m ≤ 65537 := Nat.le_trans hin.2 hTl
    have HE := Lib.hid (show pend T (prules T 0) = if (nx T m).kind = 5 then .ok x m else .bad m by unfold pend; rw [hv]; rfl)
    rw [← hv]
    clear hv hin hR1 hR2 hP
    
    have lq1 := hq1.lt
    go_wp2_with (fail)
    first | (refine calls_named ?_; intro W1 hW1) | (refine body_named ?_; intro W1 hW1) | (refine wpList_named ?_; intro W1 hW1) | (refine wp_named ?_; intro W1 hW1)
    have hbb : Below w1.heap.size w1 W1 := by rw [← hW1]; exact (Below.refl _ _).alloc (Nat.le_refl _) _
    have hy1 : Blk W1 w1.heap.size 28 #[.string (bs x.name), .int .i64 x.win, .int .i64 x.draw, .int .i64 x.loss, .slice A1 m1 cc1, .slice A2 m2 cc2] := by rw [← hW1]; exact Blk.new _ _ _
    have hx1' := hx1.below hbb hx1.lt
    have hq1' := hq1.below hbb hq1.lt
    have HP1 := Lib.hid (HP.out.below hbb)
    have HV1 := Lib.hid (HV.out.below hbb)
    have HO1 := Lib.hid (HO.out.trans (Only.of_below hbb))
    have hxy : w.heap.size < w1.heap.size := hx1.lt
    have hqy : q < w1.heap.size := hq1.lt
    clear hW1 hbb hx1 hq1 HV HO yq lq1
    refine (ynext_any B g A n c T m W1 HP1.out (by omega)).mono ?_
    rintro e w2 ⟨rfl, hb2⟩
    have HP2 := Lib.hid (HP1.out.below hb2)
    have hx2 := hx1'.below hb2 hx1'.lt
    have hy2 := hy1.below hb2 hy1.lt
    have HV2 := Lib.hid (HV1.out.below hb2)
    have HO2 := Lib.hid (HO1.out.trans (Only.of_below hb2))
    have hq2 := hq1'.below hb2 hq1'.lt
    have yq2 : w2.cell? ⟨q, 0, none⟩ = some (.pointer (some ⟨g, 0, none⟩)) := by rw [hq2.cell]; rfl
    have lq2 := hq2.lt
    clear hb2 hx1' hy1 HV1 HO1 hq1'
    obtain ⟨⟨kk, tx, pa⟩, ht⟩ : ∃ t, nx T m = t := ⟨_, rfl⟩
    rw [ht]
    unfold tokV
    dsimp only
    by_cases hk : kk = 5
    · subst hk
      have HE2 := Lib.hid (show pend T (prules T 0) = .ok x m by rw [HE.out, ht]; rfl)
      clear HE ht
      have x0 : w2.cell? ⟨w.heap.size, 0, none⟩ = some (.string ⟨#[]⟩) := by rw [hx2.cell]; rfl
      have x1 : w2.cell? ⟨w.heap.size, 1, none⟩ = some (.int .i64 0) := by rw [hx2.cell]; rfl
      have x2 : w2.cell? ⟨w.heap.size, 2, none⟩ = some (.int .i64 0) := by rw [hx2.cell]; rfl
      have x3 : w2.cell? ⟨w.heap.size, 3, none⟩ = some (.int .i64 0) := by rw [hx2.cell]; rfl
      have x4 : w2.cell? ⟨w.heap.size, 4, none⟩ = some (.slice none 0 0) := by rw [hx2.cell]; rfl
      have x5 : w2.cell? ⟨w.heap.size, 5, none⟩ = some (.slice none 0 0) := by rw [hx2.cell]; rfl
      have f0 := hx2.frozen 0
      have f1 := hx2.frozen 1
      have f2 := hx2.frozen 2
      have f3 := hx2.frozen 3
      have f4 := hx2.frozen 4
      have f5 := hx2.frozen 5
      have y0 : w2.cell? ⟨w1.heap.size, 0, none⟩ = some (.string (bs x.name)) := by rw [hy2.cell]; rfl
      have y1 : w2.cell? ⟨w1.heap.size, 1, none⟩ = some (.int .i64 x.win) := by rw [hy2.cell]; rfl
      have y2 : w2.cell? ⟨w1.heap.size, 2, none⟩ = some (.int .i64 x.draw) := by rw [hy2.cell]; rfl
      have y3 : w2.cell? ⟨w1.heap.size, 3, none⟩ = some (.int .i64 x.loss) := by rw [hy2.cell]; rfl
      have y4 : w2.cell? ⟨w1.heap.size, 4, none⟩ = some (.slice A1 m1 cc1) := by rw [hy2.cell]; rfl
      have y5 : w2.cell? ⟨w1.heap.size, 5, none⟩ = some (.slice A2 m2 cc2) := by rw [hy2.cell]; rfl
      have lx := hx2.lt
      have ly := hy2.lt
      go_wp2_with (fail)
      first | (refine calls_named ?_; intro W hW) | (refine body_named ?_; intro W hW) | (refine wpList_named ?_; intro W hW) | (refine wp_named ?_; intro W hW)
      have hk : Blk W w.heap.size 28 #[.string (bs x.name), .int .i64 x.win, .int .i64 x.draw, .int .i64 x.loss, .slice A1 m1 cc1, .slice A2 m2 cc2] := by rw [← hW]; exact ((((((hx2.set 0 (.string (bs x.name))).set 1 (.int .i64 x.win)).set 2 (.int .i64 x.draw)).set 3 (.int .i64 x.loss)).set 4 (.slice A1 m1 cc1)).set 5 (.slice A2 m2 cc2))
      have hO : Only (· = w.heap.size) w2 W := by rw [← hW]; exact ((((((LSt.boxed w 0 (.string (bs x.name))).trans (LSt.boxed w 1 (.int .i64 x.win))).trans (LSt.boxed w 2 (.int .i64 x.draw))).trans (LSt.boxed w 3 (.int .i64 x.loss))).trans (LSt.boxed w 4 (.slice A1 m1 cc1))).trans (LSt.boxed w 5 (.slice A2 m2 cc2)))
      clear hW x0 f0 y0 x1 f1 y1 x2 f2 y2 x3 f3 y3 x4 f4 y4 x5 f5 y5
      have y0 : W.cell? ⟨w.heap.size, 0, none⟩ = some (.string (bs x.name)) := by rw [hk.cell]; rfl
      have y1 : W.cell? ⟨w.heap.size, 1, none⟩ = some (.int .i64 x.win) := by rw [hk.cell]; rfl
      have y2 : W.cell? ⟨w.heap.size, 2, none⟩ = some (.int .i64 x.draw) := by rw [hk.cell]; rfl
      have y3 : W.cell? ⟨w.heap.size, 3, none⟩ = some (.int .i64 x.loss) := by rw [hk.cell]; rfl
      have y4 : W.cell? ⟨w.heap.size, 4, none⟩ = some (.slice A1 m1 cc1) := by rw [hk.cell]; rfl
      have y5 : W.cell? ⟨w.heap.size, 5, none⟩ = some (.slice A2 m2 cc2) := by rw [hk.cell]; rfl
      refine bodyPost_ret (by simp [results, Tryz.results136, go_sem, y0, y1, y2, y3, y4, y5]; try rfl) rfl ?_
      unfold PPost
      rw [HE2.out]
      exact ⟨HO2.out.new hO (fun k hk => by omega), ⟨_, rfl, HV2.out.keep1 hO (by simp)⟩, HP2.out.only hO (by omega) (fun k hk => by have := HP2.out.lb; omega)⟩
    · have HE2 := Lib.hid (show pend T (prules T 0) = .bad m by rw [HE.out, ht, if_neg hk])
      have e1 : (kk != 5) = true := by rw [bne_iff_ne]; exact hk
      clear HE ht
      go_wp2_with (fail)
      refine (yfail_any g w2).mono ?_
      rintro e w4 ⟨rfl, rfl⟩
      go_wp2
      refine ⟨rfl, ?_⟩
      unfold PPost
      rw [HE2.out]
      exact ⟨HO2.out, rfl, HP2.out⟩
theorem CV.keep1 {w0 w w1 w2 : World} {c : CT} {v : Value} (h : CV w c w1 v) (ho : Only (· = w0.heap.size) w1 w2) (h0 : w0.heap.size < w.heap.size) : CV w0 c w2 v := by
  obtain ⟨A, m, cc, e, h1⟩ := h
  exact ⟨A, m, cc, e, (h1.only ho (fun k hk => by omega)).sub (fun k hk => by omega)⟩
theorem CV.below {w0 w1 w2 : World} {c : CT} {v : Value} (h : CV w0 c w1 v) (hb : Below w1.heap.size w1 w2) : CV w0 c w2 v := by
  obtain ⟨A, m, cc, e, h1⟩ := h
  exact ⟨A, m, cc, e, h1.only (S' := fun _ => False) (Only.of_below hb) (fun _ h => h.elim)⟩
theorem CV.from {w0 w w1 : World} {c : CT} {v : Value} (h : CV w c w1 v) (hs : w0.heap.size ≤ w.heap.size) : CV w0 c w1 v := by
  obtain ⟨A, m, cc, e, h1⟩ := h
  exact ⟨A, m, cc, e, h1.sub (fun k hk => Nat.lt_of_lt_of_le hk hs)⟩
theorem Rd.apart {w w' : World} {S : Nat → Prop} {B size n c : Nat} {A : Option Addr} {xs : List Value} (h : Rd w B size A n c xs) (ho : Only S w w') (hB : B ≤ w.heap.size) (hS : ∀ p, A = some p → ¬ S p.block) : Rd w' B size A n c xs :=
  ⟨h.len, h.cap, h.big, fun hn => by
    obtain ⟨b, off, e, hb, hc⟩ := h.cells hn
    exact ⟨b, off, e, hb, fun j u hu => (World.cell?_of_block (ho.block b (by omega) (hS _ e))).trans (hc j u hu)⟩⟩
theorem pend_bad {α : Type} {T : List Tok} {r : Res α} {m : Nat} (h : r.In T.length 0) (hv : pend T r = .bad m) : m ≤ T.length := by
  unfold pend at hv
  cases r with
  | ok x n =>
    simp only [Res.bind] at hv
    split at hv
    · cases hv
    · cases hv; exact h.2
  | bad n =>
    cases hv
    have := h.2
    omega
theorem only_x {x : Nat} {w : World} {i : Nat} {v : Value} : Only (· = x) w (w.setCell ⟨x, i, none⟩ v) := Only.set (S := (· = x)) w (p := ⟨x, i, none⟩) rfl _
theorem CV.keepx {w0 w w1 w2 : World} {c : CT} {v : Value} {x : Nat} (h : CV w c w1 v) (ho : Only (· = x) w1 w2) (h0 : x < w.heap.size) (h1 : w0.heap.size ≤ w.heap.size) : CV w0 c w2 v := by
  obtain ⟨A, m, cc, e, h2⟩ := h
  exact ⟨A, m, cc, e, (h2.only ho (fun k hk => by omega)).sub (fun k hk => by omega)⟩
theorem RV.keepx {w0 w w1 w2 : World} {c : RT} {v : Value} {x : Nat} (h : RV w c w1 v) (ho : Only (· = x) w1 w2) (h0 : x < w.heap.size) (h1 : w0.heap.size ≤ w.heap.size) : RV w0 c w2 v := by
  obtain ⟨A, m, cc, A', m', cc', e, h2, h3⟩ := h
  exact ⟨A, m, cc, A', m', cc', e, (h2.only ho (fun k hk => by omega)).sub (fun k hk => by omega), (h3.only ho (fun k hk => by omega)).sub (fun k hk => by omega)⟩
/-- A cell that is written as it is. -/
theorem Blk.same {w : World} {g i : Nat} {t : TypeId} {cs : Array Value} {v : Value} (h : Blk w g t cs) (hv : cs.setIfInBounds i v = cs) : w.setCell ⟨g, i, none⟩ v = w := by
  have h1 := h.set i v
  rw [hv] at h1
  have hh : (w.setCell ⟨g, i, none⟩ v).heap = w.heap := by
    apply Array.ext_getElem?
    intro k
    by_cases hk : k = g
    · subst hk
      exact (show _ = _ from h1).trans (show _ = _ from h).symm
    · exact Below.heap_setCell _ _ _ _ hk
  cases w
  simp only [World.setCell] at hh ⊢
  rw [hh]
theorem lex_wide' (l : List UInt8) : ∃ T, (lex l).1 = T ++ [⟨5, [], l.length⟩] ∧ (∀ t ∈ T, okTok t = true) ∧ wide T ≤ 2 * l.length := by
  obtain ⟨T, h1, h2, h3⟩ := fin_ok l l.length 0 [] [] (-1) (by omega) (Nat.zero_le _) (by simp) (by simp [wide])
  exact ⟨T, by simpa [lex] using h1, h2, h3⟩
theorem tok_ok {l : List UInt8} (hn : l.length ≤ 30000) : TOk (lex l).1 := by
  obtain ⟨T, hT, hok, hw⟩ := lex_wide' l
  have hm : ∀ t ∈ T, t.text.length ≤ wide T := by
    intro t ht
    have h1 : (spell t).length + 1 ≤ wide T := by
      unfold wide
      have : ∀ (L : List Nat) (x : Nat), x ∈ L → x ≤ L.sum := by
        intro L
        induction L with
        | nil => intro x hx; cases hx
        | cons y r ih =>
          intro x hx
          rw [List.sum_cons]
          rcases List.mem_cons.1 hx with rfl | hx
          · omega
          · have := ih x hx; omega
      exact this _ _ (List.mem_map.2 ⟨t, ht, rfl⟩)
    have h2 : t.text.length ≤ (spell t).length := by
      unfold spell
      split
      · have : ∀ s : List UInt8, s.length ≤ (escape s).length := by
          intro s
          induction s with
          | nil => simp
          | cons c s ih =>
            have e : escape (c :: s) = esc1 c ++ escape s := by simp [escape]
            rw [e, List.length_append, List.length_cons]
            have : 1 ≤ (esc1 c).length := by unfold esc1; (repeat' split) <;> simp
            omega
        have := this t.text
        simp
        omega
      · exact Nat.le_refl _
    omega
  have hl : T.length ≤ wide T := by
    unfold wide
    clear hm hw hok hT
    induction T with
    | nil => simp
    | cons t r ih => simp only [List.map_cons, List.sum_cons, List.length_cons]; omega
  rw [hT]
  refine ⟨by simp; omega, fun t ht => ?_, fun t ht hk => ?_⟩
  · rcases List.mem_append.1 ht with ht | ht
    · have := hm t ht; omega
    · obtain rfl := List.mem_singleton.1 ht; simp
  · rcases List.mem_append.1 ht with ht | ht
    · have := hok t ht
      unfold okTok at this
      rw [hk] at this
      simpa using this
    · obtain rfl := List.mem_singleton.1 ht; simp at hk
/-- What the three functions hand back: a thing, the offset and the code of the first error. -/
def TopPost {α : Type} (w : World) (res : α × Int × Int) (V : α → World → Value → Prop) (e : Ending) (w' : World) : Prop :=
  Below w.heap.size w w' ∧ ∃ v, e = .returned (.tuple #[v, .int .i64 res.2.1, .int .i64 res.2.2]) ∧ V res.1 w' v
set_option maxHeartbeats 4000000 in
set_option maxRecDepth 100000 in
theorem ywhR_any (A : Option Addr) (n c : Nat) (l : List UInt8) (w : World) (h : Rd w w.heap.size 1 A n c (l.map vb)) (hn : n ≤ 30000) (hG : Gb w.heap.size w) :
    Calls Tryz.prog 79 #[.slice A n c, .func (.func 80) #[] #[]] w (TopPost w (topRules l) (RV w)) := by
  have hmf := hmfP
  have hlen := h.blen
  subst hlen
  have hfld : ∀ (x y z : Value) (w : World), Sem.run Tryz.prog (Instr.field 171 (.agg #[x, y, z]) 2) w = .ok z w := fun _ _ _ _ => rfl
  have HG := Lib.hid hG
  clear hG
  go_enter Tryz.func79, Tryz.ntmps79
  go_wp2_with (fail)
  first | (refine calls_named ?_; intro W0 hW0) | (refine body_named ?_; intro W0 hW0) | (refine wpList_named ?_; intro W0 hW0) | (refine wp_named ?_; intro W0 hW0)
  have hb0 : Below w.heap.size w W0 := by rw [← hW0]; exact ((Below.refl _ _).alloc (Nat.le_refl _) _).alloc (by simp) _
  have hp0 : Blk W0 w.heap.size 114 #[.func (.func 80) #[] #[]] := by rw [← hW0]; exact (Blk.new w _ _).alloc _
  have hx0 : Blk W0 (w.heap.size + 1) 28 #[.string ⟨#[]⟩, .int .i64 0, .int .i64 0, .int .i64 0, .slice none 0 0, .slice none 0 0] := by rw [← hW0, ← World.size_alloc]; exact Blk.new _ _ _
  clear hW0
  refine (tokens_own A l.length c l W0 ((h.below hb0).more hb0.size) (by omega)).mono ?_
  have HK := Lib.hid (tok_ok hn)
  rintro e w1 ⟨A1, A2, c1, c2, rfl, h1', h2', hb1⟩
  have hbl := fun k hk => (h2'.lt k hk).1
  have HOW := Lib.hid (show ∀ p, A1 = some p → W0.heap.size ≤ p.block from fun p hp => (h1'.lt p.block (by rw [hp]; rfl)).1)
  have h1 := own_rd h1'
  have h2 := own_rd h2'
  have hp1 := hp0.below hb1 hp0.lt
  have hx1 := hx0.below hb1 hx0.lt
  have HB1 := Lib.hid (hb0.trans (hb1.mono hb0.size))
  have HR := Lib.hid h1
  have HR2 := Lib.hid h2
  have hcap1 := h1.cap
  have hbig1 := h1.big
  have hcap2 := h2.cap
  have hbig2 := h2.big
  have x0 : w1.cell? ⟨w.heap.size + 1, 0, none⟩ = some (.string ⟨#[]⟩) := by rw [hx1.cell]; rfl
  have x1 : w1.cell? ⟨w.heap.size + 1, 1, none⟩ = some (.int .i64 0) := by rw [hx1.cell]; rfl
  have x2 : w1.cell? ⟨w.heap.size + 1, 2, none⟩ = some (.int .i64 0) := by rw [hx1.cell]; rfl
  have x3 : w1.cell? ⟨w.heap.size + 1, 3, none⟩ = some (.int .i64 0) := by rw [hx1.cell]; rfl
  have x4 : w1.cell? ⟨w.heap.size + 1, 4, none⟩ = some (.slice none 0 0) := by rw [hx1.cell]; rfl
  have x5 : w1.cell? ⟨w.heap.size + 1, 5, none⟩ = some (.slice none 0 0) := by rw [hx1.cell]; rfl
  have f0 := hx1.frozen 0
  have f1 := hx1.frozen 1
  have f2 := hx1.frozen 2
  have f3 := hx1.frozen 3
  have f4 := hx1.frozen 4
  have f5 := hx1.frozen 5
  have lx := hx1.lt
  have hl0 : w.heap.size + 1 < W0.heap.size := hx0.lt
  clear h1 h2 hb1 hb0 hp0 hx0 h h1' h2'
  cases hP : (lex l).2 with
  | cons q rr =>
    have HT := Lib.hid (show topRules l = (RT.zero, q.at_, q.code) by unfold topRules topOf; rw [hP])
    have HR3 := HR2.out
    rw [hP] at HR3
    obtain ⟨b, off, t, rfl, hbl1, ht, y0, y1⟩ := HR3.prob (k := 0) (by simp)
    have hbb : ¬ b = w.heap.size + 1 := by have := hbl b rfl; omega
    have hbb' : ¬ w.heap.size + 1 = b := by omega
    obtain rfl : q = t := by simpa using ht
    clear ht HR3 hP
    rw [Nat.zero_mul, Nat.add_zero] at y0 y1
    have hl0 : 0 < rr.length + 1 := by omega
    have HSM := Lib.hid (fun (qq i : Nat) (v : Value) (hv : (#[.string ⟨#[]⟩, .int .i64 0, .int .i64 0, .int .i64 0, .slice none 0 0, .slice none 0 0] : Array Value).setIfInBounds i v = #[.string ⟨#[]⟩, .int .i64 0, .int .i64 0, .int .i64 0, .slice none 0 0, .slice none 0 0]) => (hx1.drewN qq).same hv)
    simp only [List.length_cons] at hcap2 ⊢
    go_wp2_with (fail)
    go_quiet (exact ⟨by rw [HSM.out _ 0 _ rfl, HSM.out _ 1 _ rfl, HSM.out _ 2 _ rfl, HSM.out _ 3 _ rfl, HSM.out _ 4 _ rfl, HSM.out _ 5 _ rfl], rfl⟩)
    go_wp2
    first | (refine calls_named ?_; intro W hW) | (refine body_named ?_; intro W hW) | (refine wpList_named ?_; intro W hW) | (refine wp_named ?_; intro W hW)
    have hk : Blk W (w.heap.size + 1) 28 #[.string ⟨#[]⟩, .int .i64 0, .int .i64 0, .int .i64 0, .slice none 0 0, .slice none 0 0] := by rw [← hW]; exact hx1.drewN _
    have hbW : Below w.heap.size w W := by rw [← hW]; exact HB1.out.trans (bdrew _ _)
    clear hW x0 f0 x1 f1 x2 f2 x3 f3 x4 f4 x5 f5
    have z0 : W.cell? ⟨w.heap.size + 1, 0, none⟩ = some (.string ⟨#[]⟩) := by rw [hk.cell]; rfl
    have z1 : W.cell? ⟨w.heap.size + 1, 1, none⟩ = some (.int .i64 0) := by rw [hk.cell]; rfl
    have z2 : W.cell? ⟨w.heap.size + 1, 2, none⟩ = some (.int .i64 0) := by rw [hk.cell]; rfl
    have z3 : W.cell? ⟨w.heap.size + 1, 3, none⟩ = some (.int .i64 0) := by rw [hk.cell]; rfl
    have z4 : W.cell? ⟨w.heap.size + 1, 4, none⟩ = some (.slice none 0 0) := by rw [hk.cell]; rfl
    have z5 : W.cell? ⟨w.heap.size + 1, 5, none⟩ = some (.slice none 0 0) := by rw [hk.cell]; rfl
    refine bodyPost_ret (by simp [results, Tryz.results79, go_sem, z0, z1, z2, z3, z4, z5]; try rfl) rfl ?_
    unfold TopPost
    rw [HT.out]
    exact ⟨hbW, _, rfl, ⟨none, 0, 0, none, 0, 0, rfl, RepT.nil, RepZ.nil⟩⟩
  | nil =>
    simp only [List.length_nil]
    have HTP := Lib.hid hP
    clear hP
    go_wp2_with (fail)
    first | (refine calls_named ?_; intro W2 hW2) | (refine body_named ?_; intro W2 hW2) | (refine wpList_named ?_; intro W2 hW2) | (refine wp_named ?_; intro W2 hW2)
    have hb2 : Below w1.heap.size w1 W2 := by rw [← hW2]; exact ((Below.refl _ _).alloc (Nat.le_refl _) _).alloc (by simp) _
    have hg2 : Blk W2 w1.heap.size 168 #[.slice A1 (lex l).1.length c1, vi (0 : Nat)] := by rw [← hW2]; exact (Blk.new w1 _ _).alloc _
    have hq2 : Blk W2 (w1.heap.size + 1) 112 #[.pointer (some ⟨w1.heap.size, 0, none⟩)] := by rw [← hW2, ← World.size_alloc]; exact Blk.new _ _ _
    have hp2 := hp1.below hb2 hp1.lt
    have hx2 := hx1.below hb2 hx1.lt
    have hB2 := HB1.out.trans (hb2.mono HB1.out.size)
    have HB2 := Lib.hid hB2
    have hz1 := HB1.out.size
    have hlx1 : w.heap.size + 1 < w1.heap.size := lx
    have hlx2 : w.heap.size + 1 < W2.heap.size := hx2.lt
    have HS2 := Lib.hid (show PSt W2 w1.heap.size w1.heap.size A1 (lex l).1.length c1 (lex l).1 0 from ⟨hg2, HR.out.below hb2, Nat.le_refl _, (HG.out.below hB2).more hz1⟩)
    clear hW2 hp1 hx1 hb2 hB2 x0 f0 x1 f1 x2 f2 x3 f3 x4 f4 x5 f5 lx
    refine (yattR_lit 136 (.pointer (some ⟨w.heap.size, 0, none⟩)) (.pointer (some ⟨w1.heap.size + 1, 0, none⟩)) (pend (lex l).1 (prules (lex l).1 0)) w1.heap.size w1.heap.size A1 (lex l).1.length c1 (lex l).1 W2 HS2.out.lt (fun _ => rfl) (fun w' hb => ywhR1_any w.heap.size (w1.heap.size + 1) w1.heap.size w1.heap.size A1 (lex l).1.length c1 (lex l).1 w' HK.out (HS2.out.below hb) (hp2.below hb hp2.lt) (hq2.below hb hq2.lt) (by omega) (by omega))).mono ?_
    rintro e w3 ⟨hO3, hp3⟩
    have hx3 := hx2.only hO3 (by omega)
    have hq3 := hq2.only hO3 (by omega)
    have HB3 := Lib.hid (hO3.below HB2.out HB2.out.size (fun k hk => by omega))
    clear hx2 hq2 hp2 hg2 hO3
    have x0 : w3.cell? ⟨w.heap.size + 1, 0, none⟩ = some (.string ⟨#[]⟩) := by rw [hx3.cell]; rfl
    have x1 : w3.cell? ⟨w.heap.size + 1, 1, none⟩ = some (.int .i64 0) := by rw [hx3.cell]; rfl
    have x2 : w3.cell? ⟨w.heap.size + 1, 2, none⟩ = some (.int .i64 0) := by rw [hx3.cell]; rfl
    have x3 : w3.cell? ⟨w.heap.size + 1, 3, none⟩ = some (.int .i64 0) := by rw [hx3.cell]; rfl
    have x4 : w3.cell? ⟨w.heap.size + 1, 4, none⟩ = some (.slice none 0 0) := by rw [hx3.cell]; rfl
    have x5 : w3.cell? ⟨w.heap.size + 1, 5, none⟩ = some (.slice none 0 0) := by rw [hx3.cell]; rfl
    have f0 := hx3.frozen 0
    have f1 := hx3.frozen 1
    have f2 := hx3.frozen 2
    have f3 := hx3.frozen 3
    have f4 := hx3.frozen 4
    have f5 := hx3.frozen 5
    have lx := hx3.lt
    cases hv : pend (lex l).1 (prules (lex l).1 0) with
    | ok x m =>
      rw [hv] at hp3
      obtain ⟨⟨_, rfl, B1, m1, cc1, B2, m2, cc2, rfl, hR1, hR2⟩, hP⟩ := hp3
      have HT := Lib.hid (show topRules l = (x, 0, 0) by unfold topRules topOf; rw [HTP.out]; simp only; rw [hv])
      have HV := Lib.hid (show RV W2 x w3 (.agg #[.string (bs x.name), .int .i64 x.win, .int .i64 x.draw, .int .i64 x.loss, .slice B1 m1 cc1, .slice B2 m2 cc2]) from ⟨B1, m1, cc1, B2, m2, cc2, rfl, hR1, hR2⟩)
      clear hv hR1 hR2 hP
      
      go_wp2_with (with_reducible refine at_op (Op.load 28 (.tmp 4)) rfl ?_; refine Hid.out ?_)
      refine Lib.hid ?_
      first | (refine calls_named ?_; intro W4 hW4) | (refine body_named ?_; intro W4 hW4) | (refine wpList_named ?_; intro W4 hW4) | (refine wp_named ?_; intro W4 hW4)
      have hx4 : Blk W4 (w.heap.size + 1) 28 #[.string (bs x.name), .int .i64 x.win, .int .i64 x.draw, .int .i64 x.loss, .slice B1 m1 cc1, .slice B2 m2 cc2] := by rw [← hW4]; exact ((((((hx3.set 0 (.string (bs x.name))).set 1 (.int .i64 x.win)).set 2 (.int .i64 x.draw)).set 3 (.int .i64 x.loss)).set 4 (.slice B1 m1 cc1)).set 5 (.slice B2 m2 cc2))
      have hO4 : Only (· = w.heap.size + 1) w3 W4 := by rw [← hW4]; exact (((((((Only.refl _ _).trans only_x).trans only_x).trans only_x).trans only_x).trans only_x).trans only_x)
      clear hW4 x0 f0 x1 f1 x2 f2 x3 f3 x4 f4 x5 f5 lx
      have x0 : W4.cell? ⟨w.heap.size + 1, 0, none⟩ = some (.string (bs x.name)) := by rw [hx4.cell]; rfl
      have x1 : W4.cell? ⟨w.heap.size + 1, 1, none⟩ = some (.int .i64 x.win) := by rw [hx4.cell]; rfl
      have x2 : W4.cell? ⟨w.heap.size + 1, 2, none⟩ = some (.int .i64 x.draw) := by rw [hx4.cell]; rfl
      have x3 : W4.cell? ⟨w.heap.size + 1, 3, none⟩ = some (.int .i64 x.loss) := by rw [hx4.cell]; rfl
      have x4 : W4.cell? ⟨w.heap.size + 1, 4, none⟩ = some (.slice B1 m1 cc1) := by rw [hx4.cell]; rfl
      have x5 : W4.cell? ⟨w.heap.size + 1, 5, none⟩ = some (.slice B2 m2 cc2) := by rw [hx4.cell]; rfl
      have f0 := hx4.frozen 0
      have f1 := hx4.frozen 1
      have f2 := hx4.frozen 2
      have f3 := hx4.frozen 3
      have f4 := hx4.frozen 4
      have f5 := hx4.frozen 5
      have lx := hx4.lt
      go_wp2_with (fail)
      first | (refine calls_named ?_; intro W hW) | (refine body_named ?_; intro W hW) | (refine wpList_named ?_; intro W hW) | (refine wp_named ?_; intro W hW)
      have hk : Blk W (w.heap.size + 1) 28 #[.string (bs x.name), .int .i64 x.win, .int .i64 x.draw, .int .i64 x.loss, .slice B1 m1 cc1, .slice B2 m2 cc2] := by rw [← hW]; exact ((((((hx4.set 0 (.string (bs x.name))).set 1 (.int .i64 x.win)).set 2 (.int .i64 x.draw)).set 3 (.int .i64 x.loss)).set 4 (.slice B1 m1 cc1)).set 5 (.slice B2 m2 cc2))
      have hO5 : Only (· = w.heap.size + 1) W4 W := by rw [← hW]; exact (((((((Only.refl _ _).trans only_x).trans only_x).trans only_x).trans only_x).trans only_x).trans only_x)
      clear hW x0 f0 x1 f1 x2 f2 x3 f3 x4 f4 x5 f5 lx
      have hO6 := hO4.trans hO5
      have z0 : W.cell? ⟨w.heap.size + 1, 0, none⟩ = some (.string (bs x.name)) := by rw [hk.cell]; rfl
      have z1 : W.cell? ⟨w.heap.size + 1, 1, none⟩ = some (.int .i64 x.win) := by rw [hk.cell]; rfl
      have z2 : W.cell? ⟨w.heap.size + 1, 2, none⟩ = some (.int .i64 x.draw) := by rw [hk.cell]; rfl
      have z3 : W.cell? ⟨w.heap.size + 1, 3, none⟩ = some (.int .i64 x.loss) := by rw [hk.cell]; rfl
      have z4 : W.cell? ⟨w.heap.size + 1, 4, none⟩ = some (.slice B1 m1 cc1) := by rw [hk.cell]; rfl
      have z5 : W.cell? ⟨w.heap.size + 1, 5, none⟩ = some (.slice B2 m2 cc2) := by rw [hk.cell]; rfl
      refine bodyPost_ret (by simp [results, Tryz.results79, go_sem, z0, z1, z2, z3, z4, z5]; try rfl) rfl ?_
      unfold TopPost
      rw [HT.out]
      exact ⟨hO6.below HB3.out HB3.out.size (fun k hk => by omega), _, rfl, HV.out.keepx hO6 hlx2 (by omega)⟩
    | bad m =>
      rw [hv] at hp3
      obtain ⟨rfl, hP⟩ := hp3
      have HT := Lib.hid (show topRules l = (RT.zero, (nx (lex l).1 m).at_, 130) by unfold topRules topOf; rw [HTP.out]; simp only; rw [hv])
      have hmT : m ≤ (lex l).1.length := pend_bad (prules_in _ 0) hv
      clear hv
      go_wp2_with (fail)
      first | (refine calls_named ?_; intro W4 hW4) | (refine body_named ?_; intro W4 hW4) | (refine wpList_named ?_; intro W4 hW4) | (refine wp_named ?_; intro W4 hW4)
      have hx4 : Blk W4 (w.heap.size + 1) 28 #[.string ⟨#[]⟩, .int .i64 0, .int .i64 0, .int .i64 0, .slice none 0 0, .slice none 0 0] := by rw [← hW4]; exact ((((((hx3.set 0 (.string ⟨#[]⟩)).set 1 (.int .i64 0)).set 2 (.int .i64 0)).set 3 (.int .i64 0)).set 4 (.slice none 0 0)).set 5 (.slice none 0 0))
      have hO4 : Only (· = w.heap.size + 1) w3 W4 := by rw [← hW4]; exact (((((((Only.refl _ _).trans only_x).trans only_x).trans only_x).trans only_x).trans only_x).trans only_x)
      have HB4 := Lib.hid (hO4.below HB3.out HB3.out.size (fun k hk => by omega))
      have HP4 := Lib.hid (show PSt W4 w1.heap.size w1.heap.size A1 (lex l).1.length c1 (lex l).1 m from ⟨hP.blk.only hO4 (by omega), hP.src.apart hO4 (Nat.le_of_lt hP.lt) (fun p hp hS => by have := HOW.out p hp; omega), hP.lb, (HG.out.below HB4.out).more hz1⟩)
      have hq4 := hq3.only hO4 (by omega)
      clear hW4 x0 f0 x1 f1 x2 f2 x3 f3 x4 f4 x5 f5 lx hO4
      have HPD := Lib.hid (HP4.out.below (bdrew W4 1))
      have HX4 := Lib.hid hx4
      have HBD := Lib.hid (HB4.out.trans (bdrew W4 1))
      have x0 : W4.cell? ⟨w.heap.size + 1, 0, none⟩ = some (.string ⟨#[]⟩) := by rw [hx4.cell]; rfl
      have x1 : W4.cell? ⟨w.heap.size + 1, 1, none⟩ = some (.int .i64 0) := by rw [hx4.cell]; rfl
      have x2 : W4.cell? ⟨w.heap.size + 1, 2, none⟩ = some (.int .i64 0) := by rw [hx4.cell]; rfl
      have x3 : W4.cell? ⟨w.heap.size + 1, 3, none⟩ = some (.int .i64 0) := by rw [hx4.cell]; rfl
      have x4 : W4.cell? ⟨w.heap.size + 1, 4, none⟩ = some (.slice none 0 0) := by rw [hx4.cell]; rfl
      have x5 : W4.cell? ⟨w.heap.size + 1, 5, none⟩ = some (.slice none 0 0) := by rw [hx4.cell]; rfl
      have f0 := hx4.frozen 0
      have f1 := hx4.frozen 1
      have f2 := hx4.frozen 2
      have f3 := hx4.frozen 3
      have f4 := hx4.frozen 4
      have f5 := hx4.frozen 5
      have lx := hx4.lt
      have yq : W4.cell? ⟨w1.heap.size + 1, 0, none⟩ = some (.pointer (some ⟨w1.heap.size, 0, none⟩)) := by rw [hq4.cell]; rfl
      have lq := hq4.lt
      have hm7 : m ≤ 70000 := by have := HK.out.len; omega
      obtain ⟨⟨kk, tx, pa⟩, ht⟩ : ∃ t, nx (lex l).1 m = t := ⟨_, rfl⟩
      rw [ht] at HT
      have HTN := Lib.hid ht
      clear ht hx4 hq4 hq3 hx3 hP
      go_region_with (go_at_call 131; refine (ynext_any w1.heap.size w1.heap.size A1 (lex l).1.length c1 (lex l).1 m _ HPD.out hm7).mono ?_; rw [HTN.out]; unfold tokV; dsimp only; rintro e w5 ⟨rfl, hb5⟩; have hx5 := (HX4.out.drewN 1).below hb5 HX4.out.lt; have v0 : w5.cell? ⟨w.heap.size + 1, 0, none⟩ = some (.string ⟨#[]⟩) := (hx5.cell 0); have v1 : w5.cell? ⟨w.heap.size + 1, 1, none⟩ = some (.int .i64 0) := (hx5.cell 1); have v2 : w5.cell? ⟨w.heap.size + 1, 2, none⟩ = some (.int .i64 0) := (hx5.cell 2); have v3 : w5.cell? ⟨w.heap.size + 1, 3, none⟩ = some (.int .i64 0) := (hx5.cell 3); have v4 : w5.cell? ⟨w.heap.size + 1, 4, none⟩ = some (.slice none 0 0) := (hx5.cell 4); have v5 : w5.cell? ⟨w.heap.size + 1, 5, none⟩ = some (.slice none 0 0) := (hx5.cell 5); have u0 := hx5.frozen 0; have u1 := hx5.frozen 1; have u2 := hx5.frozen 2; have u3 := hx5.frozen 3; have u4 := hx5.frozen 4; have u5 := hx5.frozen 5; have lx5 := hx5.lt)
      all_goals
        go_wp2
        refine body_named ?_
        intro W hW
        have hk : Blk W (w.heap.size + 1) 28 #[.string ⟨#[]⟩, .int .i64 0, .int .i64 0, .int .i64 0, .slice none 0 0, .slice none 0 0] := by rw [← hW]; exact ((((((hx5.set 0 (.string ⟨#[]⟩)).set 1 (.int .i64 0)).set 2 (.int .i64 0)).set 3 (.int .i64 0)).set 4 (.slice none 0 0)).set 5 (.slice none 0 0))
        have hbW : Below w.heap.size w W := by rw [← hW]; exact (((((((HBD.out.trans (hb5.mono HBD.out.size)).setCell (by simp) (.string ⟨#[]⟩)).setCell (by simp) (.int .i64 0)).setCell (by simp) (.int .i64 0)).setCell (by simp) (.int .i64 0)).setCell (by simp) (.slice none 0 0)).setCell (by simp) (.slice none 0 0))
        clear hW
        have z0 : W.cell? ⟨w.heap.size + 1, 0, none⟩ = some (.string ⟨#[]⟩) := by rw [hk.cell]; rfl
        have z1 : W.cell? ⟨w.heap.size + 1, 1, none⟩ = some (.int .i64 0) := by rw [hk.cell]; rfl
        have z2 : W.cell? ⟨w.heap.size + 1, 2, none⟩ = some (.int .i64 0) := by rw [hk.cell]; rfl
        have z3 : W.cell? ⟨w.heap.size + 1, 3, none⟩ = some (.int .i64 0) := by rw [hk.cell]; rfl
        have z4 : W.cell? ⟨w.heap.size + 1, 4, none⟩ = some (.slice none 0 0) := by rw [hk.cell]; rfl
        have z5 : W.cell? ⟨w.heap.size + 1, 5, none⟩ = some (.slice none 0 0) := by rw [hk.cell]; rfl
        refine bodyPost_ret (by simp [results, Tryz.results79, go_sem, Act.put, z0, z1, z2, z3, z4, z5]; try rfl) rfl ?_
        unfold TopPost
        rw [HT.out]
        exact ⟨hbW, _, rfl, ⟨none, 0, 0, none, 0, 0, rfl, RepT.nil, RepZ.nil⟩⟩
set_option maxHeartbeats 4000000 in
set_option maxRecDepth 100000 in
theorem ytopRules_any (A : Option Addr) (n c : Nat) (l : List UInt8) (w : World) (h : Rd w w.heap.size 1 A n c (l.map vb)) (hn : n ≤ 30000) (hG : Gb w.heap.size w) :
    Calls Tryz.prog 32 #[.slice A n c] w (TopPost w (topRules l) (RV w)) := by
  have hmf := hmfP
  have HH := Lib.hid h
  have HG := Lib.hid hG
  clear h hG
  go_enter Tryz.func32, Tryz.ntmps32
  go_wp2_with (fail)
  first | (refine calls_named ?_; intro w0 hW0) | (refine body_named ?_; intro w0 hW0) | (refine wpList_named ?_; intro w0 hW0) | (refine wp_named ?_; intro w0 hW0)
  have hb0 : Below w.heap.size w w0 := by rw [← hW0]; exact (Below.refl _ _).alloc (Nat.le_refl _) _
  have hx0 : Blk w0 w.heap.size 28 #[.string ⟨#[]⟩, .int .i64 0, .int .i64 0, .int .i64 0, .slice none 0 0, .slice none 0 0] := by rw [← hW0]; exact Blk.new w _ _
  clear hW0
  refine (ywhR_any A n c l w0 ((HH.out.below hb0).more hb0.size) hn ((HG.out.below hb0).more hb0.size)).mono ?_
  obtain ⟨⟨x, at_, cd⟩, hx⟩ : ∃ r, topRules l = r := ⟨_, rfl⟩
  have HX := Lib.hid hx
  rw [hx]
  clear hx
  rintro e w1 ⟨hb1, _, rfl, ⟨B1, m1, cc1, B2, m2, cc2, rfl, hR1, hR2⟩⟩
  have HB1 := Lib.hid (hb0.trans (hb1.mono hb0.size))
  have hx1 := hx0.below hb1 hx0.lt
  have HV := Lib.hid (show RV w0 x w1 (.agg #[.string (bs x.name), .int .i64 x.win, .int .i64 x.draw, .int .i64 x.loss, .slice B1 m1 cc1, .slice B2 m2 cc2]) from ⟨B1, m1, cc1, B2, m2, cc2, rfl, hR1, hR2⟩)
  have hz0 : w.heap.size < w0.heap.size := hx0.lt
  clear hR1 hR2 hx0 hb1 hb0
  
  have x0 : w1.cell? ⟨w.heap.size, 0, none⟩ = some (.string ⟨#[]⟩) := by rw [hx1.cell]; rfl
  have x1 : w1.cell? ⟨w.heap.size, 1, none⟩ = some (.int .i64 0) := by rw [hx1.cell]; rfl
  have x2 : w1.cell? ⟨w.heap.size, 2, none⟩ = some (.int .i64 0) := by rw [hx1.cell]; rfl
  have x3 : w1.cell? ⟨w.heap.size, 3, none⟩ = some (.int .i64 0) := by rw [hx1.cell]; rfl
  have x4 : w1.cell? ⟨w.heap.size, 4, none⟩ = some (.slice none 0 0) := by rw [hx1.cell]; rfl
  have x5 : w1.cell? ⟨w.heap.size, 5, none⟩ = some (.slice none 0 0) := by rw [hx1.cell]; rfl
  have f0 := hx1.frozen 0
  have f1 := hx1.frozen 1
  have f2 := hx1.frozen 2
  have f3 := hx1.frozen 3
  have f4 := hx1.frozen 4
  have f5 := hx1.frozen 5
  have lx := hx1.lt
  try dsimp only
  go_wp2_with (fail)
  first | (refine calls_named ?_; intro W hW) | (refine body_named ?_; intro W hW) | (refine wpList_named ?_; intro W hW) | (refine wp_named ?_; intro W hW)
  have hk : Blk W w.heap.size 28 #[.string (bs x.name), .int .i64 x.win, .int .i64 x.draw, .int .i64 x.loss, .slice B1 m1 cc1, .slice B2 m2 cc2] := by rw [← hW]; exact ((((((hx1.set 0 (.string (bs x.name))).set 1 (.int .i64 x.win)).set 2 (.int .i64 x.draw)).set 3 (.int .i64 x.loss)).set 4 (.slice B1 m1 cc1)).set 5 (.slice B2 m2 cc2))
  have hO : Only (· = w.heap.size) w1 W := by rw [← hW]; exact (((((((Only.refl _ _).trans only_x).trans only_x).trans only_x).trans only_x).trans only_x).trans only_x)
  clear hW x0 f0 x1 f1 x2 f2 x3 f3 x4 f4 x5 f5 lx
  have z0 : W.cell? ⟨w.heap.size, 0, none⟩ = some (.string (bs x.name)) := by rw [hk.cell]; rfl
  have z1 : W.cell? ⟨w.heap.size, 1, none⟩ = some (.int .i64 x.win) := by rw [hk.cell]; rfl
  have z2 : W.cell? ⟨w.heap.size, 2, none⟩ = some (.int .i64 x.draw) := by rw [hk.cell]; rfl
  have z3 : W.cell? ⟨w.heap.size, 3, none⟩ = some (.int .i64 x.loss) := by rw [hk.cell]; rfl
  have z4 : W.cell? ⟨w.heap.size, 4, none⟩ = some (.slice B1 m1 cc1) := by rw [hk.cell]; rfl
  have z5 : W.cell? ⟨w.heap.size, 5, none⟩ = some (.slice B2 m2 cc2) := by rw [hk.cell]; rfl
  refine bodyPost_ret (by simp [results, Tryz.results32, go_sem, z0, z1, z2, z3, z4, z5]; try rfl) rfl ?_
  unfold TopPost
  rw [HX.out]
  exact ⟨hO.below HB1.out HB1.out.size (fun k hk => by omega), _, rfl, HV.out.keepx hO hz0 (by omega)⟩
end Go.Proofs.YticpjdjdimpglaaGreatDoor
