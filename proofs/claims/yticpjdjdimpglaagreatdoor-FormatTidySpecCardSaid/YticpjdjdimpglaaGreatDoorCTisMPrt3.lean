/- The printer's steps by their contract. -/
import Derived.Test.YticpjdjdimpglaaGreatDoorCTisMWText3
import Derived.Test.YticpjdjdimpglaaGreatDoorCTisMFRules
namespace Go.Proofs.YticpjdjdimpglaaGreatDoor
set_option linter.unusedVariables false
set_option linter.unusedSimpArgs false
open Go.RowKit
def fstep (ind : List UInt8) (x : ST) : List UInt8 := if x.k = 1 then ind ++ critW x.b ++ [59, 10]
     else ind ++ [105, 102, 32] ++ ftext 100 x.c ++ [32, 123, 10] ++ flines (ind ++ [32, 32]) x.th ++ ind ++ [125] ++
       (if 0 < x.el.num then [32, 101, 108, 115, 101, 32, 123, 10] ++ flines (ind ++ [32, 32]) x.el ++ ind ++ [125] else []) ++ [10]
theorem flines_L (ind : List UInt8) : ∀ l : SF, flines ind l = l.toL.flatMap (fstep ind)
  | .nil => rfl
  | .cons k b ck cv cn cps th el r => by
    rw [SF.toL, List.flatMap_cons, ← flines_L ind r]
    rfl
theorem flatMap_take {α β : Type} (f : α → List β) {l : List α} {i : Nat} {x : α} (h : l[i]? = some x) : (l.take (i + 1)).flatMap f = (l.take i).flatMap f ++ f x := by
  obtain ⟨hi, e⟩ := List.getElem?_eq_some_iff.1 h
  rw [List.take_succ_eq_append_getElem hi, List.flatMap_append, e]
  simp
theorem flatMap_le {α β : Type} (f : α → List β) (l : List α) (i : Nat) : ((l.take i).flatMap f).length ≤ (l.flatMap f).length := by
  have e := congrArg (fun l => (List.flatMap f l).length) (List.take_append_drop i l)
  simp only [List.flatMap_append, List.length_append] at e
  omega
theorem ssz_mem {l : SF} {i : Nat} {x : ST} (h : l.toL[i]? = some x) : x.c.ps.cnt + 2 + x.th.sz + x.el.sz ≤ l.sz := by
  have h1 := fo_mem (fs := l.toL.map .st) (i := i) (f := .st x) (by rw [List.getElem?_map, h]; rfl)
  rw [(fo_s l).2.2.2.2] at h1
  exact h1
theorem okS_mem {l : SF} {i : Nat} {x : ST} (hok : l.okB = true) (h : l.toL[i]? = some x) : (Fo.st x).ok = true := by
  rw [← all_s] at hok
  exact List.all_eq_true.1 hok _ (List.mem_map.2 ⟨x, mem_at h, rfl⟩)
theorem okS_x {x : ST} (h : (Fo.st x).ok = true) : (x.k = 1 ∧ 1 ≤ x.b ∧ x.b ≤ 12 ∧ x.c.isZ = true ∧ x.th.len = 0 ∧ x.el.len = 0) ∨ (x.k = 2 ∧ x.b = 0 ∧ okC x.c = true ∧ 0 < x.th.len ∧ x.th.okB = true ∧ x.el.okB = true) := by
  have h2 : (SF.cons x.k x.b x.c.k x.c.v x.c.n x.c.ps x.th x.el .nil).okB = true := h
  obtain ⟨h3, _⟩ := okS_cons h2
  rw [snum_len, snum_len] at h3
  exact h3
theorem sdep_mem : ∀ {l : SF} {x : ST}, x ∈ l.toL → x.th.dep + 1 ≤ l.dep ∧ x.el.dep + 1 ≤ l.dep ∧ x.c.ps.dep + 1 ≤ l.cdep ∧ x.th.cdep ≤ l.cdep ∧ x.el.cdep ≤ l.cdep
  | .nil, _, h => by cases h
  | .cons k b ck cv cn cps th el r, x, h => by
    rw [SF.toL] at h
    rw [SF.dep, SF.cdep]
    rcases List.mem_cons.1 h with rfl | h
    · dsimp only; omega
    · obtain ⟨h1, h2, h3, h4, h5⟩ := sdep_mem h
      omega
theorem ix_crit (i : Nat) (h : i < 13) (W : World) : (Instr.indexAt 130 (.pointer (some ⟨0, 0, none⟩)) (.int .i64 (i : Int))).run Tryz.prog W = .ok (.pointer (some ⟨0, i, none⟩)) W := by
  have hz : (Go.sizeOf 9).run Tryz.prog W = .ok 1 W := by kernel_rfl
  have h0 : (0 : Int) ≤ (i : Int) ∧ (i : Int) < 13 := by omega
  simp [Instr.indexAt, run_underlying Tryz.underlying130, Instr.sureAddr, asIntOf, hz, h0, Addr.add, h]
  intro e
  exact e.symm
/-- The contract of steps for orders of a size. -/
def STP (N : Nat) : Prop := ∀ (p k : Nat) (s : List UInt8) (l : SF) (A : Option Addr) (m d : Nat) (w : World), l.sz < N → l.okB = true → l.cdep ≤ 17 → l.dep + k ≤ 100 → l.sz ≤ 2000 → PS w p s k → FGb p w → 0 < p → RepT (fun j => p ≤ j) w l A m d →
  s.length + (flines (sps k) l).length + 100 ≤ 900000 → Calls Tryz.prog 52 #[.pointer (some ⟨p, 0, none⟩), .slice A m d] w (PPst p k s (flines (sps k) l) w)
set_option maxHeartbeats 8000000 in
set_option maxRecDepth 100000 in
theorem fSteps1_of (N : Nat) (ih : STP N) (p k : Nat) (s : List UInt8) (l : SF) (q g : Nat) (cs : Array Value) (w : World) (hok : l.okB = true) (hcd : l.cdep ≤ 17) (hdk : l.dep + k ≤ 100) (hsz : l.sz ≤ 2000) (hN : l.sz < N) (hps : PS w p s k) (hg : FGb p w) (hcp : 0 < p)
    (hx : Blk w q 121 #[.pointer (some ⟨p, 0, none⟩)]) (hy : Blk w g 56 cs) {A : Option Addr} {m d : Nat} (hc : cs[6]? = some (.slice A m d)) (hr : RepT (fun j => p ≤ j) w l A m d) (hlen : s.length + (flines (sps k) l).length + 100 ≤ 900000) :
    Calls Tryz.prog 99 #[.pointer (some ⟨q, 0, none⟩), .pointer (some ⟨g, 0, none⟩)] w (PPst p k s (flines (sps k) l) w) := by
  have HC := Lib.hid (ih p k s l A m d w hN hok hcd hdk hsz hps hg hcp hr hlen)
  have x0 : w.cell? ⟨q, 0, none⟩ = some (.pointer (some ⟨p, 0, none⟩)) := hx.cell 0
  have y0 : w.cell? ⟨g, 6, none⟩ = some (.slice A m d) := (hy.cell 6).trans hc
  clear ih hok hcd hdk hsz hN hps hg hcp hx hy hc hr hlen
  go_enter Tryz.func99, Tryz.ntmps99
  go_wp2_with (fail)
  refine HC.out.mono ?_
  rintro e w2 ⟨rfl, hps, hpk⟩
  have H := Lib.hid (And.intro hps hpk)
  clear hps hpk x0 y0
  go_wp2_with (fail)
  go_end0
  exact ⟨rfl, H.out.1, H.out.2⟩
set_option maxHeartbeats 8000000 in
set_option maxRecDepth 100000 in
theorem fSteps2_of (N : Nat) (ih : STP N) (p k : Nat) (s : List UInt8) (l : SF) (q g : Nat) (cs : Array Value) (w : World) (hok : l.okB = true) (hcd : l.cdep ≤ 17) (hdk : l.dep + k ≤ 100) (hsz : l.sz ≤ 2000) (hN : l.sz < N) (hps : PS w p s k) (hg : FGb p w) (hcp : 0 < p)
    (hx : Blk w q 121 #[.pointer (some ⟨p, 0, none⟩)]) (hy : Blk w g 56 cs) {A : Option Addr} {m d : Nat} (hc : cs[7]? = some (.slice A m d)) (hr : RepT (fun j => p ≤ j) w l A m d) (hlen : s.length + (flines (sps k) l).length + 100 ≤ 900000) :
    Calls Tryz.prog 100 #[.pointer (some ⟨q, 0, none⟩), .pointer (some ⟨g, 0, none⟩)] w (PPst p k s (flines (sps k) l) w) := by
  have HC := Lib.hid (ih p k s l A m d w hN hok hcd hdk hsz hps hg hcp hr hlen)
  have x0 : w.cell? ⟨q, 0, none⟩ = some (.pointer (some ⟨p, 0, none⟩)) := hx.cell 0
  have y0 : w.cell? ⟨g, 7, none⟩ = some (.slice A m d) := (hy.cell 7).trans hc
  clear ih hok hcd hdk hsz hN hps hg hcp hx hy hc hr hlen
  go_enter Tryz.func100, Tryz.ntmps100
  go_wp2_with (fail)
  refine HC.out.mono ?_
  rintro e w2 ⟨rfl, hps, hpk⟩
  have H := Lib.hid (And.intro hps hpk)
  clear hps hpk x0 y0
  go_wp2_with (fail)
  go_end0
  exact ⟨rfl, H.out.1, H.out.2⟩
set_option maxHeartbeats 8000000 in
set_option maxRecDepth 100000 in
theorem stp_of (N : Nat) (ih : STP N) : STP (N + 1) := by
  intro p k s l A m d w hN hok hcd hdk hsz hps hg hcp hr hlen
  have HI := Lib.hid ih
  have HOK := Lib.hid hok
  have HD := Lib.hid (show l.cdep ≤ 17 ∧ l.dep + k ≤ 100 ∧ l.sz ≤ 2000 ∧ l.sz < N + 1 from ⟨hcd, hdk, hsz, hN⟩)
  have HP := Lib.hid hps
  have HG := Lib.hid hg
  have HR := Lib.hid hr
  have HLEN := Lib.hid hlen
  have HL := Lib.hid (hr.len.trans (stoL_len l).symm)
  have HF := Lib.hid (flines_L (sps k) l)
  have hp := hps.lt
  have hm6 : m ≤ 2000 := by have := hr.len; have := slen_sz l; omega
  have hk1000 : k ≤ 800 := by omega
  clear ih hN hok hcd hdk hsz hps hg hr hlen
  go_enter Tryz.func52, Tryz.ntmps52
  go_wp2_with (fail)
  first | (refine calls_named ?_; intro W hW) | (refine body_named ?_; intro W hW) | (refine wpList_named ?_; intro W hW) | (refine wp_named ?_; intro W hW)
  have hb1 : Below w.heap.size w W := by rw [← hW]; exact (Below.refl _ _).alloc (Nat.le_refl _) _
  have hx1 : Blk W w.heap.size 121 #[.pointer (some ⟨p, 0, none⟩)] := by rw [← hW]; exact Blk.new w _ _
  clear hW
  have HX1 := Lib.hid hx1
  have HP1 := Lib.hid (HP.out.below hb1)
  have HK1 := Lib.hid (PK.of_below hb1 (Nat.le_of_lt hp))
  clear hb1 hx1
  go_loopw [8] (fun q wr => ∃ i : Nat, i ≤ m ∧ q = .int .i64 i ∧ Hid (PS wr p (s ++ (l.toL.take i).flatMap (fstep (sps k))) k) ∧ Hid (PK p w wr) ∧ Hid (Blk wr w.heap.size 121 #[.pointer (some ⟨p, 0, none⟩)])) (fun q _ => m - (intOf q).toNat)
  case atStart => exact ⟨0, Nat.zero_le _, rfl, by show PS W p (s ++ []) k; rw [List.append_nil]; exact HP1.out, HK1.out, HX1.out⟩
  case round =>
    obtain ⟨i, him, rfl, HPr, HKr, HXr⟩ := hrel
    by_cases hlt : i < m
    · obtain ⟨b, off, x, B, n, e, B1, n1, e1, B2, n2, e2, rfl, hb, hS, hx, ⟨h0, h1, h2, h3, h4, h5, h6, h7⟩, hr, hr1, hr2⟩ := HR.out.elem hlt
      have hbp : b < p := Nat.lt_of_not_le hS
      rw [← HKr.out.below.cell (p := ⟨b, _, none⟩) hbp] at h0 h1 h2 h3 h4 h5 h6 h7
      have HX := Lib.hid hx
      have HOx := Lib.hid (okS_x (okS_mem HOK.out hx))
      have HRx := Lib.hid (hr.only HKr.out.only (fun _ h => h))
      have HR1 := Lib.hid (hr1.only HKr.out.only (fun _ h => h))
      have HR2 := Lib.hid (hr2.only HKr.out.only (fun _ h => h))
      have HZ := Lib.hid (ssz_mem hx)
      have HDx := Lib.hid (sdep_mem (mem_at hx))
      have q0 : wr.cell? ⟨w.heap.size, 0, none⟩ = some (.pointer (some ⟨p, 0, none⟩)) := HXr.out.cell 0
      have ql := HXr.out.lt
      have HT := Lib.hid (flatMap_take (fstep (sps k)) hx)
      have HTL := Lib.hid (flatMap_le (fstep (sps k)) l.toL (i + 1))
      clear hx hr hr1 hr2
      rcases HOx.out with hk | hk
      · have HB := Lib.hid (show fstep (sps k) x = sps k ++ critW x.b ++ [59, 10] from if_pos hk.1)
        obtain ⟨ci, hci, hci13, hcell⟩ := crit_at (HG.out.below HKr.out.below).now hk.2.1 hk.2.2.1
        have hk1 := hk.1
        rw [hk1] at h0
        rw [hci] at h1
        clear hk hk1
        go_wp2_with (fail)
        first | (refine calls_named ?_; intro W2 hW2) | (refine body_named ?_; intro W2 hW2) | (refine wpList_named ?_; intro W2 hW2) | (refine wp_named ?_; intro W2 hW2)
        have hb2 : Below wr.heap.size wr W2 := by rw [← hW2]; exact (Below.refl _ _).alloc (Nat.le_refl _) _
        have hy2 : Blk W2 wr.heap.size 56 #[.int .i64 1, .int .i64 ci, .int .i64 x.c.k, .int .i64 x.c.v, .int .i64 x.c.n, .slice B n e, .slice B1 n1 e1, .slice B2 n2 e2] := by rw [← hW2]; exact Blk.new wr _ _
        clear hW2
        have HP2 := Lib.hid (HPr.out.below hb2)
        have HK2 := Lib.hid (HKr.out.trans (PK.of_below hb2 (by omega)))
        have HX2 := Lib.hid (HXr.out.below hb2 ql)
        have hcl := World.block_lt_of_cell? wr _ hcell
        rw [← hb2.cell hcl] at hcell
        have r0 : W2.cell? ⟨w.heap.size, 0, none⟩ = some (.pointer (some ⟨p, 0, none⟩)) := HX2.out.cell 0
        have r1 : W2.cell? ⟨wr.heap.size, 1, none⟩ = some (.int .i64 ci) := hy2.cell 1
        have hyl := hy2.lt
        have hxl := HX2.out.lt
        have hcl2 := World.block_lt_of_cell? W2 _ hcell
        have HY2 := Lib.hid hy2
        have ixc := ix_crit ci hci13
        have hci0 : (0 : Int) ≤ (ci : Int) := by omega
        have hciu : (ci : Int) < 13 := by omega
        have HB2 := Lib.hid hb2
        clear hb2 hy2 h0 h1 h2 h3 h4 h5 h6 h7 q0
        generalize critW x.b = cw at hcell HB
        have HLX := Lib.hid (show (s ++ (l.toL.take i).flatMap (fstep (sps k))).length + (sps k).length + [cw, [59]].flatten.length + 1 ≤ 1000000 by
          have h1 := HLEN.out
          have h2 := HTL.out
          have h3 := congrArg List.length HT.out
          have h4 := congrArg List.length HB.out
          rw [HF.out] at h1
          simp only [List.length_append, List.length_cons, List.length_nil, List.flatten_cons, List.flatten_nil] at h1 h2 h3 h4 ⊢
          omega)
        go_region_held3 (fun w' => w'.cell? ⟨w.heap.size, 0, none⟩ = some (.pointer (some ⟨p, 0, none⟩)) ∧ w'.cell? ⟨wr.heap.size, 1, none⟩ = some (.int .i64 ci) ∧ w'.cell? ⟨0, ci, none⟩ = some (.string (bs cw)) ∧ Hid (PK p W2 w'))
          (first
            | (exact ⟨r0, r1, hcell, Lib.hid ⟨⟨rfl, rfl, rfl, Nat.le_refl _, fun _ _ => rfl⟩, (Lib.OthersKept.refl _ _ _).drew⟩⟩)
            | (have hbk : Below W2.heap.size W2 ((W2.alloc (.cells #[.string (bs cw), .string (bs [59])] 9)).drew) := ((Below.refl _ _).alloc (Nat.le_refl _) _).drew
               exact ⟨(hbk.cell hxl).trans r0, (hbk.cell hyl).trans r1, (hbk.cell hcl2).trans hcell, Lib.hid (PK.of_below hbk (by omega))⟩)
            | (exact ⟨z0, z1, z2, z3⟩))
          ((first
            | (go_at_call 49
               have hbk : Below W2.heap.size W2 ((W2.alloc (.cells #[.string (bs cw), .string (bs [59])] 9)).drew) := ((Below.refl _ _).alloc (Nat.le_refl _) _).drew
               have hnb : Blk ((W2.alloc (.cells #[.string (bs cw), .string (bs [59])] 9)).drew) W2.heap.size 9 #[.string (bs cw), .string (bs [59])] := Blk.new W2 _ _
               refine (line_any W2.heap.size 2 [cw, [59]] (HP2.out.below hbk) (by omega) hnb (by omega) rfl (by omega) HLX.out).mono ?_
               rintro e' w3 ⟨rfl, hps, hpk⟩
               have hpk2 := (PK.of_below hbk (by omega)).trans hpk
               have HP3 := Lib.hid hps
               have HK3 := Lib.hid (HK2.out.trans hpk2)
               have HX3 := Lib.hid (hpk2.blk HX2.out (by decide) (by omega))
               have z0 : w3.cell? ⟨w.heap.size, 0, none⟩ = some (.pointer (some ⟨p, 0, none⟩)) := HX3.out.cell 0
               have z1 : w3.cell? ⟨wr.heap.size, 1, none⟩ = some (.int .i64 ci) := (hpk2.blk HY2.out (by decide) (by omega)).cell 1
               have z2 := (hpk2.below.cell (p := ⟨0, ci, none⟩) hcp).trans hcell
               have z3 := Lib.hid hpk2
               clear hbk hnb hps hpk hpk2)))
        have HE := Lib.hid (show s ++ (l.toL.take i).flatMap (fstep (sps k)) ++ sps k ++ [cw, [59]].flatten ++ [10] = s ++ (l.toL.take (i + 1)).flatMap (fstep (sps k)) by
          rw [HT.out, HB.out]
          simp [List.append_assoc])
        have HP4 := Lib.hid (show PS w3 p (s ++ (l.toL.take (i + 1)).flatMap (fstep (sps k))) k by rw [← HE.out]; exact HP3.out)
        clear z0 z1 z2 r0 r1 hcell ixc
        go_wp2_with (fail)
        go_roundw
        case rel => exact ⟨i + 1, hlt, by go_num, HP4.out, HK3.out, HX3.out⟩
        case measure => simp [intOf]; omega
      · have hk_ := trivial
        -- IF-BEGIN
        have hk2 : x.k = 2 := hk.1
        have HK2c := Lib.hid hk
        have HTX := Lib.hid (show (ftext 100 x.c).length ≤ 200000 by have := (text_len 100 x.c).1; have := HZ.out; have := HD.out; omega)
        have HB := Lib.hid (show fstep (sps k) x = sps k ++ [105, 102, 32] ++ ftext 100 x.c ++ [32, 123, 10] ++ flines (sps (k + 1)) x.th ++ sps k ++ [125] ++ (if 0 < x.el.num then [32, 101, 108, 115, 101, 32, 123, 10] ++ flines (sps (k + 1)) x.el ++ sps k ++ [125] else []) ++ [10] by
          rw [sps_succ]
          exact if_neg (by rw [hk2]; decide))
        rw [hk2] at h0
        clear hk hk2
        obtain ⟨tx, HTx⟩ : ∃ tx, Hid (tx = ftext 100 x.c) := ⟨_, Lib.hid rfl⟩
        rw [← HTx.out] at HB HTX
        obtain ⟨T, HTT⟩ : ∃ T, Hid (T = (l.toL.take i).flatMap (fstep (sps k))) := ⟨_, Lib.hid rfl⟩
        rw [← HTT.out] at HT HPr
        have HLA := Lib.hid (show (s ++ T).length + (fstep (sps k) x).length + 100 ≤ 900000 by
          have h1 := HLEN.out
          have h2 := HTL.out
          have h3 := congrArg List.length HT.out
          rw [HF.out] at h1
          simp only [List.length_append] at h1 h2 h3 ⊢
          omega)
        have HLB := Lib.hid (show (s ++ T).length + (sps k ++ [105, 102, 32] ++ tx ++ [32, 123, 10] ++ flines (sps (k + 1)) x.th ++ sps k ++ [125] ++ (if 0 < x.el.num then [32, 101, 108, 115, 101, 32, 123, 10] ++ flines (sps (k + 1)) x.el ++ sps k ++ [125] else []) ++ [10]).length + 100 ≤ 900000 by
          have h1 := HLA.out
          rw [HB.out] at h1
          exact h1)
        go_wp2_with (fail)
        first | (refine calls_named ?_; intro W2 hW2) | (refine body_named ?_; intro W2 hW2) | (refine wpList_named ?_; intro W2 hW2) | (refine wp_named ?_; intro W2 hW2)
        have hb2 : Below wr.heap.size wr W2 := by rw [← hW2]; exact (Below.refl _ _).alloc (Nat.le_refl _) _
        have hy2 : Blk W2 wr.heap.size 56 #[.int .i64 2, .int .i64 x.b, .int .i64 x.c.k, .int .i64 x.c.v, .int .i64 x.c.n, .slice B n e, .slice B1 n1 e1, .slice B2 n2 e2] := by rw [← hW2]; exact Blk.new wr _ _
        clear hW2
        have HP2 := Lib.hid (HPr.out.below hb2)
        have HW2 := Lib.hid (show PK p wr W2 from PK.of_below hb2 (by omega))
        have HK2 := Lib.hid (HKr.out.trans HW2.out)
        have HX2 := Lib.hid (HXr.out.below hb2 ql)
        have HY2 := Lib.hid hy2
        have HRx2 := Lib.hid (HRx.out.below hb2)
        have r0 : W2.cell? ⟨w.heap.size, 0, none⟩ = some (.pointer (some ⟨p, 0, none⟩)) := HX2.out.cell 0
        have r2 : W2.cell? ⟨wr.heap.size, 2, none⟩ = some (.int .i64 x.c.k) := hy2.cell 2
        have r3 : W2.cell? ⟨wr.heap.size, 3, none⟩ = some (.int .i64 x.c.v) := hy2.cell 3
        have r4 : W2.cell? ⟨wr.heap.size, 4, none⟩ = some (.int .i64 x.c.n) := hy2.cell 4
        have r5 : W2.cell? ⟨wr.heap.size, 5, none⟩ = some (.slice B n e) := hy2.cell 5
        have hyl := hy2.lt
        have hxl := HX2.out.lt
        have HCT := Lib.hid ((tx_all 100).1 _ x.c B n e W2.drew HK2c.out.2.2.1 (by have := HDx.out.2.2.1; have := HD.out.1; unfold dpt; omega) (by have := HZ.out; have := HD.out; omega) (HRx2.out.below (show Below W2.heap.size W2 W2.drew from ⟨rfl, rfl, rfl, Nat.le_refl _, fun _ _ => rfl⟩)) (FGb.more (HG.out.below (HK2.out.below.trans (show Below p W2 W2.drew from ⟨rfl, rfl, rfl, Nat.le_refl _, fun _ _ => rfl⟩))) (by show p ≤ W2.heap.size; omega)))
        rw [show cV x.c B n e = .agg #[.int .i64 x.c.k, .int .i64 x.c.v, .int .i64 x.c.n, .slice B n e] from rfl] at HCT
        clear hb2 hy2 h0 h1 h2 h3 h4 h5 h6 h7 q0
        go_region_held3 (fun w' => w'.cell? ⟨w.heap.size, 0, none⟩ = some (.pointer (some ⟨p, 0, none⟩)) ∧ w'.cell? ⟨wr.heap.size, 2, none⟩ = some (.int .i64 x.c.k) ∧ w'.cell? ⟨wr.heap.size, 3, none⟩ = some (.int .i64 x.c.v) ∧ w'.cell? ⟨wr.heap.size, 4, none⟩ = some (.int .i64 x.c.n) ∧ w'.cell? ⟨wr.heap.size, 5, none⟩ = some (.slice B n e) ∧ Hid (PK p W2 w'))
          (first
            | (exact ⟨r0, r2, r3, r4, r5, Lib.hid ⟨⟨rfl, rfl, rfl, Nat.le_refl _, fun _ _ => rfl⟩, (Lib.OthersKept.refl _ _ _).drew⟩⟩)
            | (have hbk : Below w3.heap.size w3 (w3.alloc (.cells #[.string (bs [105, 102, 32]), .string (bs tx), .string (bs [32, 123])] 9)) := (Below.refl _ _).alloc (Nat.le_refl _) _
               have hz3 := hb3.size
               exact ⟨(hbk.cell (by show w.heap.size < _; omega)).trans z0, (hbk.cell (by show wr.heap.size < _; omega)).trans z2, (hbk.cell (by show wr.heap.size < _; omega)).trans z3, (hbk.cell (by show wr.heap.size < _; omega)).trans z4, (hbk.cell (by show wr.heap.size < _; omega)).trans z5, Lib.hid (zb.out.trans (PK.of_below hbk (by omega)))⟩)
            | (exact ⟨z0, z2, z3, z4, z5, zb⟩))
          ((first
            | (go_at_call 41
               refine (HCT.out).mono ?_
               rintro e' w3 ⟨rfl, hb3'⟩
               have hb3 : Below W2.heap.size W2 w3 := (show Below W2.heap.size W2 W2.drew from ⟨rfl, rfl, rfl, Nat.le_refl _, fun _ _ => rfl⟩).trans hb3'
               rw [← HTx.out]
               have z0 := (hb3.cell (p := ⟨w.heap.size, 0, none⟩) hxl).trans r0
               have z2 := (hb3.cell (p := ⟨wr.heap.size, 2, none⟩) hyl).trans r2
               have z3 := (hb3.cell (p := ⟨wr.heap.size, 3, none⟩) hyl).trans r3
               have z4 := (hb3.cell (p := ⟨wr.heap.size, 4, none⟩) hyl).trans r4
               have z5 := (hb3.cell (p := ⟨wr.heap.size, 5, none⟩) hyl).trans r5
               have zb := Lib.hid (PK.of_below hb3 (by omega : p ≤ W2.heap.size))
               have HP3 := Lib.hid (HP2.out.below hb3)
               clear hb3')
            | (go_at_call 49
               have hbk : Below w3.heap.size w3 (w3.alloc (.cells #[.string (bs [105, 102, 32]), .string (bs tx), .string (bs [32, 123])] 9)) := (Below.refl _ _).alloc (Nat.le_refl _) _
               have hnb : Blk (w3.alloc (.cells #[.string (bs [105, 102, 32]), .string (bs tx), .string (bs [32, 123])] 9)) w3.heap.size 9 #[.string (bs [105, 102, 32]), .string (bs tx), .string (bs [32, 123])] := Blk.new w3 _ _
               have hz3 := hb3.size
               refine (line_any w3.heap.size 3 [[105, 102, 32], tx, [32, 123]] (HP3.out.below hbk) (by omega) hnb (by omega) rfl (by omega) (by
                 have h1 := HLB.out
                 simp only [List.length_append, List.length_cons, List.length_nil, List.flatten_cons, List.flatten_nil] at h1 ⊢
                 omega)).mono ?_
               rintro e' w4 ⟨rfl, hps, hpk⟩
               have hpk2 := (zb.out.trans (PK.of_below hbk (by omega))).trans hpk
               have HP4 := Lib.hid (show PS w4 p (s ++ T ++ (sps k ++ [105, 102, 32] ++ tx ++ [32, 123, 10])) k by simpa [List.append_assoc] using hps)
               have HK4 := Lib.hid (HK2.out.trans hpk2)
               have HW4 := Lib.hid (HW2.out.trans hpk2)
               have HX4 := Lib.hid (hpk2.blk HX2.out (by decide) (by omega))
               have HY4 := Lib.hid (hpk2.blk HY2.out (by decide) (by omega))
               have z0 : w4.cell? ⟨w.heap.size, 0, none⟩ = some (.pointer (some ⟨p, 0, none⟩)) := HX4.out.cell 0
               have z2 : w4.cell? ⟨wr.heap.size, 2, none⟩ = some (.int .i64 x.c.k) := HY4.out.cell 2
               have z3 : w4.cell? ⟨wr.heap.size, 3, none⟩ = some (.int .i64 x.c.v) := HY4.out.cell 3
               have z4 : w4.cell? ⟨wr.heap.size, 4, none⟩ = some (.int .i64 x.c.n) := HY4.out.cell 4
               have z5 : w4.cell? ⟨wr.heap.size, 5, none⟩ = some (.slice B n e) := HY4.out.cell 5
               have zb := Lib.hid hpk2
               clear hbk hnb hps hpk hpk2)))
        clear z0 z2 z3 z4 z5 r0 r2 r3 r4 r5 hb3 HP3
        have q0 : w4.cell? ⟨w.heap.size, 0, none⟩ = some (.pointer (some ⟨p, 0, none⟩)) := HX4.out.cell 0
        go_wp2_with (fail)
        refine (pwithin_any 99 #[.pointer (some ⟨w.heap.size, 0, none⟩), .pointer (some ⟨wr.heap.size, 0, none⟩)] (flines (sps (k + 1)) x.th) HP4.out (by omega) (enters_of Tryz.func99 (by kernel_rfl) rfl) (fun w' hs' hk' => fSteps1_of N HI.out p (k + 1) _ x.th w.heap.size wr.heap.size #[.int .i64 2, .int .i64 x.b, .int .i64 x.c.k, .int .i64 x.c.v, .int .i64 x.c.n, .slice B n e, .slice B1 n1 e1, .slice B2 n2 e2] w' HK2c.out.2.2.2.2.1 (by have := HDx.out; have := HD.out; omega) (by have := HDx.out; have := HD.out; omega) (by have := HZ.out; have := HD.out; omega) (by have := HZ.out; have := HD.out; omega) hs' (HG.out.below ((HK4.out.trans hk').below)) hcp (hk'.blk HX4.out (by decide) (by omega)) (hk'.blk HY4.out (by decide) (by omega)) rfl (HR1.out.only ((show PK p wr w4 from HW4.out).trans hk').only (fun _ h => h)) (by
          have h1 := HLB.out
          simp only [List.length_append, List.length_cons, List.length_nil] at h1 ⊢
          omega))).mono ?_
        rintro e' w5 ⟨rfl, hps, hpk⟩
        have HP5 := Lib.hid (show PS w5 p (s ++ T ++ (sps k ++ [105, 102, 32] ++ tx ++ [32, 123, 10]) ++ flines (sps (k + 1)) x.th) k by simpa [List.append_assoc] using hps)
        have HK5 := Lib.hid (HK4.out.trans hpk)
        have HX5 := Lib.hid (hpk.blk HX4.out (by decide) (by omega))
        have HY5 := Lib.hid (hpk.blk HY4.out (by decide) (by omega))
        have HW5 := Lib.hid ((show PK p wr w4 from HW4.out).trans hpk)
        clear hps hpk q0
        have u6 : w5.cell? ⟨wr.heap.size, 7, none⟩ = some (.slice B2 n2 e2) := HY5.out.cell 7
        have q0 : w5.cell? ⟨w.heap.size, 0, none⟩ = some (.pointer (some ⟨p, 0, none⟩)) := HX5.out.cell 0
        have hp5 := HP5.out.lt
        have hyl5 := HY5.out.lt
        have hxl5 := HX5.out.lt
        by_cases hel : 0 < n2
        · have HB2 := Lib.hid (HB.out.trans (by rw [if_pos (show 0 < x.el.num by rw [snum_len, ← HR2.out.len]; exact hel)]))
          have HLC := Lib.hid (show (s ++ T).length + (sps k ++ [105, 102, 32] ++ tx ++ [32, 123, 10] ++ flines (sps (k + 1)) x.th ++ sps k ++ [125] ++ ([32, 101, 108, 115, 101, 32, 123, 10] ++ flines (sps (k + 1)) x.el ++ sps k ++ [125]) ++ [10]).length + 100 ≤ 900000 by
            have h1 := HLA.out
            rw [HB2.out] at h1
            exact h1)
          go_wp2_with (fail)
          first | (refine calls_named ?_; intro W6 hW6) | (refine body_named ?_; intro W6 hW6) | (refine wpList_named ?_; intro W6 hW6) | (refine wp_named ?_; intro W6 hW6)
          have hb6 : Below w5.heap.size w5 W6 := by rw [← hW6]; exact (Below.refl _ _).alloc (Nat.le_refl _) _
          have hx6 : Blk W6 w5.heap.size 9 #[.string (bs [125, 32, 101, 108, 115, 101, 32, 123])] := by rw [← hW6]; exact Blk.new w5 _ _
          clear hW6
          have hpl6 := HP5.out.lt
          refine (line_any w5.heap.size 1 [[125, 32, 101, 108, 115, 101, 32, 123]] (HP5.out.below hb6) (by omega) hx6 (by omega) rfl (by omega) (by
            have h1 := HLC.out
            simp only [List.length_append, List.length_cons, List.length_nil, List.flatten_cons, List.flatten_nil] at h1 ⊢
            omega)).mono ?_
          rintro e' w6 ⟨rfl, hps, hpk⟩
          have hpk2 := (PK.of_below hb6 (Nat.le_of_lt hpl6)).trans hpk
          have HP6 := Lib.hid (show PS w6 p (s ++ T ++ (sps k ++ [105, 102, 32] ++ tx ++ [32, 123, 10]) ++ flines (sps (k + 1)) x.th ++ (sps k ++ [125, 32, 101, 108, 115, 101, 32, 123, 10])) k by simpa [List.append_assoc] using hps)
          have HK6 := Lib.hid (HK5.out.trans hpk2)
          have HX6 := Lib.hid (hpk2.blk HX5.out (by decide) (by omega))
          have HY6 := Lib.hid (hpk2.blk HY5.out (by decide) (by omega))
          have HP6K := Lib.hid hpk2
          clear hps hpk hpk2 hb6 hx6
          have HW6 := Lib.hid (show PK p wr w6 from HW5.out.trans HP6K.out)
          clear u6 q0
          have q0 : w6.cell? ⟨w.heap.size, 0, none⟩ = some (.pointer (some ⟨p, 0, none⟩)) := HX6.out.cell 0
          go_wp2_with (fail)
          refine (pwithin_any 100 #[.pointer (some ⟨w.heap.size, 0, none⟩), .pointer (some ⟨wr.heap.size, 0, none⟩)] (flines (sps (k + 1)) x.el) HP6.out (by omega) (enters_of Tryz.func100 (by kernel_rfl) rfl) (fun w' hs' hk' => fSteps2_of N HI.out p (k + 1) _ x.el w.heap.size wr.heap.size #[.int .i64 2, .int .i64 x.b, .int .i64 x.c.k, .int .i64 x.c.v, .int .i64 x.c.n, .slice B n e, .slice B1 n1 e1, .slice B2 n2 e2] w' HK2c.out.2.2.2.2.2 (by have := HDx.out; have := HD.out; omega) (by have := HDx.out; have := HD.out; omega) (by have := HZ.out; have := HD.out; omega) (by have := HZ.out; have := HD.out; omega) hs' (HG.out.below ((HK6.out.trans hk').below)) hcp (hk'.blk HX6.out (by decide) (by omega)) (hk'.blk HY6.out (by decide) (by omega)) rfl (HR2.out.only ((show PK p wr w6 from HW6.out).trans hk').only (fun _ h => h)) (by
            have h1 := HLC.out
            simp only [List.length_append, List.length_cons, List.length_nil] at h1 ⊢
            omega))).mono ?_
          rintro e' w7 ⟨rfl, hps, hpk⟩
          have HP7 := Lib.hid (show PS w7 p (s ++ T ++ (sps k ++ [105, 102, 32] ++ tx ++ [32, 123, 10]) ++ flines (sps (k + 1)) x.th ++ (sps k ++ [125, 32, 101, 108, 115, 101, 32, 123, 10]) ++ flines (sps (k + 1)) x.el) k by simpa [List.append_assoc] using hps)
          have HK7 := Lib.hid (HK6.out.trans hpk)
          have HX7 := Lib.hid (hpk.blk HX6.out (by decide) (by omega))
          have HY7 := Lib.hid (hpk.blk HY6.out (by decide) (by omega))
          have HW7 := Lib.hid ((show PK p wr w6 from HW6.out).trans hpk)
          clear hps hpk q0
          have q0 : w7.cell? ⟨w.heap.size, 0, none⟩ = some (.pointer (some ⟨p, 0, none⟩)) := HX7.out.cell 0
          have hp7 := HP7.out.lt
          have hyl7 := HY7.out.lt
          have hxl7 := HX7.out.lt
          go_wp2_with (fail)
          first | (refine calls_named ?_; intro W8 hW8) | (refine body_named ?_; intro W8 hW8) | (refine wpList_named ?_; intro W8 hW8) | (refine wp_named ?_; intro W8 hW8)
          have hb8 : Below w7.heap.size w7 W8 := by rw [← hW8]; exact (Below.refl _ _).alloc (Nat.le_refl _) _
          have hx8 : Blk W8 w7.heap.size 9 #[.string (bs [125])] := by rw [← hW8]; exact Blk.new w7 _ _
          clear hW8
          have hpl8 := HP7.out.lt
          refine (line_any w7.heap.size 1 [[125]] (HP7.out.below hb8) (by omega) hx8 (by omega) rfl (by omega) (by
            have h1 := HLC.out
            simp only [List.length_append, List.length_cons, List.length_nil, List.flatten_cons, List.flatten_nil] at h1 ⊢
            omega)).mono ?_
          rintro e' w8 ⟨rfl, hps, hpk⟩
          have hpk2 := (PK.of_below hb8 (Nat.le_of_lt hpl8)).trans hpk
          have HP8 := Lib.hid (show PS w8 p (s ++ T ++ (sps k ++ [105, 102, 32] ++ tx ++ [32, 123, 10]) ++ flines (sps (k + 1)) x.th ++ (sps k ++ [125, 32, 101, 108, 115, 101, 32, 123, 10]) ++ flines (sps (k + 1)) x.el ++ (sps k ++ [125, 10])) k by simpa [List.append_assoc] using hps)
          have HK8 := Lib.hid (HK7.out.trans hpk2)
          have HX8 := Lib.hid (hpk2.blk HX7.out (by decide) (by omega))
          have HY8 := Lib.hid (hpk2.blk HY7.out (by decide) (by omega))
          have HP8K := Lib.hid hpk2
          clear hps hpk hpk2 hb8 hx8
          have HPF := Lib.hid (show PS w8 p (s ++ (l.toL.take (i + 1)).flatMap (fstep (sps k))) k by
            rw [HT.out, HB2.out]
            simpa [List.append_assoc] using HP8.out)
          go_wp2_with (fail)
          go_roundw
          case rel => exact ⟨i + 1, hlt, by go_num, HPF.out, HK8.out, HX8.out⟩
          case measure => simp [intOf]; omega
        · have HB2 := Lib.hid (HB.out.trans (by rw [if_neg (show ¬ 0 < x.el.num by rw [snum_len, ← HR2.out.len]; exact hel)]))
          have hn2 : n2 = 0 := by omega
          have HLC := Lib.hid (show (s ++ T).length + (sps k ++ [105, 102, 32] ++ tx ++ [32, 123, 10] ++ flines (sps (k + 1)) x.th ++ sps k ++ [125] ++ [] ++ [10]).length + 100 ≤ 900000 by
            have h1 := HLA.out
            rw [HB2.out] at h1
            exact h1)
          clear hel
          go_wp2_with (fail)
          first | (refine calls_named ?_; intro W6 hW6) | (refine body_named ?_; intro W6 hW6) | (refine wpList_named ?_; intro W6 hW6) | (refine wp_named ?_; intro W6 hW6)
          have hb6 : Below w5.heap.size w5 W6 := by rw [← hW6]; exact (Below.refl _ _).alloc (Nat.le_refl _) _
          have hx6 : Blk W6 w5.heap.size 9 #[.string (bs [125])] := by rw [← hW6]; exact Blk.new w5 _ _
          clear hW6
          have hpl6 := HP5.out.lt
          refine (line_any w5.heap.size 1 [[125]] (HP5.out.below hb6) (by omega) hx6 (by omega) rfl (by omega) (by
            have h1 := HLC.out
            simp only [List.length_append, List.length_cons, List.length_nil, List.flatten_cons, List.flatten_nil] at h1 ⊢
            omega)).mono ?_
          rintro e' w6 ⟨rfl, hps, hpk⟩
          have hpk2 := (PK.of_below hb6 (Nat.le_of_lt hpl6)).trans hpk
          have HP6 := Lib.hid (show PS w6 p (s ++ T ++ (sps k ++ [105, 102, 32] ++ tx ++ [32, 123, 10]) ++ flines (sps (k + 1)) x.th ++ (sps k ++ [125, 10])) k by simpa [List.append_assoc] using hps)
          have HK6 := Lib.hid (HK5.out.trans hpk2)
          have HX6 := Lib.hid (hpk2.blk HX5.out (by decide) (by omega))
          have HY6 := Lib.hid (hpk2.blk HY5.out (by decide) (by omega))
          have HP6K := Lib.hid hpk2
          clear hps hpk hpk2 hb6 hx6
          have HPF := Lib.hid (show PS w6 p (s ++ (l.toL.take (i + 1)).flatMap (fstep (sps k))) k by
            rw [HT.out, HB2.out]
            simpa [List.append_assoc] using HP6.out)
          go_wp2_with (fail)
          go_roundw
          case rel => exact ⟨i + 1, hlt, by go_num, HPF.out, HK6.out, HX6.out⟩
          case measure => simp [intOf]; omega
        -- IF-END
    · have HPF := Lib.hid (show PS wr p (s ++ flines (sps k) l) k by
        have h := HPr.out
        rw [List.take_of_length_le (by rw [← HL.out]; omega), ← HF.out] at h
        exact h)
      go_wp2_with (fail)
      go_end0
      exact ⟨rfl, HPF.out, HKr.out⟩
theorem stp_all : ∀ N, STP N
  | 0 => fun p k s l A m d w hN => absurd hN (Nat.not_lt_zero _)
  | N + 1 => stp_of N (stp_all N)
end Go.Proofs.YticpjdjdimpglaaGreatDoor
