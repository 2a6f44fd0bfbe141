/- The reference's CoreSteps by its contract. -/
import Derived.Test.YticpjdjdimpglaaGreatDoorCFpaMCor
import Derived.Test.YticpjdjdimpglaaGreatDoorCFpaMSink
import Derived.Test.YticpjdjdimpglaaGreatDoorCFpaMKeyword
import Derived.Test.YticpjdjdimpglaaGreatDoorCFpaMSam
import Derived.Deep.RegionLaw
namespace Go.Proofs.YticpjdjdimpglaaGreatDoor
set_option linter.unusedVariables false
set_option linter.unusedSimpArgs false
open Go.RowKit
def coreST (x : ST) : ST := if x.k = 2 then ⟨2, 0, cores x.c, coreS x.th, coreS x.el⟩ else x
theorem coreS_list : ∀ F : SF, coreS F = SF.ofL (F.toL.map coreST)
  | .nil => by rw [coreS]; rfl
  | .cons k b ck cv cn cps th el r => by
    rw [SF.toL, List.map_cons, SF.ofL, ← coreS_list r, coreS]
    unfold coreST
    by_cases hk : k = 2
    · rw [if_pos hk, if_pos hk]
    · rw [if_neg hk, if_neg hk]
      rfl
theorem ofL_snoc (l : List ST) (x : ST) : SF.ofL (l ++ [x]) = (SF.ofL l).appF x.one := by
  induction l with
  | nil => rfl
  | cons y l ih => rw [List.cons_append, SF.ofL, SF.ofL, ih]; rfl
theorem SSt.made {S : Nat → Prop} {w0 W : World} {g : Nat} (h : Blk W g 56 #[]) (h0 : w0.heap.size ≤ g) : SSt S w0 W .nil (some ⟨g, 0, none⟩) 0 0 :=
  ⟨rfl, Nat.le_trans h0 (Nat.le_of_lt h.lt), [], own_of_blk2 (xs := []) (m := 0) (size := 8) h rfl h0 (by omega), rfl⟩
theorem szl_mem2 : ∀ {l : SF} {x : ST}, x ∈ l.toL → x.c.ps.cnt + 2 + x.th.sz + x.el.sz ≤ l.sz
  | .cons k b ck cv cn cps th el r, x, h => by
    rw [SF.toL] at h
    rw [SF.sz]
    rcases List.mem_cons.1 h with rfl | h
    · dsimp only
      omega
    · have := szl_mem2 (l := r) h
      omega
section
variable {P : Program} {ops : Array Oper} {o : Oper} {a : Act} {w : World} {Q : Exit → Act → World → Prop}
/-- A wide value stored over a whole block comes up. -/
theorem wpOp_store_row {i : Nat} {K : Act → World → Prop} (ho : ops[i]? = some o) (hgd : o.guard = none) (ty : TypeId) (p x : Operand) (hop : o.op = .store ty p x) (g : Nat) (hp : a.eval p = .pointer (some ⟨g, 0, none⟩)) (cs cur : Array Value) (hx : a.eval x = .agg cs)
    (t : TypeId) (hb : Blk w g t cur) (hsz : cs.size = cur.size) (hi : (P.info? ty).map (·.size) = some cs.size) (h1 : ∀ v ∈ cs.toList, v.oneCell' = true)
    (h : K (a.put o.dst undef) (w.setRow g cs)) : wpOp P ops Q i K a w := by
  have hrun : (execOp a.eval o).run P w = .ok .skip (w.setRow g cs) := by
    unfold execOp
    have hst := run_storeCells_from (P := P) g t cs.toList 0 cur w hb (by simpa using hsz) h1
    cases hq : P.info? ty with
    | none => simp [hq] at hi
    | some i =>
      have hs : i.size = cs.size := by simpa [hq] using hi
      simp only [List.take_zero, List.nil_append, Array.toArray_toList] at hst
      simp [hop, hp, hx, Instr.storeAt, Instr.sureAddr, storeVar, sizeOf, typeInfo, hq, hs, Value.cells, hst, Sem.run_bind, Result.andThen]
  unfold wpOp
  rw [ho]
  simp only
  rw [if_pos (by simp [Region.wanted, hgd])]
  left
  unfold Oper.wp
  rw [hrun]
  exact h
/-- The same as the last operation of a region, from a state that is laid out. -/
theorem Q0_store {n : Nat} {a' : Act} (hl : a = a') (ho : ops[n]? = some o) (hgd : o.guard = none) (hdst : o.dst = none) (ty : TypeId) (p x : Operand) (hop : o.op = .store ty p x) (g : Nat) (hp : a'.eval p = .pointer (some ⟨g, 0, none⟩)) (cs cur : Array Value) (hx : a'.eval x = .agg cs)
    (t : TypeId) (hb : Blk w g t cur) (hsz : cs.size = cur.size) (hi : (P.info? ty).map (·.size) = some cs.size) (h1 : ∀ v ∈ cs.toList, v.oneCell' = true)
    (h : Q .normal a' (w.setRow g cs)) : Q0 P ops Q n .normal a w := by
  subst hl
  refine Q0_normal (wpOp_store_row ho hgd ty p x hop g hp cs cur hx t hb hsz hi h1 ?_)
  rw [hdst]
  exact h
end
/-- The cells that the region reads. -/
def CS7 (xb : Nat) (x : ST) (Bc : Option Addr) (nc ec : Nat) (B1 : Option Addr) (n1 e1 : Nat) (B2 : Option Addr) (n2 e2 : Nat) (W2 W : World) : Prop :=
  W.cell? ⟨xb, 2, none⟩ = some (.int .i64 x.c.k) ∧ W.cell? ⟨xb, 3, none⟩ = some (.int .i64 x.c.v) ∧ W.cell? ⟨xb, 4, none⟩ = some (.int .i64 x.c.n) ∧ W.cell? ⟨xb, 5, none⟩ = some (.slice Bc nc ec) ∧ W.cell? ⟨xb, 6, none⟩ = some (.slice B1 n1 e1) ∧ W.cell? ⟨xb, 7, none⟩ = some (.slice B2 n2 e2) ∧ Below W2.heap.size W2 W
/-- The contract of CoreSteps for steps of a size. -/
def CSS (N : Nat) : Prop := ∀ (S : Nat → Prop) (F : SF) (A : Option Addr) (m d : Nat) (w : World), F.sz < N → F.sz ≤ 900000 → (∀ k, S k → k < w.heap.size) → RepT S w F A m d →
  Calls Tryz.prog 33 #[.slice A m d] w fun e w' => Below w.heap.size w w' ∧ ∃ A' m' d', e = .returned (.slice A' m' d') ∧ RepT S w' (coreS F) A' m' d'
set_option maxHeartbeats 8000000 in
set_option maxRecDepth 100000 in
theorem css_of (N : Nat) (ih : CSS N) : CSS (N + 1) := by
  intro S F A m d w hN hz hS h
  have HI := Lib.hid ih
  have HR := Lib.hid h
  have HS := Lib.hid hS
  have HN := Lib.hid hN
  have HZ := Lib.hid hz
  have HL := Lib.hid (h.len.trans (stoL_len F).symm)
  have HSZ := Lib.hid (show ∀ x ∈ F.toL, x.c.ps.cnt + 2 + x.th.sz + x.el.sz ≤ F.sz from fun x hx => szl_mem2 hx)
  have HE := Lib.hid (coreS_list F)
  have hc := h.choose_spec.1.cap
  have hbg := h.choose_spec.1.big
  have HM := Lib.hid (show m ≤ F.sz by rw [h.len]; exact slen_sz F)
  clear ih h hS hN hz
  generalize coreS F = r at HE ⊢
  go_enter Tryz.func33, Tryz.ntmps33
  go_wp2_with (fail)
  first | (refine calls_named ?_; intro w1 hW) | (refine body_named ?_; intro w1 hW) | (refine wpList_named ?_; intro w1 hW) | (refine wp_named ?_; intro w1 hW)
  have hb1 : Below w.heap.size w w1 := by rw [← hW]; exact (Below.refl _ _).alloc (Nat.le_refl _) _
  have hx1 : Blk w1 w.heap.size 56 #[] := by rw [← hW]; exact Blk.new w _ _
  clear hW
  have HB1 := Lib.hid hb1
  have HST := Lib.hid (SSt.made (S := S) (w0 := w) hx1 (Nat.le_refl _))
  clear hb1 hx1
  go_loopw [3, 4] (fun o q wr => ∃ (i : Nat) (A' : Option Addr) (c' : Nat), i ≤ m ∧ q = .int .i64 i ∧ o = .slice A' i c' ∧ Hid (SSt S w wr (SF.ofL ((F.toL.take i).map coreST)) A' i c') ∧ Hid (Below w.heap.size w wr)) (fun _ q _ => m - (intOf q).toNat)
  case atStart => exact ⟨0, _, 0, Nat.zero_le _, rfl, rfl, HST.out, HB1.out⟩
  case round =>
    obtain ⟨i, A', c', him, rfl, rfl, HSS, HB⟩ := hrel
    clear HST HB1
    by_cases hlt : i < m
    · obtain ⟨b, off, x, Bc, nc, ec, B1, n1, e1, B2, n2, e2, rfl, hb, hSb, hx, ⟨g0, g1, g2, g3, g4, g5, g6, g7⟩, k1, k2, k3⟩ := HR.out.elem hlt
      rw [← HB.out.cell (p := ⟨b, _, none⟩) hb] at g0 g1 g2 g3 g4 g5 g6 g7
      have hbl : b < wr.heap.size := Nat.lt_of_lt_of_le hb HB.out.size
      have hmem := List.mem_of_getElem? hx
      have HTK := Lib.hid (show SF.ofL ((F.toL.take (i + 1)).map coreST) = (SF.ofL ((F.toL.take i).map coreST)).appF (coreST x).one by
        rw [List.take_add_one, hx, List.map_append]
        exact ofL_snoc _ _)
      have HXZ := Lib.hid (HSZ.out x hmem)
      have HC1 := Lib.hid k1
      have HC2 := Lib.hid k2
      have HC3 := Lib.hid k3
      clear hx hmem k1 k2 k3 hSb
      have hi2 : (i : Int) < (m : Int) := by omega
      have HSL := Lib.hid (show ∀ k, (S k ∨ (Value.slice A' i c').ownBlock = some k ∨ k = wr.heap.size) → k < wr.heap.size + 1 ∧ (S k ∨ w.heap.size ≤ k) from fun k hk => by
        have hsz := HB.out.size
        rcases hk with hk | hk | rfl
        · have := HS.out k hk
          exact ⟨by omega, .inl hk⟩
        · have := HSS.out.own_lt k hk
          exact ⟨by omega, .inr this.1⟩
        · exact ⟨by omega, .inr hsz⟩)
      by_cases hk : x.k = 2
      · have hk2 : (x.k == 2) = true := by rw [hk]; rfl
        have HK := Lib.hid (show coreST x = ⟨2, 0, cores x.c, coreS x.th, coreS x.el⟩ by unfold coreST; rw [if_pos hk])
        clear hk
        go_wp2_with (fail)
        first | (refine calls_named ?_; intro W2 hW2) | (refine body_named ?_; intro W2 hW2) | (refine wpList_named ?_; intro W2 hW2) | (refine wp_named ?_; intro W2 hW2)
        have hb2 : Below wr.heap.size wr W2 := by rw [← hW2]; exact (Below.refl _ _).alloc (Nat.le_refl _) _
        have hx2 : Blk W2 wr.heap.size 56 #[.int .i64 x.k, .int .i64 x.b, .int .i64 x.c.k, .int .i64 x.c.v, .int .i64 x.c.n, .slice Bc nc ec, .slice B1 n1 e1, .slice B2 n2 e2] := by rw [← hW2]; exact Blk.new wr _ _
        clear hW2 g0 g1 g2 g3 g4 g5 g6 g7
        have HB2 := Lib.hid (HB.out.trans (hb2.mono HB.out.size))
        have HBr := Lib.hid hb2
        have HX2 := Lib.hid hx2
        have HSL2 := Lib.hid (show ∀ k, (S k ∨ (Value.slice A' i c').ownBlock = some k ∨ k = wr.heap.size) → k < W2.heap.size from fun k hk => by
          have h1 := (HSL.out k hk).1
          have h2 := hx2.lt
          omega)
        clear hb2 hx2
        have ZB := Lib.hid (show Below W2.heap.size W2 W2.drew from ⟨rfl, rfl, rfl, Nat.le_refl _, fun _ _ => rfl⟩)
        have C1 := Lib.hid (fun (W : World) (hW : Below W2.heap.size W2 W) => crs_all (x.c.ps.cnt + 1) (fun k => S k ∨ (Value.slice A' i c').ownBlock = some k ∨ k = wr.heap.size) S x.c Bc nc ec W (Nat.lt_succ_self _) (by have h1 := HXZ.out; have h2 := HZ.out; omega) (fun k hk => Nat.lt_of_lt_of_le (HSL2.out k hk) hW.size) (HC1.out.below (HB2.out.trans (hW.mono HB2.out.size))))
        have C2 := Lib.hid (fun (W : World) (hW : Below W2.heap.size W2 W) => HI.out (fun k => S k ∨ (Value.slice A' i c').ownBlock = some k ∨ k = wr.heap.size) x.th B1 n1 e1 W (by have h1 := HXZ.out; have h2 := HN.out; omega) (by have h1 := HXZ.out; have h2 := HZ.out; omega) (fun k hk => Nat.lt_of_lt_of_le (HSL2.out k hk) hW.size) ((HC2.out.new.below (HB2.out.trans (hW.mono HB2.out.size))).sub fun k hk => (HSL.out k hk).2))
        have C3 := Lib.hid (fun (W : World) (hW : Below W2.heap.size W2 W) => HI.out (fun k => S k ∨ (Value.slice A' i c').ownBlock = some k ∨ k = wr.heap.size) x.el B2 n2 e2 W (by have h1 := HXZ.out; have h2 := HN.out; omega) (by have h1 := HXZ.out; have h2 := HZ.out; omega) (fun k hk => Nat.lt_of_lt_of_le (HSL2.out k hk) hW.size) ((HC3.out.new.below (HB2.out.trans (hW.mono HB2.out.size))).sub fun k hk => (HSL.out k hk).2))
        have xl := HX2.out.lt
        generalize hxb : wr.heap.size = xb at *
        have HXB := Lib.hid hxb
        clear hxb
        have HSW := Lib.hid (show ∀ W, Below W2.heap.size W2 W → CS7 xb x Bc nc ec B1 n1 e1 B2 n2 e2 W2 W from fun W hb => by
          have hx := HX2.out.below hb HX2.out.lt
          exact ⟨hx.cell 2, hx.cell 3, hx.cell 4, hx.cell 5, hx.cell 6, hx.cell 7, hb⟩)
        refine wp_region_tail (n := 10) (S := CS7 xb x Bc nc ec B1 n1 e1 B2 n2 e2 W2) mixF rfl (by kernel_rfl) (by kernel_rfl) (by kernel_rfl) rfl rfl ?_
        refine wpAnyH_take (i := 0) (v := .pointer (some ⟨xb, 2, none⟩)) rfl (by kernel_rfl) (by kernel_rfl) (by kernel_rfl) (fun _ _ _ h => h) (Or.inl ⟨by rfl, fun W hW => ?_⟩) (HSW.out _ ZB.out) ?_
        · go_simp
        refine wpAnyH_take (i := 1) (v := .agg #[.int .i64 x.c.k, .int .i64 x.c.v, .int .i64 x.c.n, .slice Bc nc ec]) rfl (by kernel_rfl) (by kernel_rfl) (by kernel_rfl) (fun _ _ _ h => h) (Or.inl ⟨by rfl, fun W hW => ?_⟩) (HSW.out _ ZB.out) ?_
        · (obtain ⟨z2, z3, z4, z5, z6, z7, zb⟩ := hW; go_simp)
        refine wpAnyH_take (i := 3) (v := .pointer (some ⟨xb, 6, none⟩)) rfl (by kernel_rfl) (by kernel_rfl) (by kernel_rfl) (fun _ _ _ h => h) (Or.inl ⟨by rfl, fun W hW => ?_⟩) (HSW.out _ ZB.out) ?_
        · go_simp
        refine wpAnyH_take (i := 4) (v := .slice B1 n1 e1) rfl (by kernel_rfl) (by kernel_rfl) (by kernel_rfl) (fun _ _ _ h => h) (Or.inl ⟨by rfl, fun W hW => ?_⟩) (HSW.out _ ZB.out) ?_
        · (obtain ⟨z2, z3, z4, z5, z6, z7, zb⟩ := hW; go_simp)
        refine wpAnyH_take (i := 6) (v := .pointer (some ⟨xb, 7, none⟩)) rfl (by kernel_rfl) (by kernel_rfl) (by kernel_rfl) (fun _ _ _ h => h) (Or.inl ⟨by rfl, fun W hW => ?_⟩) (HSW.out _ ZB.out) ?_
        · go_simp
        refine wpAnyH_take (i := 7) (v := .slice B2 n2 e2) rfl (by kernel_rfl) (by kernel_rfl) (by kernel_rfl) (fun _ _ _ h => h) (Or.inl ⟨by rfl, fun W hW => ?_⟩) (HSW.out _ ZB.out) ?_
        · (obtain ⟨z2, z3, z4, z5, z6, z7, zb⟩ := hW; go_simp)
        refine wpAnyH_all (rs := [2]) (by kernel_rfl) (by simp) ?_
        intro q hq
        have hq2 := List.mem_singleton.1 hq
        subst hq2
        clear hq
        refine wpOp_call (f := 31) (vals := #[.agg #[.int .i64 x.c.k, .int .i64 x.c.v, .int .i64 x.c.n, .slice Bc nc ec]]) rfl rfl (by go_simp) ?_
        refine (C1.out _ ZB.out).mono ?_
        rintro e' wn ⟨hbn, Aa, ma, da, rfl, hrn⟩
        have ZB := Lib.hid (ZB.out.trans (hbn.mono ZB.out.size))
        have HA1 := Lib.hid hrn
        clear hbn hrn
        refine ⟨_, rfl, HSW.out _ ZB.out, ?_⟩
        refine wpAnyH_all (rs := [5]) (by kernel_rfl) (by simp) ?_
        intro q hq
        have hq2 := List.mem_singleton.1 hq
        subst hq2
        clear hq
        refine wpOp_call (f := 33) (vals := #[.slice B1 n1 e1]) rfl rfl (by go_simp) ?_
        refine (C2.out _ ZB.out).mono ?_
        rintro e' wm ⟨hbn, Ab, mb, db, rfl, hrn⟩
        have HA1 := Lib.hid (HA1.out.below hbn)
        have ZB := Lib.hid (ZB.out.trans (hbn.mono ZB.out.size))
        have HA2 := Lib.hid hrn
        clear hbn hrn
        refine ⟨_, rfl, HSW.out _ ZB.out, ?_⟩
        refine wpAnyH_all (rs := [8]) (by kernel_rfl) (by simp) ?_
        intro q hq
        have hq2 := List.mem_singleton.1 hq
        subst hq2
        clear hq
        refine wpOp_call (f := 33) (vals := #[.slice B2 n2 e2]) rfl rfl (by go_simp) ?_
        refine (C3.out _ ZB.out).mono ?_
        rintro e' wk ⟨hbn, Ac, mc, dc, rfl, hrn⟩
        have HA1 := Lib.hid (HA1.out.below hbn)
        have HA2 := Lib.hid (HA2.out.below hbn)
        have ZB := Lib.hid (ZB.out.trans (hbn.mono ZB.out.size))
        have HA3 := Lib.hid hrn
        clear hbn hrn
        refine ⟨_, rfl, HSW.out _ ZB.out, ?_⟩
        refine wpAnyH_take (i := 9) (v := .agg #[.int .i64 2, .int .i64 0, .int .i64 (cores x.c).k, .int .i64 (cores x.c).v, .int .i64 (cores x.c).n, .slice Aa ma da, .slice Ab mb db, .slice Ac mc dc]) rfl (by kernel_rfl) (by kernel_rfl) (by kernel_rfl) (fun _ _ _ h => h) (Or.inl ⟨by rfl, fun W hW => ?_⟩) (HSW.out _ ZB.out) ?_
        · go_simp
        refine wpAnyH_take (i := 10) (v := .bool true) rfl (by kernel_rfl) (by kernel_rfl) (by kernel_rfl) (fun _ _ _ h => h) (Or.inl ⟨by rfl, fun W hW => by rfl⟩) (HSW.out _ ZB.out) ?_
        refine wpAnyH_done (by kernel_rfl) ?_ _
        have hxw := HX2.out.below ZB.out HX2.out.lt
        refine Q0_store (a' := ⟨(Value.slice (some ⟨b, off, none⟩) m d :: undef :: Value.slice none 0 0 :: Value.slice A' i c' :: Value.int .i64 i :: Value.pointer (some ⟨xb, 0, none⟩) :: Value.slice (some ⟨w.heap.size, 0, none⟩) 0 0 :: Value.int .i64 i :: Value.slice (some ⟨b, off, none⟩) m d :: Value.int .i64 m :: Value.bool true :: u11 :: u12 :: Value.slice (some ⟨b, off, none⟩) m d :: Value.int .i64 i :: Value.pointer (some ⟨b, off + i * 8, none⟩) :: Value.agg #[.int .i64 x.k, .int .i64 x.b, .int .i64 x.c.k, .int .i64 x.c.v, .int .i64 x.c.n, .slice Bc nc ec, .slice B1 n1 e1, .slice B2 n2 e2] :: Value.pointer (some ⟨xb, 0, none⟩) :: Value.int .i64 x.k :: Value.bool true :: Value.pointer (some ⟨xb, 2, none⟩) :: Value.agg #[.int .i64 x.c.k, .int .i64 x.c.v, .int .i64 x.c.n, .slice Bc nc ec] :: Value.agg #[.int .i64 (cores x.c).k, .int .i64 (cores x.c).v, .int .i64 (cores x.c).n, .slice Aa ma da] :: Value.pointer (some ⟨xb, 6, none⟩) :: Value.slice B1 n1 e1 :: Value.slice Ab mb db :: Value.pointer (some ⟨xb, 7, none⟩) :: Value.slice B2 n2 e2 :: Value.slice Ac mc dc :: Value.agg #[.int .i64 2, .int .i64 0, .int .i64 (cores x.c).k, .int .i64 (cores x.c).v, .int .i64 (cores x.c).n, .slice Aa ma da, .slice Ab mb db, .slice Ac mc dc] :: u30 :: u31 :: u32 :: u33 :: undef :: []).toArray, []⟩) (by kernel_rfl) (by rfl) (by rfl) (by rfl) 56 (.tmp 5) (.tmp 29) (by rfl) xb (by rfl) #[.int .i64 2, .int .i64 0, .int .i64 (cores x.c).k, .int .i64 (cores x.c).v, .int .i64 (cores x.c).n, .slice Aa ma da, .slice Ab mb db, .slice Ac mc dc] _ (by rfl) 56 hxw (by rfl) (by kernel_rfl) (by intro u hu; simp at hu; rcases hu with rfl | rfl | rfl | rfl | rfl | rfl | rfl | rfl <;> rfl) ?_
        go_step
        go_step
        obtain rfl := HXB.out
        first | (refine calls_named ?_; intro V hV) | (refine body_named ?_; intro V hV) | (refine wpList_named ?_; intro V hV) | (refine wp_named ?_; intro V hV)
        have hOV : Only (· = wr.heap.size) wk V := by
          rw [← hV]
          exact ⟨rfl, rfl, rfl, by simp, fun k _ hn => setRow_other wk wr.heap.size k _ (fun e => hn e)⟩
        have hxV : Blk V wr.heap.size 56 #[.int .i64 2, .int .i64 0, .int .i64 (cores x.c).k, .int .i64 (cores x.c).v, .int .i64 (cores x.c).n, .slice Aa ma da, .slice Ab mb db, .slice Ac mc dc] := by
          rw [← hV]
          exact hxw.setRow _
        clear hV hxw
        have hBV2 : Below wr.heap.size wr V := hOV.below (HBr.out.trans (ZB.out.mono HBr.out.size)) (Nat.le_trans HBr.out.size ZB.out.size) (fun q hq => by rw [show q = wr.heap.size from hq]; exact Nat.le_refl _)
        have HBV := Lib.hid (HB.out.trans (hBV2.mono HB.out.size))
        have HSSV := Lib.hid (HSS.out.below hBV2)
        have HXV := Lib.hid hxV
        have HA1 := Lib.hid (HA1.out.only hOV (fun k hk => .inr (.inr hk)))
        have HA2 := Lib.hid (HA2.out.only hOV (fun k hk => .inr (.inr hk)))
        have HA3 := Lib.hid (HA3.out.only hOV (fun k hk => .inr (.inr hk)))
        clear hBV2 hOV hxV
        have c0 := HXV.out.cell 0
        have c1 := HXV.out.cell 1
        have c2 := HXV.out.cell 2
        have c3 := HXV.out.cell 3
        have c4 := HXV.out.cell 4
        have c5 := HXV.out.cell 5
        have c6 := HXV.out.cell 6
        have c7 := HXV.out.cell 7
        have cl := HXV.out.lt
        go_wp2_with (at_builtin; refine Hid.out ?_)
        refine Lib.hid ?_
        clear c0 c1 c2 c3 c4 c5 c6 c7 cl
        have hba : Below V.heap.size V (V.alloc (.cells #[.int .i64 2, .int .i64 0, .int .i64 (cores x.c).k, .int .i64 (cores x.c).v, .int .i64 (cores x.c).n, .slice Aa ma da, .slice Ab mb db, .slice Ac mc dc] 56)) := (Below.refl _ _).alloc (Nat.le_refl _) _
        have HBW := Lib.hid (HBV.out.trans (hba.mono HBV.out.size))
        have hssb := HSSV.out.below hba
        obtain ⟨zs, hrow, hrep⟩ := hssb.row
        have hnn : i ≤ 900000 := by have := HM.out; have := HZ.out; omega
        have hzz := HBV.out.size
        refine wpList_push_apart elemStep2 rfl (.tmp 30) (.tmp 32) rfl w.heap.size A' i c' zs rfl hrow V.heap.size rfl [.int .i64 2, .int .i64 0, .int .i64 (cores x.c).k, .int .i64 (cores x.c).v, .int .i64 (cores x.c).n, .slice Aa ma da, .slice Ab mb db, .slice Ac mc dc] rfl (new_cells _ _ _) (by intro u hu; simp at hu; rcases hu with rfl | rfl | rfl | rfl | rfl | rfl | rfl | rfl <;> rfl) (by omega) (by omega) (by simp only [World.size_alloc]; omega) ?_
        intro A9 c9 w11 hown11 hb11 hg11 hap11
        have hnews : RepS (fun k => S k ∨ (Value.slice A' i c').ownBlock = some k) (V.alloc (.cells #[.int .i64 2, .int .i64 0, .int .i64 (cores x.c).k, .int .i64 (cores x.c).v, .int .i64 (cores x.c).n, .slice Aa ma da, .slice Ab mb db, .slice Ac mc dc] 56)) (⟨2, 0, cores x.c, coreS x.th, coreS x.el⟩ : ST).one [.int .i64 2, .int .i64 0, .int .i64 (cores x.c).k, .int .i64 (cores x.c).v, .int .i64 (cores x.c).n, .slice Aa ma da, .slice Ab mb db, .slice Ac mc dc] := RepS.st (x := (⟨2, 0, cores x.c, coreS x.th, coreS x.el⟩ : ST)) ((HA1.out.below hba).sub fun k hk => (by rcases hk with hk | hk; exact .inl hk; exact .inr (.inl hk))) ((HA2.out.below hba).sub fun k hk => (by rcases hk with hk | hk; exact .inl hk; exact .inr (.inl hk))) ((HA3.out.below hba).sub fun k hk => (by rcases hk with hk | hk; exact .inl hk; exact .inr (.inl hk)))
        have HSS11 := Lib.hid (SSt.push (M := (⟨2, 0, cores x.c, coreS x.th, coreS x.el⟩ : ST).one) hssb hrep hnews rfl hg11 hown11 hap11)
        rw [← HK.out, ← HTK.out] at HSS11
        have HB11 := Lib.hid (HBW.out.grown hg11 HBW.out.size (fun k hk => (HSSV.out.own_lt k hk).1))
        clear hba hssb hrow hrep hnews hown11 hb11 hg11 hap11
        go_wp2_with (fail)
        go_roundw
        case rel => exact ⟨i + 1, A9, c9, hlt, by go_num, rfl, HSS11.out, HB11.out⟩
        case measure => simp [intOf]; omega
      · have hk2 : (x.k == 2) = false := by simpa using hk
        have HK := Lib.hid (show coreST x = x by unfold coreST; rw [if_neg hk])
        clear hk
        go_wp2_with (with_reducible refine at_op (Op.load 56 (.tmp 5)) rfl ?_; refine Hid.out ?_)
        refine Lib.hid ?_
        first | (refine calls_named ?_; intro V hV) | (refine body_named ?_; intro V hV) | (refine wpList_named ?_; intro V hV) | (refine wp_named ?_; intro V hV)
        have hb2 : Below wr.heap.size wr V := by rw [← hV]; exact (Below.refl _ _).alloc (Nat.le_refl _) _
        have hx2 : Blk V wr.heap.size 56 #[.int .i64 x.k, .int .i64 x.b, .int .i64 x.c.k, .int .i64 x.c.v, .int .i64 x.c.n, .slice Bc nc ec, .slice B1 n1 e1, .slice B2 n2 e2] := by rw [← hV]; exact Blk.new wr _ _
        clear hV g0 g1 g2 g3 g4 g5 g6 g7
        have HBV := Lib.hid (HB.out.trans (hb2.mono HB.out.size))
        have HSSV := Lib.hid (HSS.out.below hb2)
        have HXV := Lib.hid hx2
        have HA1 := Lib.hid ((HC1.out.new.below HBV.out).sub (S' := fun k => S k ∨ (Value.slice A' i c').ownBlock = some k ∨ k = wr.heap.size) fun k hk => (HSL.out k hk).2)
        have HA2 := Lib.hid ((HC2.out.new.below HBV.out).sub (S' := fun k => S k ∨ (Value.slice A' i c').ownBlock = some k ∨ k = wr.heap.size) fun k hk => (HSL.out k hk).2)
        have HA3 := Lib.hid ((HC3.out.new.below HBV.out).sub (S' := fun k => S k ∨ (Value.slice A' i c').ownBlock = some k ∨ k = wr.heap.size) fun k hk => (HSL.out k hk).2)
        clear hb2 hx2
        have c0 := HXV.out.cell 0
        have c1 := HXV.out.cell 1
        have c2 := HXV.out.cell 2
        have c3 := HXV.out.cell 3
        have c4 := HXV.out.cell 4
        have c5 := HXV.out.cell 5
        have c6 := HXV.out.cell 6
        have c7 := HXV.out.cell 7
        have cl := HXV.out.lt
        go_wp2_with (at_builtin; refine Hid.out ?_)
        refine Lib.hid ?_
        clear c0 c1 c2 c3 c4 c5 c6 c7 cl
        have hba : Below V.heap.size V (V.alloc (.cells #[.int .i64 x.k, .int .i64 x.b, .int .i64 x.c.k, .int .i64 x.c.v, .int .i64 x.c.n, .slice Bc nc ec, .slice B1 n1 e1, .slice B2 n2 e2] 56)) := (Below.refl _ _).alloc (Nat.le_refl _) _
        have HBW := Lib.hid (HBV.out.trans (hba.mono HBV.out.size))
        have hssb := HSSV.out.below hba
        obtain ⟨zs, hrow, hrep⟩ := hssb.row
        have hnn : i ≤ 900000 := by have := HM.out; have := HZ.out; omega
        have hzz := HBV.out.size
        refine wpList_push_apart elemStep2 rfl (.tmp 30) (.tmp 32) rfl w.heap.size A' i c' zs rfl hrow V.heap.size rfl [.int .i64 x.k, .int .i64 x.b, .int .i64 x.c.k, .int .i64 x.c.v, .int .i64 x.c.n, .slice Bc nc ec, .slice B1 n1 e1, .slice B2 n2 e2] rfl (new_cells _ _ _) (by intro u hu; simp at hu; rcases hu with rfl | rfl | rfl | rfl | rfl | rfl | rfl | rfl <;> rfl) (by omega) (by omega) (by simp only [World.size_alloc]; omega) ?_
        intro A9 c9 w11 hown11 hb11 hg11 hap11
        have hnews : RepS (fun k => S k ∨ (Value.slice A' i c').ownBlock = some k) (V.alloc (.cells #[.int .i64 x.k, .int .i64 x.b, .int .i64 x.c.k, .int .i64 x.c.v, .int .i64 x.c.n, .slice Bc nc ec, .slice B1 n1 e1, .slice B2 n2 e2] 56)) x.one [.int .i64 x.k, .int .i64 x.b, .int .i64 x.c.k, .int .i64 x.c.v, .int .i64 x.c.n, .slice Bc nc ec, .slice B1 n1 e1, .slice B2 n2 e2] := RepS.st (x := x) ((HA1.out.below hba).sub fun k hk => (by rcases hk with hk | hk; exact .inl hk; exact .inr (.inl hk))) ((HA2.out.below hba).sub fun k hk => (by rcases hk with hk | hk; exact .inl hk; exact .inr (.inl hk))) ((HA3.out.below hba).sub fun k hk => (by rcases hk with hk | hk; exact .inl hk; exact .inr (.inl hk)))
        have HSS11 := Lib.hid (SSt.push (M := x.one) hssb hrep hnews rfl hg11 hown11 hap11)
        rw [← HK.out, ← HTK.out] at HSS11
        have HB11 := Lib.hid (HBW.out.grown hg11 HBW.out.size (fun k hk => (HSSV.out.own_lt k hk).1))
        clear hba hssb hrow hrep hnews hown11 hb11 hg11 hap11
        go_wp2_with (fail)
        go_roundw
        case rel => exact ⟨i + 1, A9, c9, hlt, by go_num, rfl, HSS11.out, HB11.out⟩
        case measure => simp [intOf]; omega
    · obtain rfl : i = m := by omega
      have hii : ¬ (i : Int) < (i : Int) := by omega
      have HRT := Lib.hid (HSS.out.rep HS.out)
      rw [List.take_of_length_le (by have := HL.out; omega), ← HE.out] at HRT
      go_wp2_with (fail)
      go_ret
      exact ⟨HB.out, _, _, _, rfl, HRT.out⟩
theorem css_all : ∀ N, CSS N
  | 0 => fun _ _ _ _ _ _ h => absurd h (by omega)
  | N + 1 => css_of N (css_all N)
end Go.Proofs.YticpjdjdimpglaaGreatDoor
