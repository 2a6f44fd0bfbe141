/- Split where it succeeds: the walk. (Written by gensplit.py: one text for each sign.) -/
import Derived.Test.YtnigdcppdkcllaaDoorMSum
import Derived.Test.YtnigdcppdkcllaaDoorMIter
import Derived.Test.YtnigdcppdkcllaaDoorMSort
import Derived.Test.YtnigdcppdkcllaaDoorMSplitP
import Derived.Test.YtnigdcppdkcllaaDoorMClone
import Derived.Test.YtnigdcppdkcllaaDoorWide
import Derived.Test.YtnigdcppdkcllaaDoorApp
import Derived.RangeFuncNested
import Derived.Deep.Cut
namespace Go.Proofs.YtnigdcppdkcllaaDoor
set_option linter.unusedVariables false
set_option linter.unusedSimpArgs false
open Go.RowKit Go.Shelf

attribute [local go_sem] Oper.semAt_some

/-- 256 numbers by a function. -/
def mki (f : Nat → Int) : Array Value := ((List.range 256).map fun x => (.int .i64 (f x) : Value)).toArray
theorem mki_get (f : Nat → Int) (x : Nat) (h : x < 256) : (mki f)[x]? = some (.int .i64 (f x)) := by simp [mki, h]
theorem mki_size (f : Nat → Int) : (mki f).size = 256 := by simp [mki]
theorem mki_set (f : Nat → Int) (i : Nat) (v : Int) : (mki f).setIfInBounds i (.int .i64 v) = mki fun x => if x = i then v else f x := by
  apply Array.ext
  · simp [mki]
  · intro k h1 h2
    simp only [mki, Array.getElem_setIfInBounds]
    by_cases hk : i = k
    · subst hk; simp
    · simp [hk, Ne.symm hk]
theorem mki_zero (w : World) : (zeroValue 39).run Tryd.prog w = .ok (.agg (mki fun _ => 0)) w := by kernel_rfl

theorem blk_own {β : Type} (B : Nat) (t : TypeId) (cs : Array Value) : Own (fun (_ : β) W => Blk W B t cs) := fun s X Y row hs hg hrow =>
  hs.grown hg (fun e => by
    obtain ⟨o, ho, hc⟩ := hrow B e.symm
    rw [show X.heap[B]? = _ from hs] at ho; cases ho; cases hc)
theorem rowx_own {β : Type} (base B : Nat) (t e : TypeId) (size : Nat) (k : β → Nat) (f : β → List Value) : Own (fun s W => ∃ v, Boxed W B t v ∧ W.ownsRow base e size v (k s) (f s)) := fun s X Y row ⟨v, h1, h2⟩ hg hrow => by
  obtain ⟨v', h3, h4, _⟩ := holdsRow_own base B t e size k f (fun _ _ => True) s X Y row ⟨v, h1, h2, trivial⟩ hg hrow
  exact ⟨v', h3, h4⟩
theorem ax_own {β : Type} (B1 Bm : Nat) (t e : TypeId) (cs : Array Value) (p : Nat → Prop) : Own (fun (_ : β) W => ∃ Bx v, Bm ≤ Bx ∧ Boxed W B1 t v ∧ (∀ g, v.ownBlock = some g → g ≠ Bx) ∧ Blk W Bx e cs ∧ p Bx) := fun s X Y row ⟨Bx, v, h0, h1, h2, h3, h4⟩ hg hrow =>
  ⟨Bx, v, h0, boxed_own B1 t (fun (_ : β) => v) s X Y row h1 hg hrow, h2, blk_own Bx e cs s X Y row h3 hg hrow, h4⟩
theorem own_pos {W : World} {base : Nat} {e : TypeId} {size : Nat} {v : Value} {k : Nat} {xs : List Value} (h0 : 0 < k) (h : W.ownsRow base e size v k xs) : ∃ g cap, v = .slice (some ⟨g, 0, none⟩) k cap ∧ k ≤ cap ∧ base ≤ g ∧ ∃ cur, W.heap[g]? = some (.cells cur e (0, 0)) := by
  rcases h.2 with ⟨_, e0⟩ | ⟨g, cap, cur, e1, hb, hh, hk, _⟩
  · omega
  · exact ⟨g, cap, e1, hk, hb, cur, hh⟩
theorem heap_alloc' {w : World} {g : Nat} {o : Obj} (h : w.heap[g]? = some o) (o' : Obj) : (w.alloc o').heap[g]? = some o := (Below.heap_alloc w o' g (Array.getElem?_eq_some_iff.1 h).1).trans h
theorem six (w : World) (o0 o1 o2 o3 o4 o5 : Obj) : ((((((w.alloc o0).alloc o1).alloc o2).alloc o3).alloc o4).alloc o5).heap.size = w.heap.size + 6 ∧
    ((((((w.alloc o0).alloc o1).alloc o2).alloc o3).alloc o4).alloc o5).heap[w.heap.size]? = some o0 ∧ ((((((w.alloc o0).alloc o1).alloc o2).alloc o3).alloc o4).alloc o5).heap[w.heap.size + 1]? = some o1 ∧
    ((((((w.alloc o0).alloc o1).alloc o2).alloc o3).alloc o4).alloc o5).heap[w.heap.size + 1 + 1]? = some o2 ∧ ((((((w.alloc o0).alloc o1).alloc o2).alloc o3).alloc o4).alloc o5).heap[w.heap.size + 1 + 1 + 1]? = some o3 ∧
    ((((((w.alloc o0).alloc o1).alloc o2).alloc o3).alloc o4).alloc o5).heap[w.heap.size + 1 + 1 + 1 + 1]? = some o4 ∧ ((((((w.alloc o0).alloc o1).alloc o2).alloc o3).alloc o4).alloc o5).heap[w.heap.size + 1 + 1 + 1 + 2]? = some o5 ∧
    Below w.heap.size w ((((((w.alloc o0).alloc o1).alloc o2).alloc o3).alloc o4).alloc o5) := by
  have t0 := World.alloc_heap_new w o0
  have t1 := World.alloc_heap_new (w.alloc o0) o1
  have t2 := World.alloc_heap_new ((w.alloc o0).alloc o1) o2
  have t3 := World.alloc_heap_new (((w.alloc o0).alloc o1).alloc o2) o3
  have t4 := World.alloc_heap_new ((((w.alloc o0).alloc o1).alloc o2).alloc o3) o4
  have t5 := World.alloc_heap_new (((((w.alloc o0).alloc o1).alloc o2).alloc o3).alloc o4) o5
  simp only [World.size_alloc] at t1 t2 t3 t4 t5
  exact ⟨by simp, heap_alloc' (heap_alloc' (heap_alloc' (heap_alloc' (heap_alloc' t0 _) _) _) _) _, heap_alloc' (heap_alloc' (heap_alloc' (heap_alloc' t1 _) _) _) _, heap_alloc' (heap_alloc' (heap_alloc' t2 _) _) _, heap_alloc' (heap_alloc' t3 _) _, heap_alloc' t4 _, t5,
    (((((((Below.refl _ w).alloc (Nat.le_refl _) _).alloc (by simp) _).alloc (by simp; omega) _).alloc (by simp; omega) _).alloc (by simp; omega) _).alloc (by simp; omega) _)⟩
theorem infoPart : (Tryd.prog.info? 45).map (fun i => (i.zero, i.size, i.bytes)) = some (some (.agg #[.int .i64 0, .int .i64 0, .int .i64 0]), 3, 24) := by kernel_rfl
theorem PtsAt.keep {W W' : World} {g : Nat} {d : List Pt} (h : PtsAt W g d) (hk : ∀ j, W'.cell? ⟨g, j, none⟩ = W.cell? ⟨g, j, none⟩) : PtsAt W' g d := fun k p e => by
  obtain ⟨h1, h2, h3⟩ := h k p e
  exact ⟨(hk _).trans h1, (hk _).trans h2, (hk _).trans h3⟩
theorem heap_far {w : World} {g : Nat} {o : Option Obj} {p : Addr} (h : w.heap[g]? = o) (hp : g ≠ p.block) (u : Value) : (w.setCell p u).heap[g]? = o := (Below.heap_setCell w p u g hp).trans h

theorem grownBy_cell (W : World) (b y : Nat) (v : Value) : W.grownBy (W.setCell ⟨b, y, none⟩ v) (some b) :=
  ⟨rfl, rfl, rfl, (KeepsWalks.setCell W _ v).size, fun k _ hk => Below.heap_setCell _ _ _ k (fun e => hk (by rw [e]))⟩
/-- Between two rounds of the last loop. -/
def LoopI (w wr : World) (g D : Nat) (d : List Pt) (F : Nat → Int) (lf : Int) : Prop :=
  Blk wr (w.heap.size + 1) 39 (mki F) ∧ Boxed wr w.heap.size 3 (.int .i64 lf) ∧ PtsAt wr g d ∧ wr.heap[D]? = some (.deferred (some [])) ∧ Below w.heap.size w wr
theorem LoopI.less {w wr : World} {g D : Nat} {d : List Pt} {F F' : Nat → Int} {lf : Int} (h : LoopI w wr g D d F lf) (hg : g ≠ w.heap.size + 1) (hD : D ≠ w.heap.size + 1) (y : Nat) (v : Int) (o : Obj) (hF : (fun x => if x = y then v else F x) = F') :
    LoopI w ((wr.setCell ⟨w.heap.size + 1, y, none⟩ (.int .i64 v)).alloc o) g D d F' lf := by
  obtain ⟨h1, h2, h3, h4, h5⟩ := h
  have hs := h5.size
  have hgs : ∀ (a : Addr) u, wr.cell? a = some u → a.block ≠ w.heap.size + 1 → ((wr.setCell ⟨w.heap.size + 1, y, none⟩ (.int .i64 v)).alloc o).cell? a = some u := fun a u ha hn => by
    have hlt := World.block_lt_of_cell? wr a ha
    rw [World.cell?_alloc_lt _ _ _ (by simpa using hlt), World.cell?_setCell_other _ _ _ _ (fun e => hn (by rw [← e]))]
    exact ha
  refine ⟨?_, (h2.kept (grownBy_cell wr (w.heap.size + 1) y _) (fun e => by have := Option.some.inj e; omega)).alloc _, fun k p e => ?_, heap_alloc' (heap_far h4 hD _) _, (h5.setCell (by show w.heap.size ≤ w.heap.size + 1; omega) _).alloc (by simpa using hs) _⟩
  · have h7 := (h1.set y (.int .i64 v)).alloc o
    rw [mki_set, hF] at h7
    exact h7
  · obtain ⟨a1, a2, a3⟩ := h3 k p e
    exact ⟨hgs _ _ a1 hg, hgs _ _ a2 hg, hgs _ _ a3 hg⟩
theorem LoopI.store {w wr : World} {g D : Nat} {d : List Pt} {F : Nat → Int} {lf : Int} (h : LoopI w wr g D d F lf) (hg : g ≠ w.heap.size + 1) (hD : D ≠ w.heap.size + 1) (y : Nat) (v : Int) :
    LoopI w (wr.setCell ⟨w.heap.size + 1, y, none⟩ (.int .i64 v)) g D d (fun x => if x = y then v else F x) lf := by
  obtain ⟨h1, h2, h3, h4, h5⟩ := h
  have hgs : ∀ (a : Addr) u, wr.cell? a = some u → a.block ≠ w.heap.size + 1 → (wr.setCell ⟨w.heap.size + 1, y, none⟩ (.int .i64 v)).cell? a = some u := fun a u ha hn => by
    rw [World.cell?_setCell_other _ _ _ _ (fun e => hn (by rw [← e]))]
    exact ha
  refine ⟨?_, (h2.kept (grownBy_cell wr (w.heap.size + 1) y _) (fun e => by have := Option.some.inj e; omega)), fun k p e => ?_, heap_far h4 hD _, h5.setCell (by show w.heap.size ≤ w.heap.size + 1; omega) _⟩
  · have h7 := h1.set y (.int .i64 v)
    rw [mki_set] at h7
    exact h7
  · obtain ⟨a1, a2, a3⟩ := h3 k p e
    exact ⟨hgs _ _ a1 hg, hgs _ _ a2 hg, hgs _ _ a3 hg⟩
theorem rd_put {W : World} {D B size n c : Nat} {A : Option Addr} {xs : List Value} (h : Rd W B size A n c xs) (hB : B ≤ W.heap.size) (o' : Obj) {o : Obj} (hK : W.heap[D]? = some o) (ho : o.isCells = false) : Rd (W.putObj D o') (W.putObj D o').heap.size size A n c xs :=
  ⟨h.len, h.cap, h.big, fun hn => by
    obtain ⟨b, off, e, hb, hc⟩ := h.cells hn
    exact ⟨b, off, e, Nat.lt_of_lt_of_le (Nat.lt_of_lt_of_le hb hB) (grownBy_putObj' W D o').size, fun j u hu => cell_kept (hc j u hu) (grownBy_putObj' W D o') (fun r e => by cases e; exact ⟨_, hK, ho⟩)⟩⟩
set_option maxRecDepth 100000 in
set_option maxHeartbeats 4000000 in
theorem split_pos (A : Option Addr) (n c : Nat) (ws : List Int) (m : Int) (w : World) (h : Rd w w.heap.size 1 A n c (ws.map vi)) (hm : amtB m = true) (hW : WOk ws) (hm0 : 0 ≤ m) (hsg : sgn m = 1) (hab : absI m = m) :
    Calls Tryd.prog 11 #[.int .i64 m, .slice A n c] w fun e w' => ∃ A' c' l, e = .returned (.tuple #[.slice A' n c', .int .i64 0]) ∧ IsSplit m ws l ∧ Rd w' w'.heap.size 1 A' n c' (l.map vi) ∧ Below w.heap.size w w' := by
  have hl := h.ilen
  have hcap := h.cap
  have hbig := h.big
  have hn256 := hW.1
  have hpos := hW.pos
  have hok := hW.2.1
  have hle := wsum_le hok
  have ha0 := absI_nonneg m
  have ha1 := absI_le hm
  have hn0 : 0 < n := by
    rcases Nat.eq_zero_or_pos n with h0 | h0
    · rw [h0] at hl
      rw [List.eq_nil_of_length_eq_zero hl] at hpos
      exact absurd hpos (by decide)
    · exact h0
  obtain ⟨b, off, rfl, hb, hcell⟩ := h.cells hn0
  have hcl := Lib.hid (show ∀ j, j < n → w.cell? ⟨b, off + j, none⟩ = some (.int .i64 (gi ws j)) from fun j hj => by
    obtain ⟨b', off', e, _, hx⟩ := h.int hj
    injection e with e
    injection e with e1 e2
    subst e1 e2
    exact hx)
  clear hcell
  obtain ⟨mb1, mb2⟩ := amtB_iff.1 hm
  have HW := Lib.hid hW
  have HOK := Lib.hid hok
  have HL := Lib.hid hl
  have HM := Lib.hid hm
  rw [hl] at hn256 hle
  have d1 : decide ((256 : Int) < (n : Int)) = false := decide_eq_false (by omega)
  have d2 : decide (256 < n) = false := decide_eq_false (by omega)
  have d3 : decide (m < 0) = false := decide_eq_false (by omega)
  rw [hab] at ha0 ha1
  have HSG := Lib.hid hsg
  have HAB := Lib.hid hab
  clear h hW hok hl hsg hab
  refine (callsIn_wide (n := 5)).1 (callsIn_of_wp_marks Tryd.func11 rfl trivial ?_ rfl)
  refine wpIn_wide.2 ?_
  simp only [Tryd.ntmps11, List.size_toArray, List.length_cons, List.length_nil, Nat.reduceAdd, Nat.reduceSub, Array.replicate_succ, Array.replicate_zero, List.push_toArray, List.append_toArray, List.nil_append, List.cons_append]
  go_wp2_with (go_at_call 20; refine (check_yes m _ HM.out).mono ?_; rintro e w' ⟨rfl, rfl⟩)
  go_loop [6, 24] (fun s i => ∃ k : Nat, k ≤ n ∧ i = .int .i64 k ∧ s = .int .i64 (sumTo (gi ws) k)) (fun _ i => n - (intOf i).toNat)
  case atStart => exact ⟨0, Nat.zero_le _, rfl, rfl⟩
  case round =>
    obtain ⟨k, hk, rfl, rfl⟩ := hrel
    have s0 : 0 ≤ sumTo (gi ws) k := sumTo_nonneg k (fun i hi => (HOK.out i (by have := HL.out; omega)).1)
    by_cases hlt : k < n
    · have hx := hcl.out k hlt
      obtain ⟨w1, w2⟩ := HOK.out k (by have := HL.out; omega)
      have s1 : sumTo (gi ws) k + gi ws k ≤ 256000 := by
        have h1 := sumTo_mono (f := gi ws) (k + 1) ws.length (by have := HL.out; omega) (fun i hi => (HOK.out i hi).1)
        rw [sumTo] at h1
        have : sumTo (gi ws) ws.length = wsum ws := rfl
        omega
      have HS := Lib.hid (show sumTo (gi ws) (k + 1) = sumTo (gi ws) k + gi ws k from rfl)
      generalize gi ws k = x at *
      go_wp2
      go_round
      case rel => exact ⟨k + 1, by omega, by go_num, by rw [HS.out]⟩
      case measure => simp [intOf]; omega
    · obtain rfl : k = n := by omega
      have hs : sumTo (gi ws) k = wsum ws := by unfold wsum; rw [HL.out]
      rw [hs] at s0 ⊢
      clear hs
      have hz : (wsum ws == 0) = false := by rw [beq_eq_false_iff_ne]; omega
      obtain ⟨S, hS⟩ : ∃ S, wsum ws = S := ⟨_, rfl⟩
      rw [hS] at hz hpos hle s0 ⊢
      have HSS := Lib.hid hS
      clear hS
      go_wp2_with (first | (with_reducible refine wpList_alloc_row rfl _ rfl _ _ mki_zero rfl ?_) | (go_at_call 24; refine (parts_any _ _ _ _ _ _).mono ?_; rintro e w' ⟨rfl, rfl⟩))
      refine (wpIn_wide (n := 5)).1 ?_
      have h6 := six w (.cells #[.int .i64 m] 3) (.cells (mki fun _ => 0) 39) (.cells #[.slice none 0 0] 40) (.cells #[.int .i64 m] 3) (.cells #[.slice (some ⟨b, off, none⟩) k c] 22) (.cells #[.int .i64 S] 3)
      obtain ⟨W0, hW0⟩ : ∃ W0, (((((w.alloc (.cells #[.int .i64 m] 3)).alloc (.cells (mki fun _ => 0) 39)).alloc (.cells #[.slice none 0 0] 40)).alloc (.cells #[.int .i64 m] 3)).alloc (.cells #[.slice (some ⟨b, off, none⟩) k c] 22)).alloc (.cells #[.int .i64 S] 3) = W0 := ⟨_, rfl⟩
      rw [hW0] at h6 ⊢
      clear hW0
      obtain ⟨hsz, x0, x1, x2, x3, x4, x5, hB0⟩ := h6
      have xA : W0.cell? ⟨w.heap.size + 1 + 1 + 1, 0, none⟩ = some (.int .i64 m) := by simp [World.cell?, x3]
      have xW : W0.cell? ⟨w.heap.size + 1 + 1 + 1 + 1, 0, none⟩ = some (.slice (some ⟨b, off, none⟩) k c) := by simp [World.cell?, x4]
      have xS : W0.cell? ⟨w.heap.size + 1 + 1 + 1 + 2, 0, none⟩ = some (.int .i64 S) := by simp [World.cell?, x5]
      have hcW : ∀ j, j < k → W0.cell? ⟨b, off + j, none⟩ = some (.int .i64 (gi ws j)) := fun j hj => (hB0.cell (p := ⟨b, off + j, none⟩) hb).trans (hcl.out j hj)
      have hl0 : leftW m [] = m := rfl
      refine wpIn_rangeFunc_ownH (F := Fence.wide) (n := 5) rfl (by omega) (gf := 33) (lb := #[.pointer (some ⟨w.heap.size + 1 + 1 + 1 + 1, 0, none⟩), .pointer (some ⟨w.heap.size + 1 + 1 + 1, 0, none⟩), .pointer (some ⟨w.heap.size + 1 + 1 + 1 + 2, 0, none⟩)]) rfl trivial (enters_of Tryd.func33 (by kernel_rfl) rfl)
        (iter_stops 4 (by omega) (w.heap.size + 1 + 1 + 1 + 1) (w.heap.size + 1 + 1 + 1) (w.heap.size + 1 + 1 + 1 + 2) w.heap.size b off k c ws m S HL.out hcap hbig HOK.out ha0 ha1 hpos (by omega) hb W0 (by omega) (by omega) (by omega) (by omega) xW xA xS hcW)
        KpI.trans (KpI.put (by omega) (by omega) (by omega)) (Below.refl _ _) (fun _ => rfl)
        (fun pre W => Boxed W w.heap.size 3 (.int .i64 (leftW m pre)) ∧ Blk W (w.heap.size + 1) 39 (mki fun _ => 0) ∧ Boxed W (w.heap.size + 1 + 1 + 1) 3 (.int .i64 m) ∧ Boxed W (w.heap.size + 1 + 1 + 1 + 2) 3 (.int .i64 S) ∧
          (∃ v, Boxed W (w.heap.size + 1 + 1) 40 v ∧ W.ownsRow w.heap.size 45 3 v pre.length (pre.flatMap encP)) ∧ Below w.heap.size w W)
        (fun _ _ _ => False)
        (OwnFrom.and (Own.from (boxed_own _ _ (fun pre => .int .i64 (leftW m pre))) _) (OwnFrom.and (Own.from (blk_own _ _ _) _) (OwnFrom.and (Own.from (boxed_own _ _ (fun _ => .int .i64 m)) _) (OwnFrom.and (Own.from (boxed_own _ _ (fun _ => .int .i64 S)) _)
          (OwnFrom.and (Own.from (rowx_own _ _ _ _ _ List.length (fun pre => pre.flatMap encP)) _) (ownFrom_below (Nat.le_refl _) (by omega)))))))
        (fun _ _ _ _ _ hs _ _ => hs)
        ⟨x0, x1, x3, x5, ⟨_, x2, World.ownsRow_nil _ _ _ _⟩, hB0⟩
        (fun x a' W => ∃ Bx v, w.heap.size + 6 ≤ Bx ∧ Boxed W (w.heap.size + 1 + 1) 40 v ∧ (∀ g, v.ownBlock = some g → g ≠ Bx) ∧ Blk W Bx 45 #[.int .i64 x.ix, .int .i64 x.ce, .int .i64 x.re] ∧ a' = { tmps := #[
          .int .i64 m, .slice (some ⟨b, off, none⟩) k c, undef, undef, u4, u5, .int .i64 S, undef, u8, .int .i64 1,
          .pointer (some ⟨w.heap.size, 0, none⟩), .pointer (some ⟨w.heap.size + 1, 0, none⟩), .pointer (some ⟨w.heap.size + 1 + 1, 0, none⟩), .pointer (some ⟨Bx, 0, none⟩), undef, undef, .int .i64 m,
          .int .i64 0, .bool false, .slice (some ⟨b, off, none⟩) k c, .int .i64 k, .bool false, .slice (some ⟨b, off, none⟩) k c, .int .i64 k, .int .i64 k, .bool false,
          u26, u27, u28, u29, u30, u31, u32, u33, u34, u35, u36, u37, .int .i64 S, .bool false, .int .i64 m, .bool false, .int .i64 1, .int .i64 m, .int .i64 m, .int .i64 m, .slice (some ⟨b, off, none⟩) k c, .int .i64 S,
          .func (.func 33) #[] #[.pointer (some ⟨w.heap.size + 1 + 1 + 1 + 1, 0, none⟩), .pointer (some ⟨w.heap.size + 1 + 1 + 1, 0, none⟩), .pointer (some ⟨w.heap.size + 1 + 1 + 1 + 2, 0, none⟩)],
          .agg #[.int .i64 x.ix, .int .i64 x.ce, .int .i64 x.re], undef, undef, undef, undef, undef, undef, undef, undef, undef, undef, undef, undef, undef, undef, undef, undef, undef, undef, undef, undef, undef, undef, undef, undef, undef, undef, undef, undef, undef, undef, undef, undef, undef, undef, undef, undef, undef, undef, undef], defers := [] })
        (fun x a' => Own.from (ax_own _ _ _ _ _ _) _)
        ?assign ?body ?done ?stop
      case assign =>
        rintro l pre x W K ⟨bL, bC, bA, bS, ⟨v, bV, hrow⟩, hB⟩ hK
        gi_wp2
        refine hK _ _ ((KeepsOthers.alloc _ _).from _) ⟨(Below.refl _ W).alloc hB.size _, (Below.heap_alloc W _ _ bA.lt), (Below.heap_alloc W _ _ bS.lt)⟩ ⟨bL.alloc _, bC.alloc _, bA.alloc _, bS.alloc _, ⟨v, bV.alloc _, hrow.alloc _⟩, hB.alloc hB.size _⟩
          ⟨W.heap.size, v, by have := bS.lt; omega, bV.alloc _, fun g hg => by have := (hrow.lt g hg).2; omega, Blk.new W _ _, rfl⟩
      case body =>
        rintro l pre x a' W hl ⟨r, hr⟩ ⟨bL, bC, bA, bS, ⟨v, bV, hrow⟩, hB⟩ ⟨Bx, v', hBx, bV', hvx, bX, rfl⟩ hlt
        obtain rfl : v' = v := by
          have := (show W.heap[w.heap.size + 1 + 1]? = _ from bV').symm.trans bV
          simpa using this
        obtain ⟨A', c', rfl⟩ := own_shape hrow
        have cV := bV.cell
        have fV := bV.frozen
        have cX0 := bX.cell 0
        have cX1 := bX.cell 1
        have cX2 := bX.cell 2
        have hle2 := hB.size
        obtain ⟨i0, hi, hz0, hz1, hz2⟩ := info_parts infoPart
        gi_wp2_with (gi_at_builtin; refine Hid.out ?_)
        refine Lib.hid ?_
        refine wpListIn_append_own _ rfl (.tmp 50) (.tmp 52) 40 rfl w.heap.size 45 i0 _ 3 24 Tryd.underlying40 hi hz0 hz1 hz2 rfl (by decide) (.slice A' pre.length c') _ _ rfl (hrow.alloc _) ⟨W.heap.size, 0, none⟩ 1 1 (encP x) rfl rfl (fun j u hj => by rw [show (⟨W.heap.size, 0, none⟩ : Addr).add j = ⟨W.heap.size, j, none⟩ from by unfold Addr.add; split <;> simp_all]; exact new_cells W (encP x) _ j u hj) (fun u hu => by simp [encP] at hu; rcases hu with rfl | rfl | rfl <;> rfl) (by unfold maxLen; omega) (by omega) (by simp; omega) ?_
        intro v1 w1 hown' hgrow _
        obtain ⟨g', cap', rfl⟩ := ownsRow_succ hown'
        obtain ⟨hv1, hv2, hr2, hk2, hb2⟩ := bV.appended (by decide) hrow hB.size (by omega) hown' hgrow
        have hc1 := hv1.cell
        have hf1 := hv1.frozen
        have bL1 := (bL.alloc (.cells #[.int .i64 x.ix, .int .i64 x.ce, .int .i64 x.re] 45)).kept hgrow ((bL.alloc (.cells #[.int .i64 x.ix, .int .i64 x.ce, .int .i64 x.re] 45)).not_row (by decide) (hrow.alloc (.cells #[.int .i64 x.ix, .int .i64 x.ce, .int .i64 x.re] 45)))
        have bX1 := (bX.alloc (.cells #[.int .i64 x.ix, .int .i64 x.ce, .int .i64 x.re] 45)).grown hgrow (fun e => hvx Bx e.symm rfl)
        have cL1 := bL1.cell
        have fL1 := bL1.frozen
        have cY1 := bX1.cell 1
        gi_wp2
        have nC := own_ne (hrow.alloc (.cells #[.int .i64 x.ix, .int .i64 x.ce, .int .i64 x.re] 45)) (bC.alloc (.cells #[.int .i64 x.ix, .int .i64 x.ce, .int .i64 x.re] 45)) (by decide)
        have bC1 := (bC.alloc (.cells #[.int .i64 x.ix, .int .i64 x.ce, .int .i64 x.re] 45)).grown hgrow (fun e => nC _ e.symm rfl)
        have bA1 := (bA.alloc (.cells #[.int .i64 x.ix, .int .i64 x.ce, .int .i64 x.re] 45)).kept hgrow ((bA.alloc (.cells #[.int .i64 x.ix, .int .i64 x.ce, .int .i64 x.re] 45)).not_row (by decide) (hrow.alloc (.cells #[.int .i64 x.ix, .int .i64 x.ce, .int .i64 x.re] 45)))
        have bS1 := (bS.alloc (.cells #[.int .i64 x.ix, .int .i64 x.ce, .int .i64 x.re] 45)).kept hgrow ((bS.alloc (.cells #[.int .i64 x.ix, .int .i64 x.ce, .int .i64 x.re] 45)).not_row (by decide) (hrow.alloc (.cells #[.int .i64 x.ix, .int .i64 x.ce, .int .i64 x.re] 45)))
        have bL2 := bL1.other (B' := w.heap.size + 1 + 1) (by omega) (.slice (some ⟨g', 0, none⟩) (pre.length + 1) cap')
        have nL := bL2.not_row (by decide) hr2
        have bA3 := (bA1.other (B' := w.heap.size + 1 + 1) (by omega) (.slice (some ⟨g', 0, none⟩) (pre.length + 1) cap')).other (B' := w.heap.size) (by omega) (.int .i64 (wrap64 (leftW m pre - x.ce)))
        have bS3 := (bS1.other (B' := w.heap.size + 1 + 1) (by omega) (.slice (some ⟨g', 0, none⟩) (pre.length + 1) cap')).other (B' := w.heap.size) (by omega) (.int .i64 (wrap64 (leftW m pre - x.ce)))
        have hB3 := hb2.setCell (p := ⟨w.heap.size, 0, none⟩) (Nat.le_refl _) (.int .i64 (wrap64 (leftW m pre - x.ce)))
        refine ⟨(hk2.from _).trans ((KeepsOthers.setCell _ _ _).from _), ⟨hB3, bA3.trans bA.symm, bS3.trans bS.symm⟩, ?_, (bC1.far (p := ⟨w.heap.size + 1 + 1, 0, none⟩) (show w.heap.size + 1 ≠ w.heap.size + 1 + 1 by omega) _).far (p := ⟨w.heap.size, 0, none⟩) (show w.heap.size + 1 ≠ w.heap.size by omega) _, bA3, bS3, ⟨_, hv2.other (by omega) _, ?_⟩, hB.trans hB3⟩
        · show Boxed _ _ _ (.int .i64 (leftW m (pre ++ [x])))
          rw [leftW_snoc]
          exact bL2.set _
        · have h7 := own_setCell (p := ⟨w.heap.size, 0, none⟩) hr2 (fun kk hkk e => nL (by rw [hkk]; exact congrArg some e.symm)) (.int .i64 (wrap64 (leftW m pre - x.ce)))
          rw [List.length_append, List.flatMap_append, List.length_singleton, List.flatMap_singleton]
          exact h7
      case done =>
        rintro D ys W hD rfl ⟨bL, bC, _, _, ⟨v, bV, hrow⟩, hB⟩ hK
        rw [upto_length] at hrow
        obtain ⟨g, cap, rfl, hkc, hgb, cur, hgc⟩ := own_pos hn0 hrow
        have hlf0 := left_lt (a := m) (ws := ws) HSS.out.symm hpos
        have e1 : leftW m (upto m S ws k) = ((lft m S ws).toNat : Int) := by
          rw [leftW_upto HSS.out.symm hpos ha0 ha1 HOK.out k (by rw [HL.out]; exact Nat.le_refl _), Int.toNat_of_nonneg hlf0.1]
          unfold lft
          rw [HL.out]
        have hlfk := left_le (a := m) (ws := ws) HSS.out.symm hpos
        rw [HL.out] at hlfk
        rw [e1] at bL
        clear e1 hlf0
        obtain ⟨lf, hlf⟩ : ∃ lf, (lft m S ws).toNat = lf := ⟨_, rfl⟩
        rw [hlf] at bL hlfk
        have HLF := Lib.hid hlf
        clear hlf
        have cV := bV.cell
        have hS := Lib.hid (sort_any W w.heap.size g k cap (upto m S ws k) (upto_length _ _ _ _) hn0 (by omega) hrow)
        have nV : g ≠ w.heap.size + 1 + 1 := fun e => bV.not_row (by decide) hrow (by rw [e]; rfl)
        have nL : g ≠ w.heap.size := fun e => bL.not_row (by decide) hrow (by rw [e]; rfl)
        have nC : g ≠ w.heap.size + 1 := own_ne hrow bC (by decide) g rfl
        have nD : D ≠ g := fun e => by rw [e, hgc] at hK; cases hK
        have nD1 : D ≠ w.heap.size + 1 := by omega
        have HBL := Lib.hid bL
        have HBC := Lib.hid bC
        have HBV := Lib.hid bV
        have HK := Lib.hid hK
        have HB := Lib.hid hB
        clear bL bC bV hK hrow hB hgc x0 x1 x2 x3 x4 x5 hB0 xA xW xS hcW
        go_wp2_with (fail)
        refine hS.out.mono ?_
        rintro e w5 ⟨rfl, d', hperm, hpw, hpts', hg5'⟩
        obtain ⟨L, rfl, hLp', hLs'⟩ := sorted_parts hperm hpw
        have hnd := Lib.hid (hLp'.nodup_iff.2 List.nodup_range)
        have hLl := Lib.hid (show L.length = k by rw [hLp'.length_eq, List.length_range])
        have hLp := Lib.hid hLp'
        have hLs := Lib.hid hLs'
        have hpts := Lib.hid hpts'
        have bL5 := HBL.out.kept hg5' (fun e => nL (by cases e; rfl))
        have bV5 := HBV.out.kept hg5' (fun e => nV (by cases e; rfl))
        have bC5 := HBC.out.grown hg5' (fun e => nC (by cases e; rfl))
        have hD5 : D < W.heap.size := (Array.getElem?_eq_some_iff.1 HK.out).1
        have K5 := (hg5'.block D hD5 (fun e => nD (by cases e; rfl))).trans HK.out
        have B5 := HB.out.grown hg5' HB.out.size (fun kk e => by cases e; exact hgb)
        have cV5 := bV5.cell
        have HI0 : Hid (LoopI w w5 g D (L.map (ptAt m S ws)) (Fil 1 (cen m S ws) L lf 0) lf) := Lib.hid ⟨by rw [fil_zero]; exact bC5, bL5, hpts.out, K5, B5⟩
        have hz5 := HB.out.size
        clear hperm hpw hLp' hLs' hpts' hg5' bL5 bV5 bC5 K5 B5 HBL HBV HBC HK HB hS cV
        go_wp2_with (fail)
        go_loopw [62] (fun i wr => ∃ j : Nat, j ≤ k ∧ i = .int .i64 j ∧ Hid (LoopI w wr g D (L.map (ptAt m S ws)) (Fil 1 (cen m S ws) L lf j) lf)) (fun i _ => k - (intOf i).toNat)
        case atStart => exact ⟨0, Nat.zero_le _, rfl, HI0.out⟩
        case round =>
          obtain ⟨j, hj, rfl, hI⟩ := hrel
          by_cases hjk : j < k
          · have hjL : j < L.length := by have := hLl.out; omega
            obtain ⟨y, hy⟩ : ∃ y, L[j]? = some y := ⟨_, List.getElem?_eq_getElem hjL⟩
            have hyk : y < k := List.mem_range.1 (hLp.out.mem_iff.1 (List.mem_of_getElem? hy))
            have hy' : (y : Int) < 256 := by omega
            have hyn : y < 256 := by omega
            have hpj := hI.out.2.2.1 j (ptAt m S ws y) (by rw [List.getElem?_map, hy]; rfl)
            simp only [ptAt] at hpj
            obtain ⟨p0, p1, p2⟩ := hpj
            have hc0 : 0 ≤ cen m S ws y := cen_nonneg ha0 hpos HOK.out (by rw [HL.out]; exact hyk)
            have hc1 : cen m S ws y ≤ m := by
              have h1 := sumTo_one (f := cen m S ws) (i := y) (n := ws.length) (by rw [HL.out]; exact hyk) (fun i hi => cen_nonneg ha0 hpos HOK.out hi)
              have h2 := (cen_sum_le HSS.out.symm hpos ha0 HOK.out ws.length (Nat.le_refl _)).2
              omega
            have HY := Lib.hid hy
            clear hy
            obtain ⟨ce, hce⟩ : ∃ ce, cen m S ws y = ce := ⟨_, rfl⟩
            rw [hce] at p1 hc0 hc1
            have HCE := Lib.hid hce
            clear hce
            generalize rst m S ws y = re at p2
            have hzr : w.heap.size + 1 < wr.heap.size := hI.out.1.lt
            have hzr0 : w.heap.size < wr.heap.size := by omega
            have cL := hI.out.2.1.cell
            have fC := hI.out.1.frozen y
            have cC := hI.out.1.cell y
            rw [mki_get _ y hyn] at cC
            generalize Fil 1 (cen m S ws) L lf j y = fv at cC
            have hty : ((y : Int)).toNat = y := by omega
            by_cases hjl : j < lf
            · have hjl' : (j : Int) < (lf : Int) := by omega
              go_wp2_with (fail)
              have e := fil_more (sg := 1) (ce := cen m S ws) hnd.out HY.out hjl
              rw [HCE.out] at e
              exact ⟨⟨j + 1, by omega, by go_num, Lib.hid ((hI.out.store nC nD1 y _).less nC nD1 y _ _ (by rw [← e]; funext x; by_cases hx : x = y <;> simp [hx]))⟩, by simp [intOf]; omega⟩
            · have hjl' : ¬ (j : Int) < (lf : Int) := by omega
              go_wp2_with (fail)
              have e := fil_less (sg := 1) (ce := cen m S ws) (lf := lf) hnd.out HY.out (by omega)
              rw [HCE.out] at e
              exact ⟨⟨j + 1, by omega, by go_num, Lib.hid (hI.out.less nC nD1 y _ _ (by rw [← e]; funext x; by_cases hx : x = y <;> simp [hx]))⟩, by simp [intOf]; omega⟩
          · obtain rfl : j = k := by omega
            have hI1 := hI.out.1
            have hzr : w.heap.size + 1 < wr.heap.size := hI1.lt
            have hRD := Lib.hid (Rd.of_cells (l := (List.range j).map (Fil 1 (cen m S ws) L lf j)) (n := j) (c := 256) (b := w.heap.size + 1) (off := 0) (B := wr.heap.size) (by simp) (by omega) (by omega) hzr (fun i hi => by
              rw [Nat.zero_add, hI1.cell, mki_get _ _ (by omega), gi_get _ i (by simpa using hi)]
              simp))
            clear hI1
            have hj256 : (j : Int) ≤ 256 := by omega
            go_wp2_with (fail)
            refine (clone_any (w.heap.size + 1) 0 j 256 wr.heap.size _ wr hRD.out (Nat.le_refl _) (by omega)).mono ?_
            rintro e w6 ⟨A6, c6, rfl, hr6, hb6⟩
            have hK := hI.out.2.2.2.1
            have hK6 : w6.heap[D]? = some (.deferred (some [])) := (hb6.block D (Array.getElem?_eq_some_iff.1 hK).1).trans hK
            have hB6 := hI.out.2.2.2.2.trans (hb6.mono hI.out.2.2.2.2.size)
            have hsp := fil_split HW.out (show L.Perm (List.range ws.length) by rw [HL.out]; exact hLp.out) (by rw [HAB.out, HSS.out]; exact hLs.out)
            rw [HSG.out, HAB.out, HSS.out, HL.out, HLF.out] at hsp
            have HSP := Lib.hid hsp
            have HR := Lib.hid (rd_put hr6 (Nat.le_refl _) (.deferred none) hK6 rfl)
            have HB := Lib.hid (hB6.trans (belowK_b (w := w) (Nat.le_refl _) w6 D _ (.deferred none) (by omega) hK6 rfl rfl))
            have HK6 := Lib.hid hK6
            clear hr6 hb6 hK hK6 hB6 hsp
            go_wp2
            refine ⟨by simp, .inl ⟨_, _, rfl, run_takeDeferred HK6.out, ?_⟩⟩
            exact ⟨.tuple #[.slice A6 j c6, .int .i64 0], by simp [results, Tryd.f11, go_sem], A6, c6, _, rfl, HSP.out, HR.out, HB.out⟩
      case stop =>
        rintro D c pre W _ _ h _
        exact h.elim
set_option maxRecDepth 100000 in
set_option maxHeartbeats 4000000 in
theorem split_neg' (A : Option Addr) (n c : Nat) (ws : List Int) (m : Int) (w : World) (h : Rd w w.heap.size 1 A n c (ws.map vi)) (hm : amtB m = true) (hW : WOk ws) (hm0 : m < 0) (hsg : sgn m = (-1)) (hab : absI m = (-m)) :
    Calls Tryd.prog 11 #[.int .i64 m, .slice A n c] w fun e w' => ∃ A' c' l, e = .returned (.tuple #[.slice A' n c', .int .i64 0]) ∧ IsSplit m ws l ∧ Rd w' w'.heap.size 1 A' n c' (l.map vi) ∧ Below w.heap.size w w' := by
  have hl := h.ilen
  have hcap := h.cap
  have hbig := h.big
  have hn256 := hW.1
  have hpos := hW.pos
  have hok := hW.2.1
  have hle := wsum_le hok
  have ha0 := absI_nonneg m
  have ha1 := absI_le hm
  have hn0 : 0 < n := by
    rcases Nat.eq_zero_or_pos n with h0 | h0
    · rw [h0] at hl
      rw [List.eq_nil_of_length_eq_zero hl] at hpos
      exact absurd hpos (by decide)
    · exact h0
  obtain ⟨b, off, rfl, hb, hcell⟩ := h.cells hn0
  have hcl := Lib.hid (show ∀ j, j < n → w.cell? ⟨b, off + j, none⟩ = some (.int .i64 (gi ws j)) from fun j hj => by
    obtain ⟨b', off', e, _, hx⟩ := h.int hj
    injection e with e
    injection e with e1 e2
    subst e1 e2
    exact hx)
  clear hcell
  obtain ⟨mb1, mb2⟩ := amtB_iff.1 hm
  have HW := Lib.hid hW
  have HOK := Lib.hid hok
  have HL := Lib.hid hl
  have HM := Lib.hid hm
  rw [hl] at hn256 hle
  have d1 : decide ((256 : Int) < (n : Int)) = false := decide_eq_false (by omega)
  have d2 : decide (256 < n) = false := decide_eq_false (by omega)
  have d3 : decide (m < 0) = true := decide_eq_true (by omega)
  rw [hab] at ha0 ha1
  have HSG := Lib.hid hsg
  have HAB := Lib.hid hab
  clear h hW hok hl hsg hab
  refine (callsIn_wide (n := 5)).1 (callsIn_of_wp_marks Tryd.func11 rfl trivial ?_ rfl)
  refine wpIn_wide.2 ?_
  simp only [Tryd.ntmps11, List.size_toArray, List.length_cons, List.length_nil, Nat.reduceAdd, Nat.reduceSub, Array.replicate_succ, Array.replicate_zero, List.push_toArray, List.append_toArray, List.nil_append, List.cons_append]
  go_wp2_with (go_at_call 20; refine (check_yes m _ HM.out).mono ?_; rintro e w' ⟨rfl, rfl⟩)
  go_loop [6, 24] (fun s i => ∃ k : Nat, k ≤ n ∧ i = .int .i64 k ∧ s = .int .i64 (sumTo (gi ws) k)) (fun _ i => n - (intOf i).toNat)
  case atStart => exact ⟨0, Nat.zero_le _, rfl, rfl⟩
  case round =>
    obtain ⟨k, hk, rfl, rfl⟩ := hrel
    have s0 : 0 ≤ sumTo (gi ws) k := sumTo_nonneg k (fun i hi => (HOK.out i (by have := HL.out; omega)).1)
    by_cases hlt : k < n
    · have hx := hcl.out k hlt
      obtain ⟨w1, w2⟩ := HOK.out k (by have := HL.out; omega)
      have s1 : sumTo (gi ws) k + gi ws k ≤ 256000 := by
        have h1 := sumTo_mono (f := gi ws) (k + 1) ws.length (by have := HL.out; omega) (fun i hi => (HOK.out i hi).1)
        rw [sumTo] at h1
        have : sumTo (gi ws) ws.length = wsum ws := rfl
        omega
      have HS := Lib.hid (show sumTo (gi ws) (k + 1) = sumTo (gi ws) k + gi ws k from rfl)
      generalize gi ws k = x at *
      go_wp2
      go_round
      case rel => exact ⟨k + 1, by omega, by go_num, by rw [HS.out]⟩
      case measure => simp [intOf]; omega
    · obtain rfl : k = n := by omega
      have hs : sumTo (gi ws) k = wsum ws := by unfold wsum; rw [HL.out]
      rw [hs] at s0 ⊢
      clear hs
      have hz : (wsum ws == 0) = false := by rw [beq_eq_false_iff_ne]; omega
      obtain ⟨S, hS⟩ : ∃ S, wsum ws = S := ⟨_, rfl⟩
      rw [hS] at hz hpos hle s0 ⊢
      have HSS := Lib.hid hS
      clear hS
      go_wp2_with (first | (with_reducible refine wpList_alloc_row rfl _ rfl _ _ mki_zero rfl ?_) | (go_at_call 24; refine (parts_any _ _ _ _ _ _).mono ?_; rintro e w' ⟨rfl, rfl⟩))
      refine (wpIn_wide (n := 5)).1 ?_
      have h6 := six w (.cells #[.int .i64 (-m)] 3) (.cells (mki fun _ => 0) 39) (.cells #[.slice none 0 0] 40) (.cells #[.int .i64 (-m)] 3) (.cells #[.slice (some ⟨b, off, none⟩) k c] 22) (.cells #[.int .i64 S] 3)
      obtain ⟨W0, hW0⟩ : ∃ W0, (((((w.alloc (.cells #[.int .i64 (-m)] 3)).alloc (.cells (mki fun _ => 0) 39)).alloc (.cells #[.slice none 0 0] 40)).alloc (.cells #[.int .i64 (-m)] 3)).alloc (.cells #[.slice (some ⟨b, off, none⟩) k c] 22)).alloc (.cells #[.int .i64 S] 3) = W0 := ⟨_, rfl⟩
      rw [hW0] at h6 ⊢
      clear hW0
      obtain ⟨hsz, x0, x1, x2, x3, x4, x5, hB0⟩ := h6
      have xA : W0.cell? ⟨w.heap.size + 1 + 1 + 1, 0, none⟩ = some (.int .i64 (-m)) := by simp [World.cell?, x3]
      have xW : W0.cell? ⟨w.heap.size + 1 + 1 + 1 + 1, 0, none⟩ = some (.slice (some ⟨b, off, none⟩) k c) := by simp [World.cell?, x4]
      have xS : W0.cell? ⟨w.heap.size + 1 + 1 + 1 + 2, 0, none⟩ = some (.int .i64 S) := by simp [World.cell?, x5]
      have hcW : ∀ j, j < k → W0.cell? ⟨b, off + j, none⟩ = some (.int .i64 (gi ws j)) := fun j hj => (hB0.cell (p := ⟨b, off + j, none⟩) hb).trans (hcl.out j hj)
      have hl0 : leftW (-m) [] = (-m) := rfl
      refine wpIn_rangeFunc_ownH (F := Fence.wide) (n := 5) rfl (by omega) (gf := 33) (lb := #[.pointer (some ⟨w.heap.size + 1 + 1 + 1 + 1, 0, none⟩), .pointer (some ⟨w.heap.size + 1 + 1 + 1, 0, none⟩), .pointer (some ⟨w.heap.size + 1 + 1 + 1 + 2, 0, none⟩)]) rfl trivial (enters_of Tryd.func33 (by kernel_rfl) rfl)
        (iter_stops 4 (by omega) (w.heap.size + 1 + 1 + 1 + 1) (w.heap.size + 1 + 1 + 1) (w.heap.size + 1 + 1 + 1 + 2) w.heap.size b off k c ws (-m) S HL.out hcap hbig HOK.out ha0 ha1 hpos (by omega) hb W0 (by omega) (by omega) (by omega) (by omega) xW xA xS hcW)
        KpI.trans (KpI.put (by omega) (by omega) (by omega)) (Below.refl _ _) (fun _ => rfl)
        (fun pre W => Boxed W w.heap.size 3 (.int .i64 (leftW (-m) pre)) ∧ Blk W (w.heap.size + 1) 39 (mki fun _ => 0) ∧ Boxed W (w.heap.size + 1 + 1 + 1) 3 (.int .i64 (-m)) ∧ Boxed W (w.heap.size + 1 + 1 + 1 + 2) 3 (.int .i64 S) ∧
          (∃ v, Boxed W (w.heap.size + 1 + 1) 40 v ∧ W.ownsRow w.heap.size 45 3 v pre.length (pre.flatMap encP)) ∧ Below w.heap.size w W)
        (fun _ _ _ => False)
        (OwnFrom.and (Own.from (boxed_own _ _ (fun pre => .int .i64 (leftW (-m) pre))) _) (OwnFrom.and (Own.from (blk_own _ _ _) _) (OwnFrom.and (Own.from (boxed_own _ _ (fun _ => .int .i64 (-m))) _) (OwnFrom.and (Own.from (boxed_own _ _ (fun _ => .int .i64 S)) _)
          (OwnFrom.and (Own.from (rowx_own _ _ _ _ _ List.length (fun pre => pre.flatMap encP)) _) (ownFrom_below (Nat.le_refl _) (by omega)))))))
        (fun _ _ _ _ _ hs _ _ => hs)
        ⟨x0, x1, x3, x5, ⟨_, x2, World.ownsRow_nil _ _ _ _⟩, hB0⟩
        (fun x a' W => ∃ Bx v, w.heap.size + 6 ≤ Bx ∧ Boxed W (w.heap.size + 1 + 1) 40 v ∧ (∀ g, v.ownBlock = some g → g ≠ Bx) ∧ Blk W Bx 45 #[.int .i64 x.ix, .int .i64 x.ce, .int .i64 x.re] ∧ a' = { tmps := #[
          .int .i64 m, .slice (some ⟨b, off, none⟩) k c, undef, undef, u4, u5, .int .i64 S, undef, u8, .int .i64 (-1),
          .pointer (some ⟨w.heap.size, 0, none⟩), .pointer (some ⟨w.heap.size + 1, 0, none⟩), .pointer (some ⟨w.heap.size + 1 + 1, 0, none⟩), .pointer (some ⟨Bx, 0, none⟩), undef, undef, .int .i64 m,
          .int .i64 0, .bool false, .slice (some ⟨b, off, none⟩) k c, .int .i64 k, .bool false, .slice (some ⟨b, off, none⟩) k c, .int .i64 k, .int .i64 k, .bool false,
          u26, u27, u28, u29, u30, u31, u32, u33, u34, u35, u36, u37, .int .i64 S, .bool false, .int .i64 m, .bool true, .int .i64 (-1), .int .i64 m, .int .i64 (-m), .int .i64 (-m), .slice (some ⟨b, off, none⟩) k c, .int .i64 S,
          .func (.func 33) #[] #[.pointer (some ⟨w.heap.size + 1 + 1 + 1 + 1, 0, none⟩), .pointer (some ⟨w.heap.size + 1 + 1 + 1, 0, none⟩), .pointer (some ⟨w.heap.size + 1 + 1 + 1 + 2, 0, none⟩)],
          .agg #[.int .i64 x.ix, .int .i64 x.ce, .int .i64 x.re], undef, undef, undef, undef, undef, undef, undef, undef, undef, undef, undef, undef, undef, undef, undef, undef, undef, undef, undef, undef, undef, undef, undef, undef, undef, undef, undef, undef, undef, undef, undef, undef, undef, undef, undef, undef, undef, undef, undef], defers := [] })
        (fun x a' => Own.from (ax_own _ _ _ _ _ _) _)
        ?assign ?body ?done ?stop
      case assign =>
        rintro l pre x W K ⟨bL, bC, bA, bS, ⟨v, bV, hrow⟩, hB⟩ hK
        gi_wp2
        refine hK _ _ ((KeepsOthers.alloc _ _).from _) ⟨(Below.refl _ W).alloc hB.size _, (Below.heap_alloc W _ _ bA.lt), (Below.heap_alloc W _ _ bS.lt)⟩ ⟨bL.alloc _, bC.alloc _, bA.alloc _, bS.alloc _, ⟨v, bV.alloc _, hrow.alloc _⟩, hB.alloc hB.size _⟩
          ⟨W.heap.size, v, by have := bS.lt; omega, bV.alloc _, fun g hg => by have := (hrow.lt g hg).2; omega, Blk.new W _ _, rfl⟩
      case body =>
        rintro l pre x a' W hl ⟨r, hr⟩ ⟨bL, bC, bA, bS, ⟨v, bV, hrow⟩, hB⟩ ⟨Bx, v', hBx, bV', hvx, bX, rfl⟩ hlt
        obtain rfl : v' = v := by
          have := (show W.heap[w.heap.size + 1 + 1]? = _ from bV').symm.trans bV
          simpa using this
        obtain ⟨A', c', rfl⟩ := own_shape hrow
        have cV := bV.cell
        have fV := bV.frozen
        have cX0 := bX.cell 0
        have cX1 := bX.cell 1
        have cX2 := bX.cell 2
        have hle2 := hB.size
        obtain ⟨i0, hi, hz0, hz1, hz2⟩ := info_parts infoPart
        gi_wp2_with (gi_at_builtin; refine Hid.out ?_)
        refine Lib.hid ?_
        refine wpListIn_append_own _ rfl (.tmp 50) (.tmp 52) 40 rfl w.heap.size 45 i0 _ 3 24 Tryd.underlying40 hi hz0 hz1 hz2 rfl (by decide) (.slice A' pre.length c') _ _ rfl (hrow.alloc _) ⟨W.heap.size, 0, none⟩ 1 1 (encP x) rfl rfl (fun j u hj => by rw [show (⟨W.heap.size, 0, none⟩ : Addr).add j = ⟨W.heap.size, j, none⟩ from by unfold Addr.add; split <;> simp_all]; exact new_cells W (encP x) _ j u hj) (fun u hu => by simp [encP] at hu; rcases hu with rfl | rfl | rfl <;> rfl) (by unfold maxLen; omega) (by omega) (by simp; omega) ?_
        intro v1 w1 hown' hgrow _
        obtain ⟨g', cap', rfl⟩ := ownsRow_succ hown'
        obtain ⟨hv1, hv2, hr2, hk2, hb2⟩ := bV.appended (by decide) hrow hB.size (by omega) hown' hgrow
        have hc1 := hv1.cell
        have hf1 := hv1.frozen
        have bL1 := (bL.alloc (.cells #[.int .i64 x.ix, .int .i64 x.ce, .int .i64 x.re] 45)).kept hgrow ((bL.alloc (.cells #[.int .i64 x.ix, .int .i64 x.ce, .int .i64 x.re] 45)).not_row (by decide) (hrow.alloc (.cells #[.int .i64 x.ix, .int .i64 x.ce, .int .i64 x.re] 45)))
        have bX1 := (bX.alloc (.cells #[.int .i64 x.ix, .int .i64 x.ce, .int .i64 x.re] 45)).grown hgrow (fun e => hvx Bx e.symm rfl)
        have cL1 := bL1.cell
        have fL1 := bL1.frozen
        have cY1 := bX1.cell 1
        gi_wp2
        have nC := own_ne (hrow.alloc (.cells #[.int .i64 x.ix, .int .i64 x.ce, .int .i64 x.re] 45)) (bC.alloc (.cells #[.int .i64 x.ix, .int .i64 x.ce, .int .i64 x.re] 45)) (by decide)
        have bC1 := (bC.alloc (.cells #[.int .i64 x.ix, .int .i64 x.ce, .int .i64 x.re] 45)).grown hgrow (fun e => nC _ e.symm rfl)
        have bA1 := (bA.alloc (.cells #[.int .i64 x.ix, .int .i64 x.ce, .int .i64 x.re] 45)).kept hgrow ((bA.alloc (.cells #[.int .i64 x.ix, .int .i64 x.ce, .int .i64 x.re] 45)).not_row (by decide) (hrow.alloc (.cells #[.int .i64 x.ix, .int .i64 x.ce, .int .i64 x.re] 45)))
        have bS1 := (bS.alloc (.cells #[.int .i64 x.ix, .int .i64 x.ce, .int .i64 x.re] 45)).kept hgrow ((bS.alloc (.cells #[.int .i64 x.ix, .int .i64 x.ce, .int .i64 x.re] 45)).not_row (by decide) (hrow.alloc (.cells #[.int .i64 x.ix, .int .i64 x.ce, .int .i64 x.re] 45)))
        have bL2 := bL1.other (B' := w.heap.size + 1 + 1) (by omega) (.slice (some ⟨g', 0, none⟩) (pre.length + 1) cap')
        have nL := bL2.not_row (by decide) hr2
        have bA3 := (bA1.other (B' := w.heap.size + 1 + 1) (by omega) (.slice (some ⟨g', 0, none⟩) (pre.length + 1) cap')).other (B' := w.heap.size) (by omega) (.int .i64 (wrap64 (leftW (-m) pre - x.ce)))
        have bS3 := (bS1.other (B' := w.heap.size + 1 + 1) (by omega) (.slice (some ⟨g', 0, none⟩) (pre.length + 1) cap')).other (B' := w.heap.size) (by omega) (.int .i64 (wrap64 (leftW (-m) pre - x.ce)))
        have hB3 := hb2.setCell (p := ⟨w.heap.size, 0, none⟩) (Nat.le_refl _) (.int .i64 (wrap64 (leftW (-m) pre - x.ce)))
        refine ⟨(hk2.from _).trans ((KeepsOthers.setCell _ _ _).from _), ⟨hB3, bA3.trans bA.symm, bS3.trans bS.symm⟩, ?_, (bC1.far (p := ⟨w.heap.size + 1 + 1, 0, none⟩) (show w.heap.size + 1 ≠ w.heap.size + 1 + 1 by omega) _).far (p := ⟨w.heap.size, 0, none⟩) (show w.heap.size + 1 ≠ w.heap.size by omega) _, bA3, bS3, ⟨_, hv2.other (by omega) _, ?_⟩, hB.trans hB3⟩
        · show Boxed _ _ _ (.int .i64 (leftW (-m) (pre ++ [x])))
          rw [leftW_snoc]
          exact bL2.set _
        · have h7 := own_setCell (p := ⟨w.heap.size, 0, none⟩) hr2 (fun kk hkk e => nL (by rw [hkk]; exact congrArg some e.symm)) (.int .i64 (wrap64 (leftW (-m) pre - x.ce)))
          rw [List.length_append, List.flatMap_append, List.length_singleton, List.flatMap_singleton]
          exact h7
      case done =>
        rintro D ys W hD rfl ⟨bL, bC, _, _, ⟨v, bV, hrow⟩, hB⟩ hK
        rw [upto_length] at hrow
        obtain ⟨g, cap, rfl, hkc, hgb, cur, hgc⟩ := own_pos hn0 hrow
        have hlf0 := left_lt (a := (-m)) (ws := ws) HSS.out.symm hpos
        have e1 : leftW (-m) (upto (-m) S ws k) = ((lft (-m) S ws).toNat : Int) := by
          rw [leftW_upto HSS.out.symm hpos ha0 ha1 HOK.out k (by rw [HL.out]; exact Nat.le_refl _), Int.toNat_of_nonneg hlf0.1]
          unfold lft
          rw [HL.out]
        have hlfk := left_le (a := (-m)) (ws := ws) HSS.out.symm hpos
        rw [HL.out] at hlfk
        rw [e1] at bL
        clear e1 hlf0
        obtain ⟨lf, hlf⟩ : ∃ lf, (lft (-m) S ws).toNat = lf := ⟨_, rfl⟩
        rw [hlf] at bL hlfk
        have HLF := Lib.hid hlf
        clear hlf
        have cV := bV.cell
        have hS := Lib.hid (sort_any W w.heap.size g k cap (upto (-m) S ws k) (upto_length _ _ _ _) hn0 (by omega) hrow)
        have nV : g ≠ w.heap.size + 1 + 1 := fun e => bV.not_row (by decide) hrow (by rw [e]; rfl)
        have nL : g ≠ w.heap.size := fun e => bL.not_row (by decide) hrow (by rw [e]; rfl)
        have nC : g ≠ w.heap.size + 1 := own_ne hrow bC (by decide) g rfl
        have nD : D ≠ g := fun e => by rw [e, hgc] at hK; cases hK
        have nD1 : D ≠ w.heap.size + 1 := by omega
        have HBL := Lib.hid bL
        have HBC := Lib.hid bC
        have HBV := Lib.hid bV
        have HK := Lib.hid hK
        have HB := Lib.hid hB
        clear bL bC bV hK hrow hB hgc x0 x1 x2 x3 x4 x5 hB0 xA xW xS hcW
        go_wp2_with (fail)
        refine hS.out.mono ?_
        rintro e w5 ⟨rfl, d', hperm, hpw, hpts', hg5'⟩
        obtain ⟨L, rfl, hLp', hLs'⟩ := sorted_parts hperm hpw
        have hnd := Lib.hid (hLp'.nodup_iff.2 List.nodup_range)
        have hLl := Lib.hid (show L.length = k by rw [hLp'.length_eq, List.length_range])
        have hLp := Lib.hid hLp'
        have hLs := Lib.hid hLs'
        have hpts := Lib.hid hpts'
        have bL5 := HBL.out.kept hg5' (fun e => nL (by cases e; rfl))
        have bV5 := HBV.out.kept hg5' (fun e => nV (by cases e; rfl))
        have bC5 := HBC.out.grown hg5' (fun e => nC (by cases e; rfl))
        have hD5 : D < W.heap.size := (Array.getElem?_eq_some_iff.1 HK.out).1
        have K5 := (hg5'.block D hD5 (fun e => nD (by cases e; rfl))).trans HK.out
        have B5 := HB.out.grown hg5' HB.out.size (fun kk e => by cases e; exact hgb)
        have cV5 := bV5.cell
        have HI0 : Hid (LoopI w w5 g D (L.map (ptAt (-m) S ws)) (Fil (-1) (cen (-m) S ws) L lf 0) lf) := Lib.hid ⟨by rw [fil_zero]; exact bC5, bL5, hpts.out, K5, B5⟩
        have hz5 := HB.out.size
        clear hperm hpw hLp' hLs' hpts' hg5' bL5 bV5 bC5 K5 B5 HBL HBV HBC HK HB hS cV
        go_wp2_with (fail)
        go_loopw [62] (fun i wr => ∃ j : Nat, j ≤ k ∧ i = .int .i64 j ∧ Hid (LoopI w wr g D (L.map (ptAt (-m) S ws)) (Fil (-1) (cen (-m) S ws) L lf j) lf)) (fun i _ => k - (intOf i).toNat)
        case atStart => exact ⟨0, Nat.zero_le _, rfl, HI0.out⟩
        case round =>
          obtain ⟨j, hj, rfl, hI⟩ := hrel
          by_cases hjk : j < k
          · have hjL : j < L.length := by have := hLl.out; omega
            obtain ⟨y, hy⟩ : ∃ y, L[j]? = some y := ⟨_, List.getElem?_eq_getElem hjL⟩
            have hyk : y < k := List.mem_range.1 (hLp.out.mem_iff.1 (List.mem_of_getElem? hy))
            have hy' : (y : Int) < 256 := by omega
            have hyn : y < 256 := by omega
            have hpj := hI.out.2.2.1 j (ptAt (-m) S ws y) (by rw [List.getElem?_map, hy]; rfl)
            simp only [ptAt] at hpj
            obtain ⟨p0, p1, p2⟩ := hpj
            have hc0 : 0 ≤ cen (-m) S ws y := cen_nonneg ha0 hpos HOK.out (by rw [HL.out]; exact hyk)
            have hc1 : cen (-m) S ws y ≤ (-m) := by
              have h1 := sumTo_one (f := cen (-m) S ws) (i := y) (n := ws.length) (by rw [HL.out]; exact hyk) (fun i hi => cen_nonneg ha0 hpos HOK.out hi)
              have h2 := (cen_sum_le HSS.out.symm hpos ha0 HOK.out ws.length (Nat.le_refl _)).2
              omega
            have HY := Lib.hid hy
            clear hy
            obtain ⟨ce, hce⟩ : ∃ ce, cen (-m) S ws y = ce := ⟨_, rfl⟩
            rw [hce] at p1 hc0 hc1
            have HCE := Lib.hid hce
            clear hce
            generalize rst (-m) S ws y = re at p2
            have hzr : w.heap.size + 1 < wr.heap.size := hI.out.1.lt
            have hzr0 : w.heap.size < wr.heap.size := by omega
            have cL := hI.out.2.1.cell
            have fC := hI.out.1.frozen y
            have cC := hI.out.1.cell y
            rw [mki_get _ y hyn] at cC
            generalize Fil (-1) (cen (-m) S ws) L lf j y = fv at cC
            have hty : ((y : Int)).toNat = y := by omega
            by_cases hjl : j < lf
            · have hjl' : (j : Int) < (lf : Int) := by omega
              go_wp2_with (fail)
              have e := fil_more (sg := (-1)) (ce := cen (-m) S ws) hnd.out HY.out hjl
              rw [HCE.out] at e
              exact ⟨⟨j + 1, by omega, by go_num, Lib.hid ((hI.out.store nC nD1 y _).less nC nD1 y _ _ (by rw [← e]; funext x; by_cases hx : x = y <;> simp [hx]))⟩, by simp [intOf]; omega⟩
            · have hjl' : ¬ (j : Int) < (lf : Int) := by omega
              go_wp2_with (fail)
              have e := fil_less (sg := (-1)) (ce := cen (-m) S ws) (lf := lf) hnd.out HY.out (by omega)
              rw [HCE.out] at e
              exact ⟨⟨j + 1, by omega, by go_num, Lib.hid (hI.out.less nC nD1 y _ _ (by rw [← e]; funext x; by_cases hx : x = y <;> simp [hx]))⟩, by simp [intOf]; omega⟩
          · obtain rfl : j = k := by omega
            have hI1 := hI.out.1
            have hzr : w.heap.size + 1 < wr.heap.size := hI1.lt
            have hRD := Lib.hid (Rd.of_cells (l := (List.range j).map (Fil (-1) (cen (-m) S ws) L lf j)) (n := j) (c := 256) (b := w.heap.size + 1) (off := 0) (B := wr.heap.size) (by simp) (by omega) (by omega) hzr (fun i hi => by
              rw [Nat.zero_add, hI1.cell, mki_get _ _ (by omega), gi_get _ i (by simpa using hi)]
              simp))
            clear hI1
            have hj256 : (j : Int) ≤ 256 := by omega
            go_wp2_with (fail)
            refine (clone_any (w.heap.size + 1) 0 j 256 wr.heap.size _ wr hRD.out (Nat.le_refl _) (by omega)).mono ?_
            rintro e w6 ⟨A6, c6, rfl, hr6, hb6⟩
            have hK := hI.out.2.2.2.1
            have hK6 : w6.heap[D]? = some (.deferred (some [])) := (hb6.block D (Array.getElem?_eq_some_iff.1 hK).1).trans hK
            have hB6 := hI.out.2.2.2.2.trans (hb6.mono hI.out.2.2.2.2.size)
            have hsp := fil_split HW.out (show L.Perm (List.range ws.length) by rw [HL.out]; exact hLp.out) (by rw [HAB.out, HSS.out]; exact hLs.out)
            rw [HSG.out, HAB.out, HSS.out, HL.out, HLF.out] at hsp
            have HSP := Lib.hid hsp
            have HR := Lib.hid (rd_put hr6 (Nat.le_refl _) (.deferred none) hK6 rfl)
            have HB := Lib.hid (hB6.trans (belowK_b (w := w) (Nat.le_refl _) w6 D _ (.deferred none) (by omega) hK6 rfl rfl))
            have HK6 := Lib.hid hK6
            clear hr6 hb6 hK hK6 hB6 hsp
            go_wp2
            refine ⟨by simp, .inl ⟨_, _, rfl, run_takeDeferred HK6.out, ?_⟩⟩
            exact ⟨.tuple #[.slice A6 j c6, .int .i64 0], by simp [results, Tryd.f11, go_sem], A6, c6, _, rfl, HSP.out, HR.out, HB.out⟩
      case stop =>
        rintro D c pre W _ _ h _
        exact h.elim
end Go.Proofs.YtnigdcppdkcllaaDoor
