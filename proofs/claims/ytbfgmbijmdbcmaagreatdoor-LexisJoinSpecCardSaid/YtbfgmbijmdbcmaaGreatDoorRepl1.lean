/- strings.(*Replacer).build at the six strings: the tables. -/
import Derived.Test.YtbfgmbijmdbcmaaGreatDoorBsr
import Derived.Test.YtbfgmbijmdbcmaaGreatDoorSane
import Derived.Lib.ConvBytes
namespace Go.Proofs.YtbfgmbijmdbcmaaGreatDoor
set_option linter.unusedVariables false
set_option linter.unusedSimpArgs false
open Go.RowKit

/-- The cells of a byteStringReplacer. -/
def bsc (f : Nat → Value) (x : Value) : Array Value := ((List.range 256).map f ++ [x]).toArray
theorem bsc_size (f : Nat → Value) (x : Value) : (bsc f x).size = 257 := by simp [bsc]
theorem bsc_get (f : Nat → Value) (x : Value) (i : Nat) (h : i < 256) : (bsc f x)[i]? = some (f i) := by simp [bsc, List.getElem?_append, h]
theorem bsc_last (f : Nat → Value) (x : Value) : (bsc f x)[256]? = some x := by simp [bsc, List.getElem?_append]
theorem bsc_out (f : Nat → Value) (x : Value) (k : Nat) (h : 257 ≤ k) : (bsc f x)[k]? = none := Array.getElem?_eq_none (by rw [bsc_size]; exact h)
theorem bsc_set (f : Nat → Value) (x v : Value) (i : Nat) (h : i < 256) : (bsc f x).setIfInBounds i v = bsc (fun j => if j = i then v else f j) x := by
  apply Array.ext_getElem?
  intro k
  rw [Array.getElem?_setIfInBounds, bsc_size]
  by_cases e : i = k
  · subst e
    rw [if_pos rfl, if_pos (by omega), bsc_get _ _ _ h, if_pos rfl]
  · rw [if_neg e]
    rcases Nat.lt_or_ge k 256 with h3 | h3
    · rw [bsc_get _ _ _ h3, bsc_get _ _ _ h3, if_neg (fun h => e h.symm)]
    · rcases Nat.eq_or_lt_of_le h3 with rfl | h4
      · rw [bsc_last, bsc_last]
      · rw [bsc_out _ _ _ h4, bsc_out _ _ _ h4]
theorem bsc_set_last (f : Nat → Value) (x v : Value) : (bsc f x).setIfInBounds 256 v = bsc f v := by
  apply Array.ext_getElem?
  intro k
  rw [Array.getElem?_setIfInBounds, bsc_size]
  by_cases e : 256 = k
  · subst e
    rw [if_pos rfl, if_pos (by omega), bsc_last]
  · rw [if_neg e]
    rcases Nat.lt_or_ge k 256 with h3 | h3
    · rw [bsc_get _ _ _ h3, bsc_get _ _ _ h3]
    · rw [bsc_out _ _ _ (by omega), bsc_out _ _ _ (by omega)]
theorem bsc_one (f : Nat → Value) (x : Value) (hf : ∀ i, (f i).oneCell' = true) (hx : x.oneCell' = true) : ∀ v ∈ (bsc f x).toList, v.oneCell' = true := by
  intro v hv
  simp only [bsc, List.mem_append, List.mem_map, List.mem_singleton] at hv
  rcases hv with ⟨i, _, rfl⟩ | rfl
  · exact hf i
  · exact hx
def nilS : Value := .slice none 0 0
theorem zero_bsr (w : World) : (zeroValue 116).run Tryz.prog w = .ok (.agg (bsc (fun _ => nilS) nilS)) w := by kernel_rfl
theorem build_bsr (x : Value) (hx : ∃ A n c, x = .slice A n c) (w : World) : (Instr.build 116 #[(1, x)]).run Tryz.prog w = .ok (.agg (bsc (fun _ => nilS) x)) w := by
  obtain ⟨A, n, c, rfl⟩ := hx
  kernel_rfl
theorem info_bsr : (Tryz.prog.info? 116).map (·.size) = some 257 := by kernel_rfl
theorem elemStr : Elem Tryz.prog 70 9 1 16 := Elem.mk' Tryz.underlying70 (z := .string ⟨#[]⟩) (by kernel_rfl) rfl (by omega)

section
variable {P : Program} {ops : Array Oper} {rest : List Oper} {o : Oper} {a : Act} {w : World} {Q : Exit → Act → World → Prop}
theorem wpList_build1 (hgd : o.guard = none) (t : TypeId) (i : Nat) (x : Operand) (ho : o.op = .build t #[(i, x)]) (u : Value)
    (hx : a.eval x = u) (r : Value) (hr : (Instr.build t #[(i, u)]).run P w = .ok r w) (h : wpList P ops Q rest (a.put o.dst r) w) : wpList P ops Q (o :: rest) a w := by
  refine wpList_by hgd (v := r) (w' := w) ?_ h
  unfold execOp
  simp only [ho, List.map_toArray, List.map_cons, List.map_nil, hx, Sem.run_bind, hr]
  rfl
end
/-- A block that holds bytes at its head. -/
def RowX (w : World) (e : TypeId) (r : Nat) (l : List UInt8) : Prop := ∃ (cs : Array Value) (fr : Nat × Nat), w.heap[r]? = some (.cells cs e fr) ∧ ∀ (j : Nat) (u : Value), (l.map vb)[j]? = some u → cs[j]? = some u
theorem RowX.lt {w : World} {e : TypeId} {r : Nat} {l : List UInt8} (h : RowX w e r l) : r < w.heap.size := by
  obtain ⟨cs, fr, h1, _⟩ := h
  exact (Array.getElem?_eq_some_iff.1 h1).1
theorem RowX.rd {w : World} {e : TypeId} {r c : Nat} {l : List UInt8} (h : RowX w e r l) (hc : l.length ≤ c) (hb : c ≤ 9223372036854775807) : Rd w w.heap.size 1 (some ⟨r, 0, none⟩) l.length c (l.map vb) := by
  have hlt := h.lt
  obtain ⟨cs, fr, h1, h2⟩ := h
  refine ⟨by simp, hc, hb, fun _ => ⟨r, 0, rfl, hlt, fun j u hj => ?_⟩⟩
  rw [Nat.zero_add, cell_of_row w r j cs e fr h1]
  exact h2 j u hj
theorem RowX.heap {w w' : World} {e : TypeId} {r : Nat} {l : List UInt8} (h : RowX w e r l) (he : w'.heap[r]? = w.heap[r]?) : RowX w' e r l := by
  obtain ⟨cs, fr, h1, h2⟩ := h
  exact ⟨cs, fr, he.trans h1, h2⟩
theorem RowX.ne {w : World} {e t : TypeId} {r g : Nat} {l : List UInt8} {cs : Array Value} (h : RowX w e r l) (hb : Blk w g t cs) (hne : e ≠ t) : r ≠ g := by
  rintro rfl
  obtain ⟨cs', fr, h1, _⟩ := h
  unfold Blk at hb
  rw [h1] at hb
  injection hb with hb
  injection hb with _ h2 _
  exact hne h2
theorem RowX.own {w : World} {B size n r : Nat} {e t : TypeId} {v : Value} {xs : List Value} {l : List UInt8} (h : RowX w e r l) (ho : w.ownsRow B t size v n xs) (hne : t ≠ e) : ∀ k, v.ownBlock = some k → k ≠ r := by
  rintro k hk rfl
  obtain ⟨cs', fr, h1, _⟩ := h
  rcases ho.2 with ⟨rfl, _⟩ | ⟨g', cap, cur, rfl, hg, hgg, rest⟩
  · simp [Value.ownBlock] at hk
  · simp [Value.ownBlock] at hk
    subst hk
    rw [hgg] at h1
    injection h1 with h1
    injection h1 with _ h2 _
    exact hne h2
section
variable {P : Program} {ops : Array Oper} {rest : List Oper} {o : Oper} {a : Act} {w : World} {Q : Exit → Act → World → Prop}
/-- []byte(s). -/
theorem wpList_bytes (hgd : o.guard = none) (src dst e : TypeId) (x : Operand) (ho : o.op = .convert src dst x) (hs : P.underlying src = some .string) (hd : P.underlying dst = some (.slice e)) (he : P.underlying e = some (.int .u8))
    (l : List UInt8) (hx : a.eval x = .string (bs l)) (hl : l.length ≤ maxLen)
    (h : ∀ c w', RowX w' e w.heap.size l → l.length ≤ c → c ≤ 9223372036854775807 → Below w.heap.size w w' → wpList P ops Q rest (a.put o.dst (.slice (some ⟨w.heap.size, 0, none⟩) l.length c)) w') : wpList P ops Q (o :: rest) a w := by
  have hrun := Lib.run_convert_string_bytes (P := P) w src dst e (bs l) hs hd he
  have hsz := Lib.bytesWorld_size w e (bs l)
  refine wpList_by hgd (v := .slice (some ⟨w.heap.size, 0, none⟩) l.length (grownCap w (bs l).size 0 e)) (w' := Lib.bytesWorld w e (bs l)) ?_ (h _ _ ?_ ?_ ?_ ?_)
  · unfold execOp
    simp only [ho, hx, Sem.run_bind, hrun]
    rfl
  · refine ⟨_, _, Lib.bytesWorld_at_new w e (bs l), fun j u hj => ?_⟩
    have hjl : j < l.length := by
      rcases Nat.lt_or_ge j l.length with h1 | h1
      · exact h1
      · rw [List.getElem?_eq_none (by simpa using h1)] at hj; cases hj
    rw [← hj]
    simp [Lib.bytesCells, bs, Array.getElem?_append, hjl, vb]
  · exact grownCap_ge w _ _ _
  · have := grownCap_le_maxLen w (bs l).size 0 e (by rw [bs_size]; exact hl)
    unfold maxLen at this
    exact this
  · exact ⟨rfl, rfl, rfl, by omega, fun k hk => Lib.bytesWorld_at_old w e (bs l) k hk⟩
end

/-- The tables on the way: the struct's block, the strings' row, the rows of bytes. -/
structure BSt (w0 w : World) (g : Nat) (F : Nat → Value) (X : Value) (A : Option Addr) (n c : Nat) (xs : List Value) (R : List (Nat × List UInt8)) : Prop where
  blk : Blk w g 116 (bsc F X)
  own : w.ownsRow w0.heap.size 9 1 (.slice A n c) n xs
  rows : ∀ p ∈ R, RowX w 5 p.1 p.2
  bel : Below w0.heap.size w0 w
  hg : w0.heap.size ≤ g
section
variable {w0 w W : World} {g n c : Nat} {F : Nat → Value} {X : Value} {A : Option Addr} {xs : List Value} {R : List (Nat × List UInt8)}
theorem BSt.below (h : BSt w0 w g F X A n c xs R) (hb : Below w.heap.size w W) : BSt w0 W g F X A n c xs R :=
  ⟨h.blk.below hb h.blk.lt, own_below_all h.own hb, fun p hp => (h.rows p hp).heap (hb.block p.1 (h.rows p hp).lt), h.bel.trans (hb.mono h.bel.size), h.hg⟩
theorem BSt.push {A' : Option Addr} {n' c' : Nat} {xs' : List Value} (h : BSt w0 w g F X A n c xs R) (hgr : w.grownBy W (Value.slice A n c).ownBlock) (ho : W.ownsRow w0.heap.size 9 1 (.slice A' n' c') n' xs') : BSt w0 W g F X A' n' c' xs' R := by
  have hO : Only (fun k => (Value.slice A n c).ownBlock = some k) w W := Only.of_grown hgr (fun k hk => hk)
  exact ⟨h.blk.only hO (fun e => own_ne h.own h.blk (by decide) g e rfl), ho, fun p hp => (h.rows p hp).heap (hO.block p.1 (h.rows p hp).lt (fun e => (h.rows p hp).own h.own (by decide) p.1 e rfl)), hO.below h.bel h.bel.size (fun k hk => (h.own.lt k hk).1), h.hg⟩
theorem BSt.set256 (h : BSt w0 w g F X A n c xs R) (v : Value) : BSt w0 (w.setCell ⟨g, 256, none⟩ v) g F v A n c xs R := by
  have hb := h.blk.set 256 v
  rw [bsc_set_last] at hb
  exact ⟨hb, own_setCell h.own (own_ne h.own h.blk (by decide)) v, fun p hp => (h.rows p hp).heap (Below.heap_setCell _ _ _ _ ((h.rows p hp).ne h.blk (by decide))), h.bel.setCell h.hg v, h.hg⟩
theorem BSt.setTab (h : BSt w0 w g F X A n c xs R) (i : Nat) (hi : i < 256) (v : Value) : BSt w0 (w.setCell ⟨g, i, none⟩ v) g (fun j => if j = i then v else F j) X A n c xs R := by
  have hb := h.blk.set i v
  rw [bsc_set _ _ _ _ hi] at hb
  exact ⟨hb, own_setCell h.own (own_ne h.own h.blk (by decide)) v, fun p hp => (h.rows p hp).heap (Below.heap_setCell _ _ _ _ ((h.rows p hp).ne h.blk (by decide))), h.bel.setCell h.hg v, h.hg⟩
theorem BSt.row {r : Nat} {l : List UInt8} (h : BSt w0 w g F X A n c xs R) (hr : RowX w 5 r l) : BSt w0 w g F X A n c xs ((r, l) :: R) :=
  ⟨h.blk, h.own, fun p hp => by rcases List.mem_cons.1 hp with rfl | hp; exact hr; exact h.rows p hp, h.bel, h.hg⟩
theorem BSt.tab (h : BSt w0 w g F X A n c xs R) (i : Nat) (hi : i < 256) : w.cell? ⟨g, i, none⟩ = some (F i) := by rw [h.blk.cell, bsc_get _ _ _ hi]
theorem BSt.last (h : BSt w0 w g F X A n c xs R) : w.cell? ⟨g, 256, none⟩ = some X := by rw [h.blk.cell, bsc_last]
theorem BSt.free (h : BSt w0 w g F X A n c xs R) (i : Nat) : w.frozen? ⟨g, i, none⟩ = false := h.blk.frozen i
end
end Go.Proofs.YtbfgmbijmdbcmaaGreatDoor
