/- strings.NewReplacer and (*Replacer).Replace at the six strings: what is written between quotes. -/
import Derived.Test.YtbfgmbijmdbcmaaGreatDoorRepl2
import Derived.Test.YtbfgmbijmdbcmaaGreatDoorOnce
namespace Go.Proofs.YtbfgmbijmdbcmaaGreatDoor
set_option linter.unusedVariables false
set_option linter.unusedSimpArgs false
open Go.RowKit

/-- The cells of a Replacer: sync.Once (done, the lock's two words), the algorithm, the strings. -/
def rpc (d s : Int) (rv on : Value) : Array Value := #[.int .u32 d, .int .i32 s, .int .u32 0, rv, on]
/-- The six strings. -/
structure Six (w : World) (o oc : Nat) : Prop where
  c6 : 6 ≤ oc
  cb : oc ≤ 9223372036854775807
  h0 : w.cell? ⟨o, 0, none⟩ = some (.string ⟨#[34]⟩)
  h1 : w.cell? ⟨o, 1, none⟩ = some (.string ⟨#[92, 34]⟩)
  h2 : w.cell? ⟨o, 2, none⟩ = some (.string ⟨#[92]⟩)
  h3 : w.cell? ⟨o, 3, none⟩ = some (.string ⟨#[92, 92]⟩)
  h4 : w.cell? ⟨o, 4, none⟩ = some (.string ⟨#[10]⟩)
  h5 : w.cell? ⟨o, 5, none⟩ = some (.string ⟨#[92, 110]⟩)
theorem Six.keep {w w' : World} {o oc : Nat} (h : Six w o oc) (he : w'.heap[o]? = w.heap[o]?) : Six w' o oc := by
  have hk : ∀ i, w'.cell? ⟨o, i, none⟩ = w.cell? ⟨o, i, none⟩ := fun i => World.cell?_of_block he
  exact ⟨h.c6, h.cb, (hk 0).trans h.h0, (hk 1).trans h.h1, (hk 2).trans h.h2, (hk 3).trans h.h3, (hk 4).trans h.h4, (hk 5).trans h.h5⟩
theorem Six.lt {w : World} {o oc : Nat} (h : Six w o oc) : o < w.heap.size := World.block_lt_of_cell? w _ h.h0
theorem Six.ne {w : World} {o oc g : Nat} {d s : Int} {rv on : Value} (h : Six w o oc) (hb : Blk w g 86 (rpc d s rv on)) : o ≠ g := by
  rintro rfl
  have := h.h0
  rw [hb.cell] at this
  simp [rpc] at this
/-- What build has left. -/
def Built (w0 w' : World) (rv : Value) : Prop := ∃ g r1 r2 r3 d1 d2 d3 o' oc', rv = .iface 117 (.pointer (some ⟨g, 0, none⟩)) ∧ BS w' w'.heap.size g r1 r2 r3 d1 d2 d3 o' oc' ∧ w0.heap.size ≤ g

set_option maxHeartbeats 1600000 in
set_option maxRecDepth 100000 in
theorem buildOnce_any (r o oc : Nat) (w : World) (hb : Blk w r 86 (rpc 0 1 .nilIface (.slice (some ⟨o, 0, none⟩) 6 oc))) (h : Six w o oc) :
    Calls Tryz.prog 54 #[.pointer (some ⟨r, 0, none⟩)] w fun e w' => e = .returned (.tuple #[]) ∧ ∃ w1 rv, Below w.heap.size w w1 ∧ (∃ g r1 r2 r3 d1 d2 d3 o' oc', rv = .iface 117 (.pointer (some ⟨g, 0, none⟩)) ∧ BS w1 w1.heap.size g r1 r2 r3 d1 d2 d3 o' oc') ∧ w' = (w1.setCell ⟨r, 3, none⟩ rv).setCell ⟨r, 4, none⟩ (.slice none 0 0) := by
  have c4 : w.cell? ⟨r, 4, none⟩ = some (.slice (some ⟨o, 0, none⟩) 6 oc) := hb.cell 4
  have hlt := hb.lt
  go_enter Tryz.func54, Tryz.ntmps54
  go_wp2_with (fail)
  refine (build_any r o oc w c4 h.c6 h.cb h.h0 h.h1 h.h2 h.h3 h.h4 h.h5).mono ?_
  rintro e w1 ⟨g, r1, r2, r3, d1, d2, d3, o', oc', rfl, hbl, hBS⟩
  have hb1 := hb.below hbl hb.lt
  have y3 : w1.cell? ⟨r, 3, none⟩ = some .nilIface := hb1.cell 3
  have y4 : w1.cell? ⟨r, 4, none⟩ = some (.slice (some ⟨o, 0, none⟩) 6 oc) := hb1.cell 4
  have f3 := hb1.frozen 3
  have f4 := hb1.frozen 4
  have Hbl := Lib.hid hbl
  have HBS := Lib.hid hBS
  clear hbl hBS hb hb1 h
  go_wp2
  go_end0
  exact ⟨rfl, w1, _, Hbl.out, ⟨g, r1, r2, r3, d1, d2, d3, o', oc', rfl, HBS.out⟩, rfl⟩

theorem ne_of_cell {w : World} {x r : Nat} {d : Int} {u : Value} (hr : w.cell? ⟨r, 0, none⟩ = some (.int .u32 d)) (hx : w.cell? ⟨x, 0, none⟩ = some u) (hne : u ≠ .int .u32 d) : x ≠ r := by
  rintro rfl
  rw [hx] at hr
  exact hne (Option.some.inj hr)
theorem rd_far {w : World} {B x d : Nat} {c0 c1 : UInt8} {p : Addr} {v : Value} (h : Rd w B 1 (some ⟨x, 0, none⟩) 2 d ([c0, c1].map vb)) (hx : x ≠ p.block) : Rd (w.setCell p v) B 1 (some ⟨x, 0, none⟩) 2 d ([c0, c1].map vb) := by
  refine ⟨h.len, h.cap, h.big, fun h0 => ?_⟩
  obtain ⟨b, off, e, hb, hc⟩ := h.cells h0
  obtain ⟨eb, eo⟩ : x = b ∧ 0 = off := by simpa using e
  subst eb eo
  exact ⟨x, 0, rfl, hb, fun j u hj => (World.cell?_setCell_other w p ⟨x, 0 + j, none⟩ v (fun e => hx (by rw [e]))).trans (hc j u hj)⟩
theorem rd_head {w : World} {B x d : Nat} {c0 c1 : UInt8} (h : Rd w B 1 (some ⟨x, 0, none⟩) 2 d ([c0, c1].map vb)) : w.cell? ⟨x, 0, none⟩ = some (vb c0) := by
  obtain ⟨b, off, e, hb, hc⟩ := h.cells (by omega)
  obtain ⟨eb, eo⟩ : x = b ∧ 0 = off := by simpa using e
  subst eb eo
  exact hc 0 _ rfl
theorem BS.far {w : World} {B g r1 r2 r3 d1 d2 d3 o oc : Nat} (h : BS w B g r1 r2 r3 d1 d2 d3 o oc) {p : Addr} {d : Int} (hr : w.cell? ⟨p.block, 0, none⟩ = some (.int .u32 d)) (v : Value) : BS (w.setCell p v) B g r1 r2 r3 d1 d2 d3 o oc := by
  have hg : g ≠ p.block := ne_of_cell hr (h.tab 0 (by omega)) (by simp [rv])
  have ho : o ≠ p.block := ne_of_cell hr (h.str 0 (by omega)) (by simp)
  have q1 : r1 ≠ p.block := ne_of_cell hr (rd_head (c0 := 92) (c1 := 34) h.q1) (by simp [vb])
  have q2 : r2 ≠ p.block := ne_of_cell hr (rd_head (c0 := 92) (c1 := 92) h.q2) (by simp [vb])
  have q3 : r3 ≠ p.block := ne_of_cell hr (rd_head (c0 := 92) (c1 := 110) h.q3) (by simp [vb])
  exact ⟨h.lt, h.lo, fun i hi => (World.cell?_setCell_other w p ⟨g, i, none⟩ v (fun e => hg (by rw [e]))).trans (h.tab i hi), (World.cell?_setCell_other w p ⟨g, 256, none⟩ v (fun e => hg (by rw [e]))).trans h.strs,
    fun k hk => (World.cell?_setCell_other w p ⟨o, k, none⟩ v (fun e => ho (by rw [e]))).trans (h.str k hk), rd_far (c0 := 92) (c1 := 34) h.q1 q1, rd_far (c0 := 92) (c1 := 92) h.q2 q2, rd_far (c0 := 92) (c1 := 110) h.q3 q3, h.oc3, h.ocb⟩

/-- Behind Do: the replacer is done, its tables stand. -/
def DoneAt (w w' : World) (r : Nat) : Prop := Only (· = r) w w' ∧ ∃ g r1 r2 r3 d1 d2 d3 o' oc', Blk w' r 86 (rpc 1 0 (.iface 117 (.pointer (some ⟨g, 0, none⟩))) (.slice none 0 0)) ∧ BS w' w'.heap.size g r1 r2 r3 d1 d2 d3 o' oc'

set_option maxRecDepth 100000 in
set_option maxHeartbeats 1600000 in
theorem slow_any (r o oc : Nat) (w : World) (hb : Blk w r 86 (rpc 0 0 .nilIface (.slice (some ⟨o, 0, none⟩) 6 oc))) (h : Six w o oc) :
    Calls Tryz.prog 67 #[.pointer (some ⟨r, 0, none⟩), .func (.func 54) #[.pointer (some ⟨r, 0, none⟩)] #[]] w fun e w' => e = .returned (.tuple #[]) ∧ DoneAt w w' r := by
  have hbl0 := hb.set 1 (.int .i32 1)
  have h1' : (rpc 0 0 .nilIface (.slice (some ⟨o, 0, none⟩) 6 oc)).setIfInBounds 1 (.int .i32 1) = rpc 0 1 .nilIface (.slice (some ⟨o, 0, none⟩) 6 oc) := rfl
  rw [h1'] at hbl0
  have hsix := h.keep (w' := w.setCell ⟨r, 1, none⟩ (.int .i32 1)) (Below.heap_setCell _ _ _ _ (h.ne hb))
  have hc1 : w.cell? ⟨r, 1, none⟩ = some (.int .i32 0) := hb.cell 1
  have hc1' : w.cell? ⟨r, 0 + 1, none⟩ = some (.int .i32 0) := hb.cell 1
  have f1 := hb.frozen 1
  have hl := run_call_load (P := Tryz.prog) Tryz.func77 (by kernel_rfl) (by kernel_rfl) (by kernel_rfl) .u32 (by kernel_rfl) (w := w.setCell ⟨r, 1, none⟩ (.int .i32 1)) (a := ⟨r, 0, none⟩) (x := 0) (hbl0.cell 0)
  have hnot : ∀ (x : Bool) (w : World), (Op.unary .not (.bool x)).run Tryz.prog w = .ok (.bool (!x)) w := fun _ _ => rfl
  have Hb := Lib.hid hb
  have Hbl0 := Lib.hid hbl0
  have Hsix := Lib.hid hsix
  clear hb hbl0 hsix h h1'
  go_enter_defers Tryz.func67, Tryz.ntmps67
  go_wp2_with (go_at_call 78; refine (lock_free ⟨r, 1, none⟩ _ (by go_simp) (by go_simp)).mono ?_; rintro e w' ⟨rfl, rfl⟩)
  go_wp2_with (first | (go_at_call 66; go_in) | (go_at_call 54; refine (buildOnce_any r o oc _ Hbl0.out Hsix.out).mono ?_; rintro e w2 ⟨rfl, w1, rv, hbl', hBS', rfl⟩; have hbl := Lib.hid hbl'; have hBS := Lib.hid hBS'; clear hbl' hBS'))
  simp only [bodyPostD]
  have b1 := Hbl0.out.below hbl.out Hbl0.out.lt
  have b2 := b1.set 3 rv
  have b3 := b2.set 4 (.slice none 0 0)
  have e2 : (rpc 0 1 .nilIface (.slice (some ⟨o, 0, none⟩) 6 oc)).setIfInBounds 3 rv = rpc 0 1 rv (.slice (some ⟨o, 0, none⟩) 6 oc) := rfl
  have e3 : (rpc 0 1 rv (.slice (some ⟨o, 0, none⟩) 6 oc)).setIfInBounds 4 (.slice none 0 0) = rpc 0 1 rv (.slice none 0 0) := rfl
  rw [e2] at b2
  rw [e2, e3] at b3
  have hO1 : Only (· = r) w ((w1.setCell ⟨r, 3, none⟩ rv).setCell ⟨r, 4, none⟩ (.slice none 0 0)) := ((Only.set (S := (· = r)) w (p := ⟨r, 1, none⟩) rfl _).trans (Only.of_below hbl.out)).trans ((Only.set (S := (· = r)) w1 (p := ⟨r, 3, none⟩) rfl _).trans (Only.set (S := (· = r)) _ (p := ⟨r, 4, none⟩) rfl _))
  obtain ⟨g, r1, r2, r3, d1, d2, d3, o', oc', rfl, hBS0⟩ := hBS.out
  have s1 := hBS0.far (p := ⟨r, 3, none⟩) (d := 0) (b1.cell 0) (.iface 117 (.pointer (some ⟨g, 0, none⟩)))
  have s2 := s1.far (p := ⟨r, 4, none⟩) (d := 0) (b2.cell 0) (.slice none 0 0)
  have hsz : w1.heap.size ≤ ((w1.setCell ⟨r, 3, none⟩ (.iface 117 (.pointer (some ⟨g, 0, none⟩)))).setCell ⟨r, 4, none⟩ (.slice none 0 0)).heap.size := by simp [World.setCell]
  have s3 := s2.more hsz
  generalize (w1.setCell ⟨r, 3, none⟩ (.iface 117 (.pointer (some ⟨g, 0, none⟩)))).setCell ⟨r, 4, none⟩ (.slice none 0 0) = W at *
  have c0 : W.cell? ⟨r, 0, none⟩ = some (.int .u32 0) := b3.cell 0
  have bd : Blk W.drew r 86 (rpc 0 1 (.iface 117 (.pointer (some ⟨g, 0, none⟩))) (.slice none 0 0)) := b3
  have b4 := bd.set 0 (.int .u32 1)
  have sd : BS W.drew W.heap.size g r1 r2 r3 d1 d2 d3 o' oc' := s3.below ⟨rfl, rfl, rfl, Nat.le_refl _, fun _ _ => rfl⟩
  have s4 := sd.far (p := ⟨r, 0, none⟩) (d := 0) (bd.cell 0) (.int .u32 1)
  have e4 : (rpc 0 1 (.iface 117 (.pointer (some ⟨g, 0, none⟩))) (.slice none 0 0)).setIfInBounds 0 (.int .u32 1) = rpc 1 1 (.iface 117 (.pointer (some ⟨g, 0, none⟩))) (.slice none 0 0) := rfl
  rw [e4] at b4
  have b5 := b4.set 1 (.int .i32 0)
  have s5 := s4.far (p := ⟨r, 1, none⟩) (d := 1) (b4.cell 0) (.int .i32 0)
  have e5 : (rpc 1 1 (.iface 117 (.pointer (some ⟨g, 0, none⟩))) (.slice none 0 0)).setIfInBounds 1 (.int .i32 0) = rpc 1 0 (.iface 117 (.pointer (some ⟨g, 0, none⟩))) (.slice none 0 0) := rfl
  rw [e5] at b5
  have hO2 : Only (· = r) w ((W.drew.setCell ⟨r, 0, none⟩ (.int .u32 1)).setCell ⟨r, 1, none⟩ (.int .i32 0)) := hO1.trans ((show Only (· = r) W W.drew from ⟨rfl, rfl, rfl, Nat.le_refl _, fun _ _ _ => rfl⟩).trans ((Only.set (S := (· = r)) W.drew (p := ⟨r, 0, none⟩) rfl _).trans (Only.set (S := (· = r)) _ (p := ⟨r, 1, none⟩) rfl _)))
  have hfin : DoneAt w ((W.drew.setCell ⟨r, 0, none⟩ (.int .u32 1)).setCell ⟨r, 1, none⟩ (.int .i32 0)) r := ⟨hO2, g, r1, r2, r3, d1, d2, d3, o', oc', b5, s5.more (by simp [World.setCell])⟩
  refine leaves_cons (f := 80) (args := #[.pointer (some ⟨r, 0, none⟩), .bool true]) (by simp) (by simp [go_sem]) ?_
  refine (store_deferred ⟨r, 0, none⟩ (.int .u32 0) .returning _ c0 (b3.frozen 0)).mono ?_
  rintro e u' w'' ⟨rfl, rfl, rfl⟩
  refine leaves_cons (f := 79) (args := #[.pointer (some ⟨r, 1, none⟩)]) (by simp [settle]) (by simp [go_sem]) ?_
  refine (unlock_deferred ⟨r, 1, none⟩ _ _ (b4.cell 1) (b4.frozen 1)).mono ?_
  rintro e u' w'' ⟨rfl, rfl, rfl⟩
  simp [Leaves, settle, results, Tryz.results67]
  exact hfin

set_option maxRecDepth 100000 in
set_option maxHeartbeats 1600000 in
theorem do_any (r o oc : Nat) (w : World) (hb : Blk w r 86 (rpc 0 0 .nilIface (.slice (some ⟨o, 0, none⟩) 6 oc))) (h : Six w o oc) :
    Calls Tryz.prog 53 #[.pointer (some ⟨r, 0, none⟩), .func (.func 54) #[.pointer (some ⟨r, 0, none⟩)] #[]] w fun e w' => e = .returned (.tuple #[]) ∧ DoneAt w w' r := by
  have hl := run_call_load (P := Tryz.prog) Tryz.func77 (by kernel_rfl) (by kernel_rfl) (by kernel_rfl) .u32 (by kernel_rfl) (w := w) (a := ⟨r, 0, none⟩) (x := 0) (hb.cell 0)
  have hnot : ∀ (x : Bool) (w : World), (Op.unary .not (.bool x)).run Tryz.prog w = .ok (.bool (!x)) w := fun _ _ => rfl
  have Hb := Lib.hid hb
  have H := Lib.hid h
  clear hb h
  go_enter Tryz.func53, Tryz.ntmps53
  go_wp2_with (first | (go_at_call 67; refine (slow_any r o oc _ Hb.out H.out).mono ?_; rintro e w' ⟨rfl, hd⟩; have Hd := Lib.hid hd; clear hd) | (go_at_call 66; go_in))
  go_end0
  exact ⟨rfl, Hd.out⟩

set_option pp.deepTerms true in
set_option maxRecDepth 100000 in
set_option maxHeartbeats 1600000 in
theorem replace_any (l : List UInt8) (r o oc : Nat) (w : World) (hb : Blk w r 86 (rpc 0 0 .nilIface (.slice (some ⟨o, 0, none⟩) 6 oc))) (h : Six w o oc) (hl : l.length ≤ 1000000) :
    Calls Tryz.prog 35 #[.pointer (some ⟨r, 0, none⟩), .string (bs l)] w fun e w' => e = .returned (.string (bs (escape l))) ∧ Only (· = r) w w' := by
  have hmf : ∀ (fn : Fn) (first cap : Array Value) (w : World), (Instr.makeFunc fn first cap).run Tryz.prog w = .ok (.func fn first cap) w := fun _ _ _ _ => rfl
  have hlt := hb.lt
  have c0 : w.cell? ⟨r, 0, none⟩ = some (.int .u32 0) := hb.cell 0
  have Hb := Lib.hid hb
  have H := Lib.hid h
  clear hb h
  go_enter Tryz.func35, Tryz.ntmps35
  go_wp2_with (fail)
  refine (do_any r o oc _ Hb.out H.out).mono ?_
  rintro e w1 ⟨rfl, hO', g, r1, r2, r3, d1, d2, d3, o', oc', hb1, hBS'⟩
  have y3 : w1.cell? ⟨r, 3, none⟩ = some (.iface 117 (.pointer (some ⟨g, 0, none⟩))) := hb1.cell 3
  have hO := Lib.hid hO'
  have hBS := Lib.hid hBS'
  clear hO' hBS' hb1
  go_wp2_with (fail)
  refine (bsr_any l w1.heap.size g r1 r2 r3 d1 d2 d3 o' oc' w1 hBS.out (Nat.le_refl _) hl).mono ?_
  rintro e w2 ⟨rfl, hb2'⟩
  have hb2 := Lib.hid hb2'
  clear hb2'
  go_wp2
  go_ret
  exact ⟨rfl, hO.out.trans (Only.of_below hb2.out)⟩

def sixL : List Value := [.string ⟨#[34]⟩, .string ⟨#[92, 34]⟩, .string ⟨#[92]⟩, .string ⟨#[92, 92]⟩, .string ⟨#[10]⟩, .string ⟨#[92, 110]⟩]
theorem six_rd {w : World} {o oc : Nat} (h : Six w o oc) : Rd w w.heap.size 1 (some ⟨o, 0, none⟩) 6 oc sixL := by
  refine ⟨rfl, h.c6, h.cb, fun _ => ⟨o, 0, rfl, h.lt, fun j u hj => ?_⟩⟩
  rw [Nat.zero_add]
  have hjl : j < 6 := by
    rcases Nat.lt_or_ge j 6 with h1 | h1
    · exact h1
    · rw [List.getElem?_eq_none (by simpa [sixL] using h1)] at hj; cases hj
  obtain rfl | rfl | rfl | rfl | rfl | rfl : j = 0 ∨ j = 1 ∨ j = 2 ∨ j = 3 ∨ j = 4 ∨ j = 5 := by omega
  · obtain rfl := Option.some.inj hj; exact h.h0
  · obtain rfl := Option.some.inj hj; exact h.h1
  · obtain rfl := Option.some.inj hj; exact h.h2
  · obtain rfl := Option.some.inj hj; exact h.h3
  · obtain rfl := Option.some.inj hj; exact h.h4
  · obtain rfl := Option.some.inj hj; exact h.h5
theorem six_own {w : World} {B c : Nat} {A : Option Addr} (h : w.ownsRow B 9 1 (.slice A 6 c) 6 sixL) : ∃ o, A = some ⟨o, 0, none⟩ ∧ Six w o c := by
  obtain ⟨o, rfl⟩ : ∃ b, A = some ⟨b, 0, none⟩ := by
    rcases h.2 with ⟨e1, e2⟩ | ⟨g', cap, cur, e1, _⟩
    · cases e2
    · injection e1 with e1 _ _
      exact ⟨g', e1⟩
  have hrd := own_rd h
  obtain ⟨b', off, e, hb, hc⟩ := hrd.cells (by omega)
  obtain ⟨eb, eo⟩ : o = b' ∧ 0 = off := by simpa using e
  subst eb eo
  exact ⟨o, rfl, hrd.cap, hrd.big, hc 0 _ rfl, hc 1 _ rfl, hc 2 _ rfl, hc 3 _ rfl, hc 4 _ rfl, hc 5 _ rfl⟩

set_option maxRecDepth 100000 in
set_option maxHeartbeats 1600000 in
theorem newReplacer_any (h0 : Nat) (w : World) (h : Six w h0 6) :
    Calls Tryz.prog 34 #[.slice (some ⟨h0, 0, none⟩) 6 6] w fun e w' => ∃ r o oc, e = .returned (.pointer (some ⟨r, 0, none⟩)) ∧ Below w.heap.size w w' ∧ w.heap.size ≤ r ∧ Blk w' r 86 (rpc 0 0 .nilIface (.slice (some ⟨o, 0, none⟩) 6 oc)) ∧ Six w' o oc := by
  have H := Lib.hid h
  clear h
  go_enter Tryz.func34, Tryz.ntmps34
  go_wp2_with (first | (at_builtin; go_must (refine wpList_app elemStr rfl (.const (.slice none 0 0)) (.tmp 8) rfl w.heap.size none 0 0 [] rfl (World.ownsRow_nil _ _ _ _) w.heap.size _ _ _ rfl sixL (six_rd H.out) (by intro u hu; simp [sixL] at hu; rcases hu with rfl | rfl | rfl | rfl | rfl | rfl <;> rfl) (by omega) (by omega) (Nat.le_refl _) ?_; intro A1 c1 w1 hown1 hbl1 hg1; have Hown := Lib.hid hown1; have Hbl := Lib.hid hbl1; clear hown1 hbl1 hg1)) | fail)
  try go_wp2
  go_ret
  obtain ⟨o, rfl, hS⟩ := six_own Hown.out
  refine ⟨_, o, c1, rfl, Hbl.out.alloc Hbl.out.size _, Hbl.out.size, Blk.new _ _ _, hS.keep (Below.heap_alloc w1 _ o hS.lt)⟩
end Go.Proofs.YtbfgmbijmdbcmaaGreatDoor
