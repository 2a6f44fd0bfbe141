/- The scanner's next by its contract. -/
import Derived.Test.YtlgdmbdhffdenaaGreatDoorScan
import Derived.Test.YtlgdmbdhffdenaaGreatDoorStrs2
import Derived.Test.YtlgdmbdhffdenaaGreatDoorQuoted
import Derived.Deep.RegionHeld3
import Derived.Deep.RegionWith
import Derived.StillTailTactics
namespace Go.Proofs.YtlgdmbdhffdenaaGreatDoor
set_option linter.unusedVariables false
set_option linter.unusedSimpArgs false
open Go.RowKit

/-- The token that an item gives at offset a; the zero token for invalid bytes. -/
def tokOf (i : Item) (a : Nat) : Tok := if i.kind = 0 then ⟨0, [], 0⟩ else ⟨i.kind, i.text, a⟩
def tokVal (t : Tok) : Value := .agg #[.int .i64 t.kind, .string (bs t.text), .int .i64 t.at_]

section
variable {l : List UInt8} {a : Nat}
theorem nx_letter (h : a < l.length) (hc : isLetter (bt l a) = true) : nextItem (l.drop a) = ⟨1, (l.drop a).take (runLen (l.drop a)), runLen (l.drop a)⟩ := by
  obtain ⟨c, h1, h2⟩ := drop_cons l a h
  rw [h2, nextItem, h1, if_pos hc]
theorem run_first (h : a < l.length) (hc : isInner (bt l a) = true) : runLen (l.drop a) = runLen (l.drop (a + 1)) + 1 := by
  obtain ⟨c, h1, h2⟩ := drop_cons l a h
  rw [h2, runLen, h1, if_pos hc]
/-- A digit, or a minus ahead of one. -/
def NumAt (l : List UInt8) (a : Nat) : Prop := isDigit (bt l a) = true ∨ (bt l a = 45 ∧ isDigit (bt l (a + 1)) = true)
theorem nx_num (h : a < l.length) (hc : NumAt l a) : nextItem (l.drop a) =
    if intB ((l.drop a).take (runLen (l.drop (a + 1)) + 1)) then ⟨2, (l.drop a).take (runLen (l.drop (a + 1)) + 1), runLen (l.drop (a + 1)) + 1⟩ else ⟨0, [], runLen (l.drop (a + 1)) + 1⟩ := by
  obtain ⟨c, h1, h2⟩ := drop_cons l a h
  have hl : isLetter (bt l a) = false := by
    rcases hc with hc | ⟨hc, _⟩
    · exact isDigit_not_letter hc
    · rw [hc]; rfl
  have hx : (isDigit (bt l a) || (bt l a == 45 && isDigit (bt (l.drop (a + 1)) 0))) = true := by
    rw [bt_drop, Nat.add_zero]
    rcases hc with hc | ⟨hc, hd⟩
    · rw [hc]; rfl
    · rw [hc, hd]; rfl
  rw [h2, nextItem, h1, hl, if_neg (by simp), if_pos hx]
theorem num_not (hc : ¬ NumAt l a) : (isDigit (bt l a) || (bt l a == 45 && isDigit (bt (l.drop (a + 1)) 0))) = false := by
  rw [bt_drop, Nat.add_zero]
  unfold NumAt at hc
  rw [not_or] at hc
  obtain ⟨h1, h2⟩ := hc
  rw [show isDigit (bt l a) = false from by simpa using h1, Bool.false_or]
  by_cases h3 : bt l a = 45
  · rw [h3]
    cases hd : isDigit (bt l (a + 1))
    · rfl
    · exact absurd ⟨h3, hd⟩ h2
  · simp [h3]
theorem nx_sign2 (h : a + 1 < l.length) (hs : bt l a = 60 ∨ bt l a = 62) (he : bt l (a + 1) = 61) : nextItem (l.drop a) = ⟨4, (l.drop a).take 2, 2⟩ := by
  obtain ⟨c, h1, h2⟩ := drop_cons l a (by omega)
  have hn : ¬ NumAt l a := by
    rintro (hd | ⟨hd, _⟩)
    · simp [isDigit] at hd; omega
    · omega
  have hl : isLetter (bt l a) = false := by rcases hs with hs | hs <;> rw [hs] <;> rfl
  have hsg : isSignC (bt l a) = true := by rcases hs with hs | hs <;> rw [hs] <;> rfl
  have hb : ((bt l a == 60 || bt l a == 62) && bt (l.drop (a + 1)) 0 == 61) = true := by
    rw [bt_drop, Nat.add_zero, he]
    rcases hs with hs | hs <;> rw [hs] <;> rfl
  rw [h2, nextItem, h1, hl, num_not hn, if_neg (by simp), if_neg (by simp), if_pos hsg, if_pos hb]
theorem nx_sign1 (h : a < l.length) (hsg : isSignC (bt l a) = true) (hn2 : ¬ ((bt l a = 60 ∨ bt l a = 62) ∧ bt l (a + 1) = 61)) : nextItem (l.drop a) = ⟨4, (l.drop a).take 1, 1⟩ := by
  obtain ⟨c, h1, h2⟩ := drop_cons l a h
  obtain ⟨hl, hd⟩ := sign_other hsg
  have hn : ¬ NumAt l a := by
    rintro (hd' | ⟨hd', _⟩)
    · rw [hd] at hd'; cases hd'
    · rw [hd'] at hsg; cases hsg
  have hb : ((bt l a == 60 || bt l a == 62) && bt (l.drop (a + 1)) 0 == 61) = false := by
    rw [bt_drop, Nat.add_zero]
    by_cases h3 : bt l a = 60 ∨ bt l a = 62
    · have : ¬ bt l (a + 1) = 61 := fun e => hn2 ⟨h3, e⟩
      simp [this]
    · rw [not_or] at h3
      simp [h3.1, h3.2]
  rw [h2, nextItem, h1, hl, num_not hn, if_neg (by simp), if_neg (by simp), if_pos hsg, hb, if_neg (by simp)]
  rfl
theorem nx_quote (h : a < l.length) (hc : bt l a = 34) : nextItem (l.drop a) = match qscan (l.drop (a + 1)) with | some x => ⟨3, x.1, x.2 + 1⟩ | none => ⟨0, [], 1⟩ := by
  obtain ⟨c, h1, h2⟩ := drop_cons l a h
  have hn : ¬ NumAt l a := by
    rintro (hd | ⟨hd, _⟩)
    · rw [hc] at hd; cases hd
    · omega
  rw [h2, nextItem, h1, num_not hn, hc]
  rfl
theorem nx_other (h : a < l.length) (hl : isLetter (bt l a) = false) (hn : ¬ NumAt l a) (hs : isSignC (bt l a) = false) (hq : ¬ bt l a = 34) : nextItem (l.drop a) = ⟨0, [], 1⟩ := by
  obtain ⟨c, h1, h2⟩ := drop_cons l a h
  rw [h2, nextItem, h1, hl, num_not hn, hs, if_neg (by simp), if_neg (by simp), if_neg (by simp), if_neg hq]
end

theorem infoTok : (Tryz.prog.info? 53).map (·.size) = some 3 := by kernel_rfl
def tokZero : Array Value := #[.int .i64 0, .string ⟨#[]⟩, .int .i64 0]
theorem tok_one (k : Int) (t : List UInt8) (x : Int) : ∀ v ∈ (#[.int .i64 k, .string (bs t), .int .i64 x] : Array Value).toList, v.oneCell' = true := by
  intro v hv
  simp at hv
  rcases hv with rfl | rfl | rfl <;> rfl

/-- What next returns at offset a, for the item i. -/
def NRet (i : Item) (a : Nat) (w : World) (e : Ending) (w' : World) : Prop := e = .returned (.tuple #[tokVal (tokOf i a), .int .i64 ((a + i.len : Nat) : Int)]) ∧ Below w.heap.size w w'
/-- The end of next: the result lies in a block of its own. -/
theorem next_end {fn : Func} {i : Item} {a : Nat} {w w' : World} {ac : Act} {g : Nat} {cs : Array Value} {p u : Tmp} (hf : fn.results = #[.cell p 53, .tmp u]) (hd : ac.defers = []) (hp : ac.tmps.getD p undef = .pointer (some ⟨g, 0, none⟩))
    (hu : ac.tmps.getD u undef = .int .i64 ((a + i.len : Nat) : Int)) (hb : Blk w' g 53 cs) (hcs : Value.agg cs = tokVal (tokOf i a)) (hsz : cs.size = 3) (hbl : Below w.heap.size w w') :
    bodyPost Tryz.prog fn (NRet i a w) .ret ac w' := by
  refine bodyPost_ret (v := .tuple #[tokVal (tokOf i a), .int .i64 ((a + i.len : Nat) : Int)]) ?_ hd ⟨rfl, hbl⟩
  rw [results_cell_tmp hf, hp, hu]
  have hl := run_loadVar_row (P := Tryz.prog) w' g 53 53 cs (0, 0) _ hb Tryz.underlying53 rfl (by rw [hsz]; exact infoTok)
  simp [asAddr, hl, hcs, Result.andThen]
/-- The zero token's block behind draws and a call. -/
theorem tokBlk {w w1 : World} {q : Nat} {cs : Array Value} (hb : Below ((w.alloc (.cells cs 53)).drewN q).heap.size ((w.alloc (.cells cs 53)).drewN q) w1) : Blk w1 w.heap.size 53 cs ∧ Below w.heap.size w w1 := by
  refine ⟨(Blk.drewN (Blk.new w 53 cs) q).below hb (by simp), ?_⟩
  have h1 : Below w.heap.size w ((w.alloc (.cells cs 53)).drewN q) := by
    have h2 := (Below.refl w.heap.size w).alloc (Nat.le_refl _) (.cells cs 53)
    exact h2.trans ((below_drewNg _ q).mono (by simp))
  exact h1.trans (hb.mono (by simp))

set_option maxHeartbeats 2000000 in
set_option maxRecDepth 100000 in
theorem next_letter (g : Nat) (A : Option Addr) (n c : Nat) (l : List UInt8) (a : Nat) (w : World) (h : Scn w g A n c l a) (ha : a < n) (hn : n ≤ 70000) (hlet : isLetter (bt l a) = true) :
    Calls Tryz.prog 47 #[.pointer (some ⟨g, 0, none⟩)] w (NRet (nextItem (l.drop a)) a w) := by
  have hlen := h.blen
  have hcap := h.rd.cap
  have hbig := h.rd.big
  have hg : g < w.heap.size := h.blk.lt
  have hs := h.src
  have hp := h.pos
  obtain ⟨b, off, rfl, hb, hc⟩ := h.rd.byte (k := a) ha
  have hbw : b < w.heap.size := by omega
  subst hlen
  have HI := Lib.hid (nx_letter ha hlet)
  have hr := run_first ha (inner_iff.2 (.inl (cls_letter.2 hlet)))
  have hrl := runLen_le (l.drop (a + 1))
  rw [List.length_drop] at hrl
  have e2 : clsAt l a = 2 := (clsAt_in ha).trans (cls_letter.2 hlet)
  clear hlet
  generalize hrr : runLen (l.drop a) = r at *
  have Hrr := Lib.hid hrr
  have hr1 : 1 ≤ r := by omega
  have hr2 : r ≤ l.length - a := by omega
  clear hrr hr hrl
  go_enter Tryz.func47, Tryz.ntmps47
  go_wp2
  go_quiet (fail)
  go_wp2_with (first
    | (go_at_call 46; refine (class_any g _ _ _ l a _ _ ((h.alloc _).drewN _) (by omega) (by omega)).mono ?_; rintro e w' ⟨rfl, nq1, rfl⟩)
    | (go_at_call 80; refine (run_any g _ _ _ l a _ _ ((h.alloc _).drewN _) (by omega) (by omega)).mono ?_; rw [Int.toNat_natCast, Hrr.out]; rintro e w' ⟨rfl, nq2, rfl⟩)
    | (go_at_call 81; refine (take_any g _ _ _ l a _ _ _ ((h.alloc _).drewN _) (by omega) (by omega)).mono ?_; rintro e w1 ⟨rfl, hb1⟩)
    | refine wpList_store_row rfl 53 (.tmp 2) (.tmp 35) rfl _ rfl #[.int .i64 1, .string (bs ((l.drop a).take (((a : Int) + (r : Int)).toNat - a))), .int .i64 a] tokZero rfl 53 (tokBlk hb1).1 rfl infoTok (tok_one _ _ _) ?_)
  rw [HI.out]
  refine next_end rfl rfl rfl rfl (Blk.setRow (tokBlk hb1).1 _) ?_ rfl (Below.setRow (tokBlk hb1).2 (Nat.le_refl _) _)
  simp [tokVal, tokOf]

end Go.Proofs.YtlgdmbdhffdenaaGreatDoor
