/- Parse (the program's), by its contract; what the calls below ask of the world. -/
import Derived.Test.YtnigdcppdkcllaaDoorMTextW
import Derived.Lib.AtoiAllMem
import Derived.Lib.AtoiErrMem
namespace Go.Proofs.YtnigdcppdkcllaaDoor
set_option linter.unusedVariables false
set_option linter.unusedSimpArgs false
open Go.RowKit

/-- What the library's functions read of the package-level variables. -/
structure Now (w : World) : Prop where
  len : ∃ m, w.cell? ⟨2, 0, none⟩ = some (.int .i64 m)
  tab : Lib.TabIs Tryd.prog w "internal/strconv.uint64pow10" .u64 Lib.pow10Tab
  syn : ∃ tp p, w.var? Tryd.prog "strconv.ErrSyntax" = some #[.iface tp p]
  rng : ∃ tp p, w.var? Tryd.prog "strconv.ErrRange" = some #[.iface tp p]
/-- .. now and in every later world. -/
def Gd (w : World) : Prop := ∀ w', Below w.heap.size w w' → Now w'
theorem Gd.now {w : World} (h : Gd w) : Now w := h w (Below.refl _ _)
theorem Gd.below {w w' : World} (h : Gd w) (hb : Below w.heap.size w w') : Gd w' := fun w2 hb2 => h w2 (hb.trans (hb2.mono hb.size))

theorem repl_any (l : List UInt8) (hl : l.length ≤ 100000) (w : World) (hg : Now w) : Calls Tryd.prog 32 #[.string (bs l), .string ⟨#[46]⟩, .string ⟨#[]⟩, .int .i64 1] w fun e w' => e = .returned (.string (bs (undot l))) ∧ Below w.heap.size w w' := by
  obtain ⟨m, hm⟩ := hg.len
  exact (Tryd.strings_Replace (bs l) ⟨#[46]⟩ ⟨#[]⟩ 1 m w (by rw [bs_size]; omega) hm (by decide) (by rw [bs_size]; show l.length + _ * 0 ≤ _; omega)).mono fun e w' ⟨he, hb⟩ => ⟨he, hb⟩
/-- How strconv.Atoi ends. -/
def AtoiPost (l : List UInt8) (w : World) (e : Ending) (w' : World) : Prop :=
  ((∃ v, Lib.atoiAll l = .ok v ∧ e = .returned (.tuple #[.int .i64 v, .nilIface])) ∨ ((∀ v, Lib.atoiAll l ≠ .ok v) ∧ ∃ x tp p, e = .returned (.tuple #[.int .i64 x, .iface tp p]))) ∧ Below w.heap.size w w'
theorem atoi_any (l : List UInt8) (hl : l.length ≤ 100000) (w : World) (hg : Now w) : Calls Tryd.prog 31 #[.string (bs l)] w (AtoiPost l w) := by
  cases h : Lib.atoiAll l with
  | ok v =>
    refine (Tryd.strconv_Atoi_ok (bs l) (by rw [bs_size]; omega) v h w).mono ?_
    rintro e w' ⟨rfl, hw⟩
    refine ⟨.inl ⟨v, h, rfl⟩, ?_⟩
    rcases hw with rfl | ⟨t, rfl⟩
    · exact Below.refl _ _
    · exact Lib.bytesWorld_below _ _ _
  | range =>
    obtain ⟨tp, p, hv⟩ := hg.rng
    refine (Tryd.strconv_Atoi_range_var (bs l) (by rw [bs_size]; omega) h tp p w hv).mono ?_
    rintro e w' ⟨N, rfl, _, _, hb⟩
    exact ⟨.inr ⟨(fun v => by rw [h]; exact (fun e => by cases e)), _, _, _, rfl⟩, hb⟩
  | _ =>
    obtain ⟨tp, p, hv⟩ := hg.syn
    refine (Tryd.strconv_Atoi_syntax_var (bs l) (by rw [bs_size]; omega) h tp p w hv).mono ?_
    rintro e w' ⟨N, rfl, _, _, hb⟩
    exact ⟨.inr ⟨(fun v => by rw [h]; exact (fun e => by cases e)), _, _, _, rfl⟩, hb⟩

/-- What a call of Parse leaves behind. -/
def ParsePost (l : List UInt8) (w : World) (e : Ending) (w' : World) : Prop := ∃ n ec, e = .returned (.tuple #[.int .i64 n, .int .i64 ec]) ∧ ParseIs l n ec ∧ Below w.heap.size w w'
set_option maxRecDepth 100000 in
set_option maxHeartbeats 2000000 in
theorem parse_any (l : List UInt8) (hl : l.length ≤ 50000) (w : World) (hg : Gd w) : Calls Tryd.prog 18 #[.string (bs l)] w (ParsePost l w) := by
  have hul := undot_len l
  have hR := Lib.hid (repl_any l (by omega) w hg.now)
  have hA := Lib.hid (fun w' h => atoi_any (undot l) (by omega) w' h)
  have HG := Lib.hid hg
  clear hg
  go_enter Tryd.func18, Tryd.ntmps18
  go_wp2_with (fail)
  refine hR.out.mono ?_
  rintro e w1 ⟨rfl, hb1'⟩
  have hb1 := Lib.hid hb1'
  clear hb1'
  go_wp2_with (fail)
  refine (hA.out w1 (HG.out.below hb1.out).now).mono ?_
  rintro e w2 ⟨hor, hb2'⟩
  have hb2 := Lib.hid (hb1.out.trans (hb2'.mono hb1.out.size))
  clear hb2' hul
  rcases hor with ⟨v, hv, rfl⟩ | ⟨hv, x, tp, p, rfl⟩
  · have hT := Lib.hid (text_any v w2 (HG.out.below hb2.out).now.tab)
    by_cases hhit : amtB v = true ∧ txt v = l
    · have e1 := txtR_yes hhit.1
      have e2 := amtE_yes hhit.1
      have t1 : (txtR v != l) = false := by rw [e1, hhit.2]; simp
      have t2 : (txtR v == l) = true := by rw [e1, hhit.2]; simp
      have HP := Lib.hid (parse_hit hhit.1 hhit.2)
      have HE := Lib.hid e2
      clear hhit hv e1 e2
      go_wp2_with (fail)
      refine hT.out.mono ?_
      rintro e w3 ⟨rfl, hb3'⟩
      rw [HE.out]
      have hb3 := Lib.hid (hb2.out.trans (hb3'.mono hb2.out.size))
      clear hb3'
      go_wp2
      go_ret2
      exact ⟨_, _, rfl, HP.out, hb3.out⟩
    · have HP := Lib.hid (parse_miss (s := l) (fun u hu => by rw [hv] at hu; injection hu with hu; subst hu; exact hhit))
      clear hv
      cases hm : amtB v with
      | false =>
        have HE := Lib.hid (amtE_no hm)
        clear hm hhit
        go_wp2_with (fail)
        refine hT.out.mono ?_
        rintro e w3 ⟨rfl, hb3'⟩
        rw [HE.out]
        have hb3 := Lib.hid (hb2.out.trans (hb3'.mono hb2.out.size))
        clear hb3'
        go_wp2
        go_ret2
        exact ⟨_, _, rfl, HP.out, hb3.out⟩
      | true =>
        have HE := Lib.hid (amtE_yes hm)
        have e1 := txtR_yes hm
        have hne : txtR v ≠ l := fun e => hhit ⟨hm, by rw [← e1, e]⟩
        have t1 : (txtR v != l) = true := by simpa using hne
        have t2 : (txtR v == l) = false := by simpa using hne
        clear hm hhit e1 hne
        go_wp2_with (fail)
        refine hT.out.mono ?_
        rintro e w3 ⟨rfl, hb3'⟩
        rw [HE.out]
        have hb3 := Lib.hid (hb2.out.trans (hb3'.mono hb2.out.size))
        clear hb3'
        go_wp2
        go_ret2
        exact ⟨_, _, rfl, HP.out, hb3.out⟩
  · have HP := Lib.hid (parse_miss (s := l) (fun u hu => absurd hu (hv u)))
    clear hv
    go_wp2
    go_ret2
    exact ⟨_, _, rfl, HP.out, hb2.out⟩
end Go.Proofs.YtnigdcppdkcllaaDoor
