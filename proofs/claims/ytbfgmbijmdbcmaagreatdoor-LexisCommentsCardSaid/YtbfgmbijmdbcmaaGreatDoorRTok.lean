/- The reference's token by its contract. -/
import Derived.Test.YtbfgmbijmdbcmaaGreatDoorRInt
import Derived.Test.YtbfgmbijmdbcmaaGreatDoorRQuoted
import Derived.Test.YtbfgmbijmdbcmaaGreatDoorNext
import Derived.Test.YtbfgmbijmdbcmaaGreatDoorNextOther
namespace Go.Proofs.YtbfgmbijmdbcmaaGreatDoor
set_option linter.unusedVariables false
set_option linter.unusedSimpArgs false
open Go.RowKit

/-- What token returns at offset a, for the item i. -/
def RRet (i : Item) (a : Nat) (w : World) (e : Ending) (w' : World) : Prop := e = .returned (.tuple #[tokVal (tokOf i a), .int .i64 (i.len : Int)]) ∧ Below w.heap.size w w'
theorem rt_end {fn : Func} {i : Item} {a : Nat} {w w' : World} {ac : Act} {g : Nat} {cs : Array Value} {p u : Tmp} (hf : fn.results = #[.cell p 41, .tmp u]) (hd : ac.defers = []) (hp : ac.tmps.getD p undef = .pointer (some ⟨g, 0, none⟩))
    (hu : ac.tmps.getD u undef = .int .i64 (i.len : Int)) (hb : Blk w' g 41 cs) (hcs : Value.agg cs = tokVal (tokOf i a)) (hsz : cs.size = 3) (hbl : Below w.heap.size w w') :
    bodyPost Tryz.prog fn (RRet i a w) .ret ac w' := by
  refine bodyPost_ret (v := .tuple #[tokVal (tokOf i a), .int .i64 (i.len : Int)]) ?_ hd ⟨rfl, hbl⟩
  rw [results_cell_tmp hf, hp, hu]
  have hl := run_loadVar_row (P := Tryz.prog) w' g 41 41 cs (0, 0) _ hb Tryz.underlying41 rfl (by rw [hsz]; exact infoTok)
  simp [asAddr, hl, hcs, Result.andThen]

set_option maxHeartbeats 4000000 in
set_option maxRecDepth 100000 in
theorem rtok_letter (A : Option Addr) (n c : Nat) (l : List UInt8) (a : Nat) (w : World) (h : Rd w w.heap.size 1 A n c (l.map vb)) (ha : a < n) (hn : n ≤ 70000) (hlet : isLetter (bt l a) = true) :
    Calls Tryz.prog 29 #[.slice A n c, .int .i64 (a : Int)] w (RRet (nextItem (l.drop a)) a w) := by
  have hlen := h.blen
  have hcap := h.cap
  have hbig := h.big
  obtain ⟨b, off, rfl, hb, hc⟩ := h.byte (k := a) ha
  subst hlen
  have HI := Lib.hid (nx_letter ha hlet)
  have hbw : ¬ b = w.heap.size := by omega
  go_enter Tryz.func29, Tryz.ntmps29
  go_wp2_with (go_at_call 45; refine (rletter_any _ _).mono ?_; rw [hlet]; rintro e w' ⟨rfl, rfl⟩)
  go_loop [7] (fun i => ∃ j : Nat, i = .int .i64 j ∧ a ≤ j ∧ j ≤ l.length ∧ Hid (∀ q, a ≤ q → q < j → isInner (bt l q) = true)) (fun i => l.length - (intOf i).toNat)
  case atStart => exact ⟨a, rfl, Nat.le_refl _, by omega, fun q h1 h2 => absurd h1 (by omega)⟩
  case round =>
    obtain ⟨j, rfl, haj, hj, Hj⟩ := hrel
    have hra := h.alloc (Nat.le_refl _) (.cells #[.int .i64 0, .string ⟨#[]⟩, .int .i64 0] 41)
    by_cases hlt : j < l.length
    · obtain ⟨b', off', he, hb', hcj⟩ := hra.byte (k := j) hlt
      injection he with he
      injection he with he1 he2
      subst he1 he2
      cases hin : isInner (bt l j) with
      | true =>
        have HN := Lib.hid (show ∀ q, a ≤ q → q < j + 1 → isInner (bt l q) = true from fun q h1 h2 => by
          rcases Nat.lt_or_ge q j with h3 | h3
          · exact Hj.out q h1 h3
          · rw [show q = j from by omega]; exact hin)
        go_wp2_with (go_at_call 46; refine (rinner_any _ _).mono ?_; rw [hin]; rintro e w' ⟨rfl, rfl⟩)
        go_round
        case rel => exact ⟨j + 1, by go_num, by omega, by omega, HN.out⟩
        case measure => simp [intOf]; omega
      | false =>
        have HR := Lib.hid (runLen_to l a j haj hj Hj.out (.inr hin))
        have hcv := (hra.sub (lo := a) (hi := j) haj hj).conv (P := Tryz.prog) Tryz.underlying22 Tryz.underlying5 Tryz.underlying9 (c - a)
        have haj' : (0 : Int) ≤ (j : Int) - a := by omega
        go_wp2_with (go_at_call 46; refine (rinner_any _ _).mono ?_; rw [hin]; rintro e w' ⟨rfl, rfl⟩)
        rw [HI.out, HR.out]
        refine rt_end rfl rfl rfl ?_ (Blk.new _ _ _) rfl rfl ((Below.refl _ w).alloc (Nat.le_refl _) _)
        exact int_eq (show (j : Int) - a = ((j - a : Nat) : Int) by omega)
    · have hx : j = l.length := by omega
      subst hx
      have HR := Lib.hid (runLen_to l a l.length haj (Nat.le_refl _) Hj.out (.inl rfl))
      have hcv := (hra.sub (lo := a) (hi := l.length) haj (Nat.le_refl _)).conv (P := Tryz.prog) Tryz.underlying22 Tryz.underlying5 Tryz.underlying9 (c - a)
      have haj' : (0 : Int) ≤ (l.length : Int) - a := by omega
      go_wp2
      rw [HI.out, HR.out]
      refine rt_end rfl rfl rfl ?_ (Blk.new _ _ _) rfl rfl ((Below.refl _ w).alloc (Nat.le_refl _) _)
      exact int_eq (show (l.length : Int) - a = ((l.length - a : Nat) : Int) by omega)

theorem numAt_or {l : List UInt8} {a : Nat} (h : NumAt l a) (hl : isLetter (bt l a) = false) : isDigit (bt l a) = true ∨ (isDigit (bt l a) = false ∧ ((bt l a : Int) == 45) = true ∧ isDigit (bt l (a + 1)) = true ∧ a + 1 < l.length) := by
  rcases h with h | ⟨h1, h2⟩
  · exact .inl h
  · right
    refine ⟨by rw [h1]; rfl, yb (by omega), h2, ?_⟩
    rcases Nat.lt_or_ge (a + 1) l.length with h | h
    · exact h
    · rw [bt_out l (a + 1) h] at h2; cases h2

set_option maxHeartbeats 4000000 in
set_option maxRecDepth 100000 in
theorem rtok_num (A : Option Addr) (n c : Nat) (l : List UInt8) (a : Nat) (w : World) (h : Rd w w.heap.size 1 A n c (l.map vb)) (ha : a < n) (hn : n ≤ 70000) (hlet : isLetter (bt l a) = false) (hnum : NumAt l a) :
    Calls Tryz.prog 29 #[.slice A n c, .int .i64 (a : Int)] w (RRet (nextItem (l.drop a)) a w) := by
  have hlen := h.blen
  have hcap := h.cap
  have hbig := h.big
  obtain ⟨b, off, rfl, hb, hc⟩ := h.byte (k := a) ha
  subst hlen
  have HI := Lib.hid (nx_num ha hnum)
  have hbw : ¬ b = w.heap.size := by omega
  have hra := h.alloc (Nat.le_refl _) (.cells #[.int .i64 0, .string ⟨#[]⟩, .int .i64 0] 41)
  obtain ⟨b', off', he, hb', hca⟩ := hra.byte (k := a) ha
  injection he with he
  injection he with he1 he2
  subst he1 he2
  have hor : isDigit (bt l a) = true ∨ (isDigit (bt l a) = false ∧ ((bt l a : Int) == 45) = true ∧ isDigit (bt l (a + 1)) = true ∧ a + 1 < l.length ∧ (w.alloc (.cells #[.int .i64 0, .string ⟨#[]⟩, .int .i64 0] 41)).cell? ⟨b, off + (a + 1), none⟩ = some (.int .u8 (bt l (a + 1) : Int))) := by
    rcases numAt_or hnum hlet with e2 | ⟨e2, e3, e4, e5⟩
    · exact .inl e2
    · obtain ⟨b', off', he, hb', hc1⟩ := hra.byte (k := a + 1) e5
      injection he with he
      injection he with he1 he2
      subst he1 he2
      exact .inr ⟨e2, e3, e4, e5, hc1⟩
  clear hnum
  rcases hor with e2 | ⟨e2, e3, e4, e5, hc1⟩
  all_goals
    go_enter Tryz.func29, Tryz.ntmps29
    go_wp2_with (first
      | (go_at_call 45; refine (rletter_any _ _).mono ?_; rw [hlet]; rintro e w' ⟨rfl, rfl⟩)
      | (go_at_call 47; refine (rdigit_any _ _).mono ?_; rw [e2]; rintro e w' ⟨rfl, rfl⟩)
      | (go_at_call 47; refine (rdigit_any _ _).mono ?_; rw [e4]; rintro e w' ⟨rfl, rfl⟩))
    go_loop [7] (fun i => ∃ j : Nat, i = .int .i64 j ∧ a + 1 ≤ j ∧ j ≤ l.length ∧ Hid (∀ q, a + 1 ≤ q → q < j → isInner (bt l q) = true)) (fun i => l.length - (intOf i).toNat)
    case atStart => exact ⟨a + 1, by go_num, Nat.le_refl _, by omega, fun q h1 h2 => absurd h1 (by omega)⟩
    case round =>
      obtain ⟨j, rfl, haj, hj, Hj⟩ := hrel
      by_cases hlt : j < l.length
      · obtain ⟨b', off', he, hb', hcj⟩ := hra.byte (k := j) hlt
        injection he with he
        injection he with he1 he2
        subst he1 he2
        cases hin : isInner (bt l j) with
        | true =>
          have HN := Lib.hid (show ∀ q, a + 1 ≤ q → q < j + 1 → isInner (bt l q) = true from fun q h1 h2 => by
            rcases Nat.lt_or_ge q j with h3 | h3
            · exact Hj.out q h1 h3
            · rw [show q = j from by omega]; exact hin)
          go_wp2_with (go_at_call 46; refine (rinner_any _ _).mono ?_; rw [hin]; rintro e w' ⟨rfl, rfl⟩)
          go_round
          case rel => exact ⟨j + 1, by go_num, by omega, by omega, HN.out⟩
          case measure => simp [intOf]; omega
        | false =>
          have hR := runLen_to l (a + 1) j haj hj Hj.out (.inr hin)
          have hcv := (hra.sub (lo := a) (hi := j) (by omega) hj).conv (P := Tryz.prog) Tryz.underlying22 Tryz.underlying5 Tryz.underlying9 (c - a)
          have haj' : (0 : Int) ≤ (j : Int) - a := by omega
          have hpl : ((l.drop a).take (j - a)).length ≤ 70000 := by rw [List.length_take, List.length_drop]; omega
          have HI2 := Lib.hid (show nextItem (l.drop a) = if intB ((l.drop a).take (j - a)) then ⟨2, (l.drop a).take (j - a), j - a⟩ else ⟨0, [], j - a⟩ by rw [HI.out, hR, show j - (a + 1) + 1 = j - a from by omega])
          clear hR
          generalize (l.drop a).take (j - a) = pc at *
          cases hint : intB pc with
          | true =>
            go_wp2_with (first
              | (go_at_call 46; refine (rinner_any _ _).mono ?_; rw [hin]; rintro e w' ⟨rfl, rfl⟩)
              | (go_at_call 37; refine (rinteger_any _ _ (by omega)).mono ?_; rw [hint]; rintro e w' ⟨rfl, rfl⟩))
            rw [HI2.out, hint, if_pos rfl]
            refine rt_end rfl rfl rfl ?_ (Blk.new _ _ _) rfl rfl ((Below.refl _ w).alloc (Nat.le_refl _) _)
            exact int_eq (show (j : Int) - a = ((j - a : Nat) : Int) by omega)
          | false =>
            go_wp2_with (first
              | (go_at_call 46; refine (rinner_any _ _).mono ?_; rw [hin]; rintro e w' ⟨rfl, rfl⟩)
              | (go_at_call 37; refine (rinteger_any _ _ (by omega)).mono ?_; rw [hint]; rintro e w' ⟨rfl, rfl⟩))
            rw [HI2.out, hint, if_neg (by simp)]
            refine rt_end rfl rfl rfl ?_ (Blk.new _ _ _) rfl rfl ((Below.refl _ w).alloc (Nat.le_refl _) _)
            exact int_eq (show (j : Int) - a = ((j - a : Nat) : Int) by omega)
      · have hx : j = l.length := by omega
        subst hx
        have hR := runLen_to l (a + 1) l.length haj (Nat.le_refl _) Hj.out (.inl rfl)
        have hcv := (hra.sub (lo := a) (hi := l.length) (by omega) (Nat.le_refl _)).conv (P := Tryz.prog) Tryz.underlying22 Tryz.underlying5 Tryz.underlying9 (c - a)
        have haj' : (0 : Int) ≤ (l.length : Int) - a := by omega
        have hpl : ((l.drop a).take (l.length - a)).length ≤ 70000 := by rw [List.length_take, List.length_drop]; omega
        have HI2 := Lib.hid (show nextItem (l.drop a) = if intB ((l.drop a).take (l.length - a)) then ⟨2, (l.drop a).take (l.length - a), l.length - a⟩ else ⟨0, [], l.length - a⟩ by rw [HI.out, hR, show l.length - (a + 1) + 1 = l.length - a from by omega])
        clear hR
        generalize (l.drop a).take (l.length - a) = pc at *
        cases hint : intB pc with
        | true =>
          go_wp2_with (go_at_call 37; refine (rinteger_any _ _ (by omega)).mono ?_; rw [hint]; rintro e w' ⟨rfl, rfl⟩)
          rw [HI2.out, hint, if_pos rfl]
          refine rt_end rfl rfl rfl ?_ (Blk.new _ _ _) rfl rfl ((Below.refl _ w).alloc (Nat.le_refl _) _)
          exact int_eq (show (l.length : Int) - a = ((l.length - a : Nat) : Int) by omega)
        | false =>
          go_wp2_with (go_at_call 37; refine (rinteger_any _ _ (by omega)).mono ?_; rw [hint]; rintro e w' ⟨rfl, rfl⟩)
          rw [HI2.out, hint, if_neg (by simp)]
          refine rt_end rfl rfl rfl ?_ (Blk.new _ _ _) rfl rfl ((Below.refl _ w).alloc (Nat.le_refl _) _)
          exact int_eq (show (l.length : Int) - a = ((l.length - a : Nat) : Int) by omega)
end Go.Proofs.YtbfgmbijmdbcmaaGreatDoor
