/- The number of an integer's text, in plain Lean: as strconv.Atoi reads it. -/
import Derived.Test.YticpjdjdimpglaaGreatDoorCFpaMJoinPlain
import Derived.Lib.AtoiAll
import Derived.Test.YticpjdjdimpglaaGreatDoorCFpaMYSt
import Derived.Test.YticpjdjdimpglaaGreatDoorCFpaMCmp2
import Derived.Maps.Own
import Derived.Maps.OwnOps
import Derived.Maps.OwnSet
import Derived.StringKeys
namespace Go.Proofs.YticpjdjdimpglaaGreatDoor
set_option linter.unusedVariables false
set_option linter.unusedSimpArgs false
theorem pu_digits : ∀ (l : List UInt8) (acc k : Nat), (∀ c ∈ l, isDigit c.toNat = true) → acc < 10 ^ k → k + l.length ≤ 18 → ∃ v, Lib.parseUint10 acc l = .ok v ∧ l.foldl dig (acc : Int) = (v : Int) ∧ v < 10 ^ (k + l.length)
  | [], acc, k, _, ha, _ => ⟨acc, rfl, rfl, ha⟩
  | c :: r, acc, k, hd, ha, hk => by
    have hc := hd c (by simp)
    unfold isDigit at hc
    rw [decide_eq_true_iff] at hc
    have hlen : k + 1 + r.length ≤ 18 := by simp at hk; omega
    have hp : 10 ^ k ≤ 10 ^ 17 := Nat.pow_le_pow_right (by omega) (by simp at hk; omega)
    have h17 : (10 : Nat) ^ 17 = 100000000000000000 := by decide
    have hacc : acc * 10 + (c.toNat - 48) < 10 ^ (k + 1) := by rw [Nat.pow_succ]; omega
    obtain ⟨v, h1, h2, h3⟩ := pu_digits r (acc * 10 + (c.toNat - 48)) (k + 1) (fun x hx => hd x (by simp [hx])) hacc hlen
    refine ⟨v, ?_, ?_, ?_⟩
    · rw [Lib.parseUint10, if_pos hc, if_neg (by omega), if_neg (by omega), h1]
    · rw [List.foldl_cons, ← h2]
      congr 1
      unfold dig
      have h45 : ¬ c = 45 := by
        rintro rfl
        exact absurd hc.1 (by decide)
      rw [if_neg h45]
      omega
    · rw [show k + (c :: r).length = k + 1 + r.length by simp; omega]; exact h3
theorem numB_digits {l : List UInt8} (h : numB l = true) : l ≠ [] ∧ l.length ≤ 18 ∧ ∀ c ∈ l, isDigit c.toNat = true := by
  unfold numB at h
  simp only [Bool.and_eq_true, decide_eq_true_eq, Bool.not_eq_true', List.all_eq_true] at h
  exact ⟨by intro e; rw [e] at h; simp at h, h.1.1.2, h.2⟩
/-- An integer's text is read as its number, which is small. -/
theorem atoi_int {l : List UInt8} (h : intB l = true) : Lib.atoiAll l = .ok (num l) ∧ -1000000000000000000 < num l ∧ num l < 1000000000000000000 := by
  have hp : ∀ k : Nat, k ≤ 18 → 10 ^ k ≤ 1000000000000000000 := fun k hk => by
    have := Nat.pow_le_pow_right (n := 10) (by omega) hk
    rwa [show (10 : Nat) ^ 18 = 1000000000000000000 from by decide] at this
  unfold intB at h
  rw [Bool.or_eq_true] at h
  rcases h with h | h
  · obtain rfl : l = [48] := by simpa using h
    exact ⟨by decide, by decide, by decide⟩
  · by_cases h45 : bt l 0 = 45
    · rw [if_pos h45] at h
      cases l with
      | nil => simp [bt] at h45
      | cons c r =>
        have hc : c.toNat = 45 := h45
        have hc' : c = 45 := UInt8.toNat_inj.1 hc
        subst hc'
        obtain ⟨h1, h2, h3⟩ := numB_digits (show numB r = true from h)
        obtain ⟨v, e1, e2, e3⟩ := pu_digits r 0 0 h3 (by decide) (by omega)
        have hv := hp (0 + r.length) (by omega)
        have hn : num (45 :: r) = -(v : Int) := by
          unfold num
          rw [if_pos h45, List.foldl_cons]
          exact congrArg (fun x : Int => -x) e2
        refine ⟨?_, by rw [hn]; omega, by rw [hn]; omega⟩
        rw [hn]
        unfold Lib.atoiAll Lib.parseMag
        simp only [show (45 : UInt8).toNat = 45 from rfl, or_true, if_true, if_neg h1]
        rw [e1]
        simp only [not_true_eq_false, false_and, if_false, true_and]
        rw [if_neg (by omega)]
    · rw [if_neg h45] at h
      obtain ⟨h1, h2, h3⟩ := numB_digits h
      cases l with
      | nil => exact absurd rfl h1
      | cons c r =>
        obtain ⟨v, e1, e2, e3⟩ := pu_digits (c :: r) 0 0 h3 (by decide) (by omega)
        have hv := hp (0 + (c :: r).length) (by omega)
        have hn : num (c :: r) = (v : Int) := by
          unfold num
          rw [if_neg h45]
          exact e2
        have hcd := h3 c (by simp)
        unfold isDigit at hcd
        rw [decide_eq_true_iff] at hcd
        refine ⟨?_, by rw [hn]; omega, by rw [hn]; omega⟩
        rw [hn]
        unfold Lib.atoiAll Lib.parseMag
        simp only []
        rw [if_neg (show ¬ (c.toNat = 43 ∨ c.toNat = 45) by omega), if_neg h1, e1]
        have h45' : ¬ c.toNat = 45 := by omega
        simp only [h45', not_false_eq_true, true_and, false_and, if_false]
        rw [if_neg (by omega)]
end Go.Proofs.YticpjdjdimpglaaGreatDoor
/- The parser's integer by its contract. -/
namespace Go.Proofs.YticpjdjdimpglaaGreatDoor
set_option linter.unusedVariables false
set_option linter.unusedSimpArgs false
open Go.RowKit
theorem nx_len {T : List Tok} {a : Nat} (hT : TOk T) : (nx T a).text.length ≤ 65536 := by
  by_cases hk : a < T.length
  · rw [show nx T a = T[a] by simp [nx, hk]]
    exact hT.text _ (List.getElem_mem hk)
  · rw [nx_out T (by omega)]; simp
theorem nx_int {T : List Tok} {a : Nat} (hT : TOk T) (h : (nx T a).kind = 2) : intB (nx T a).text = true := by
  have hk := nx_kind T (a := a) (by rw [h]; decide)
  rw [show nx T a = T[a] by simp [nx, hk]] at h ⊢
  exact hT.int _ (List.getElem_mem hk) h
set_option maxHeartbeats 1000000 in
set_option maxRecDepth 100000 in
theorem yint_any (B g : Nat) (A : Option Addr) (n c : Nat) (T : List Tok) (a : Nat) (w : World) (h : PSt w B g A n c T a) (hT : TOk T) (ha : a ≤ 65537) :
    Calls Tryz.prog 139 #[.pointer (some ⟨g, 0, none⟩)] w (PPost w B g A n c T (pint T a) fun x _ v => v = .int .i64 x ∧ -1000000000000000000 < x ∧ x < 1000000000000000000) := by
  have htx := nx_len (a := a) hT
  have hti := nx_int (a := a) hT
  obtain ⟨⟨k, tx, p⟩, ht⟩ : ∃ t, nx T a = t := ⟨_, rfl⟩
  have HN := Lib.hid (ynext_any B g A n c T a w h (by omega))
  have HD : pint T a = if k = 2 then .ok (num tx) (a + 1) else .bad a := by rw [pint, ht]
  rw [ht] at HN htx hti
  dsimp only at htx hti
  have HS := Lib.hid h
  clear ht hT h
  by_cases e1 : k = 2
  · obtain ⟨q1, q2, q3⟩ := atoi_int (hti e1)
    have HB := Lib.hid (And.intro q2 q3)
    have HA := Lib.hid q1
    rw [if_pos e1] at HD
    have HE := Lib.hid HD
    subst e1
    clear hti q1 q2 q3 HD
    go_enter Tryz.func139, Tryz.ntmps139
    go_wp2_with (fail)
    refine HN.out.mono ?_
    rintro e w1 ⟨rfl, hb1'⟩
    have hb1 := Lib.hid hb1'
    clear hb1'
    unfold tokV
    dsimp only
    go_wp2_with (fail)
    first | (refine calls_named ?_; intro W hW) | (refine body_named ?_; intro W hW) | (refine wpList_named ?_; intro W hW) | (refine wp_named ?_; intro W hW)
    have hb2 := Lib.hid (show Below w.heap.size w W by rw [← hW]; exact hb1.out.alloc hb1.out.size _)
    have hk2 : Blk W w1.heap.size 171 #[.int .i64 2, .string (bs tx), .int .i64 p] := by rw [← hW]; exact Blk.new _ _ _
    clear hW
    refine (atoi_any tx (by omega) W (HS.out.below hb2.out).gb.now).mono ?_
    rintro e w2 ⟨hor, hb3'⟩
    have hk3 := hk2.below hb3' hk2.lt
    have hb3 := Lib.hid (hb2.out.trans (hb3'.mono hb2.out.size))
    clear hb3' hk2
    have y0 : w2.cell? ⟨w1.heap.size, 0, none⟩ = some (.int .i64 2) := by rw [hk3.cell]; rfl
    rcases hor with ⟨v, hv, rfl⟩ | ⟨hv, _⟩
    · obtain rfl : v = num tx := by have := hv.symm.trans HA.out; injection this
      have HP := Lib.hid (HS.out.below hb3.out)
      have c1 := HP.out.at_
      have f1 := HP.out.free 1
      clear hv hk3
      generalize num tx = x at *
      go_wp2_with (fail)
      go_ret
      unfold PPost
      rw [HE.out]
      exact ⟨(Only.of_below hb3.out).trans (Only.set (S := (· = g)) _ (p := ⟨g, 1, none⟩) rfl _), ⟨_, rfl, rfl, HB.out⟩, HP.out.move (a + 1)⟩
    · exact absurd HA.out (hv _)
  · rw [if_neg e1] at HD
    have HE := Lib.hid HD
    clear hti HD
    go_enter Tryz.func139, Tryz.ntmps139
    go_wp2_with (fail)
    refine HN.out.mono ?_
    rintro e w1 ⟨rfl, hb1'⟩
    have hb1 := Lib.hid hb1'
    clear hb1'
    unfold tokV
    dsimp only
    go_wp2_with (fail)
    first | (refine calls_named ?_; intro W hW) | (refine body_named ?_; intro W hW) | (refine wpList_named ?_; intro W hW) | (refine wp_named ?_; intro W hW)
    have hb2 := Lib.hid (show Below w.heap.size w W by rw [← hW]; exact hb1.out.alloc hb1.out.size _)
    have hk2 : Blk W w1.heap.size 171 #[.int .i64 k, .string (bs tx), .int .i64 p] := by rw [← hW]; exact Blk.new _ _ _
    clear hW
    refine (atoi_any tx (by omega) W (HS.out.below hb2.out).gb.now).mono ?_
    rintro e w2 ⟨hor, hb3'⟩
    have hk3 := hk2.below hb3' hk2.lt
    have hb3 := Lib.hid (hb2.out.trans (hb3'.mono hb2.out.size))
    clear hb3' hk2
    have y0 : w2.cell? ⟨w1.heap.size, 0, none⟩ = some (.int .i64 k) := by rw [hk3.cell]; rfl
    have e2 : (k != 2) = true := by rw [bne_iff_ne]; exact e1
    obtain ⟨x, z, rfl⟩ : ∃ x z, e = .returned (.tuple #[.int .i64 x, z]) := by
      rcases hor with ⟨v, hv, rfl⟩ | ⟨hv, x, tp, q, rfl⟩
      · exact ⟨_, _, rfl⟩
      · exact ⟨_, _, rfl⟩
    clear hor hk3
    go_wp2_with (fail)
    refine (yfail_any g w2).mono ?_
    rintro e w4 ⟨rfl, rfl⟩
    go_wp2
    refine ⟨rfl, ?_⟩
    unfold PPost
    rw [HE.out]
    exact ⟨Only.of_below hb3.out, rfl, HS.out.below hb3.out⟩
end Go.Proofs.YticpjdjdimpglaaGreatDoor
/- A map from words to numbers, made by the call: what stands at a word. -/
namespace Go.Proofs.YticpjdjdimpglaaGreatDoor
set_option linter.unusedVariables false
set_option linter.unusedSimpArgs false
open Go.RowKit
theorem strKeyed : Maps.Keyed Tryz.prog 9 := Maps.string_keyed Tryz.underlying9
/-- Block b is a map that holds what ws says. -/
def MapIs (w : World) (b : Nat) (ws : List (List UInt8 × Int)) : Prop := ∃ (n : Nat) (D : DataW Unit), n ≤ ws.length ∧ w.ownsMap Tryz.prog 9 (plainElem Tryz.prog 3) b n D ∧ Maps.IsMap D ∧
  ∀ s : List UInt8, D.atKey (.string s) (.lit (.int .i64 0)) = .lit (.int .i64 ((lkup s ws).getD 0)) ∧ Maps.has D (.string s) = (lkup s ws).isSome
theorem MapIs.made (w : World) : MapIs (w.alloc (.map #[] 0)) w.heap.size [] := ⟨0, .map [], Nat.le_refl _, World.ownsMap_made _ _ _ _, Maps.isMap_empty, fun s => ⟨rfl, rfl⟩⟩
theorem MapIs.lt {w : World} {b : Nat} {ws : List (List UInt8 × Int)} (h : MapIs w b ws) : b < w.heap.size := by
  obtain ⟨n, D, _, h, _⟩ := h
  exact h.lt
theorem MapIs.only {S : Nat → Prop} {w w' : World} {b : Nat} {ws : List (List UInt8 × Int)} (h : MapIs w b ws) (ho : Only S w w') (hb : ¬ S b) : MapIs w' b ws := by
  obtain ⟨n, D, hn, ⟨es, clock, hh, r⟩, rest⟩ := h
  exact ⟨n, D, hn, ⟨es, clock, (ho.block b (Array.getElem?_eq_some_iff.1 hh).1 hb).trans hh, r⟩, rest⟩
theorem MapIs.below {w w' : World} {b : Nat} {ws : List (List UInt8 × Int)} (h : MapIs w b ws) (hb : Below w.heap.size w w') : MapIs w' b ws := h.only (S := fun _ => False) ⟨hb.os, hb.tape, hb.output, hb.size, fun k hk _ => hb.block k hk⟩ (fun h => h)
section
variable {P : Program} {ops : Array Oper} {rest : List Oper} {o : Oper} {a : Act} {Q : Exit → Act → World → Prop} {w : World}
/-- A word of a map literal. -/
theorem wpList_insert_is {b : Nat} {ws : List (List UInt8 × Int)} (hg : o.guard = none) (m x v : Operand) (hop : o.op = Op.insert 237 m x v) (hm : a.eval m = .map (some b)) (h : MapIs w b ws) (hl : ws.length ≤ 100)
    (s : List UInt8) (i : Int) (hx : a.eval x = .string (bs s)) (hv : a.eval v = .int .i64 i) (hs : s.length ≤ 100000) (hi : (Lit.int .i64 i).wf = true)
    (hK : ∀ w', MapIs w' b ((s, i) :: ws) → w.grownBy w' (some b) → wpList Tryz.prog ops Q rest (a.put o.dst undef) w') : wpList Tryz.prog ops Q (o :: rest) a w := by
  obtain ⟨n, D, hn, hown, hD, hlook⟩ := h
  have hkey : keyOf Tryz.prog 9 (.string (bs s)) = some (.string s) := WideMaps.keyOf_string_mk Tryz.underlying9 (by rw [bs_size]; unfold maxLen; omega)
  refine wpList_plain hg fun K' hK' => ?_
  obtain ⟨w', hrun, r1, r2⟩ := hown.update strKeyed Tryz.underlying237 (by unfold maxLen; omega) hkey (plainElem_int Tryz.underlying3 hi)
  unfold Oper.wp
  simp [execOp, hop, hm, hx, hv, hrun, Result.andThen]
  refine hK' _ _ (hK w' ⟨n + 1, _, by simpa using hn, r1, hD.put _ _, fun s' => ?_⟩ r2)
  unfold lkup
  by_cases e : s' = s
  · subst e
    rw [if_pos rfl]
    exact ⟨Maps.atKey_put_same hD (by trivial) _ _, Maps.has_put_same hD (by trivial) _⟩
  · rw [if_neg e, Maps.atKey_put_other (by simpa using e), Maps.has_put_other (by simpa using e)]
    exact hlook s'
/-- A word is looked up. -/
theorem wpList_lookup_is {b : Nat} {ws : List (List UInt8 × Int)} (hg : o.guard = none) (m x : Operand) (hop : o.op = Op.lookup 237 m x true) (hm : a.eval m = .map (some b)) (h : MapIs w b ws)
    (s : List UInt8) (hx : a.eval x = .string (bs s)) (hs : s.length ≤ 100000)
    (hK : wpList Tryz.prog ops Q rest (a.put o.dst (.tuple #[.int .i64 ((lkup s ws).getD 0), .bool (lkup s ws).isSome])) w) : wpList Tryz.prog ops Q (o :: rest) a w := by
  obtain ⟨n, D, hn, hown, hD, hlook⟩ := h
  have hkey : keyOf Tryz.prog 9 (.string (bs s)) = some (.string s) := WideMaps.keyOf_string_mk Tryz.underlying9 (by rw [bs_size]; unfold maxLen; omega)
  refine wpList_lookup_own_ok_int w hg m x 237 hop 9 3 .i64 strKeyed Tryz.underlying237 Tryz.underlying3 (by kernel_rfl) b n D hm hown _ _ hx hkey fun c hc hw => ?_
  obtain ⟨h1, h2⟩ := hlook s
  rw [h1] at hc
  injection hc with hc
  injection hc with _ hc
  rw [h2, ← hc]
  exact hK
/-- A map that is being made, in a world that has kept w. -/
def MSt (w w' : World) (b : Nat) (ws : List (List UInt8 × Int)) : Prop := Below w.heap.size w w' ∧ w.heap.size ≤ b ∧ MapIs w' b ws
theorem MSt.made {w w' : World} {b : Nat} (h : Below w.heap.size w w') (hb : b = w'.heap.size) : MSt w (w'.alloc (.map #[] 0)) b [] := by
  subst hb
  exact ⟨h.alloc h.size _, h.size, MapIs.made _⟩
theorem wpList_insert_st {w0 : World} {b : Nat} {ws : List (List UInt8 × Int)} (m : Operand) (h : MSt w0 w b ws) (s : List UInt8) (i : Int) (hl : ws.length ≤ 100) (hs : s.length ≤ 100000) (hi : (Lit.int .i64 i).wf = true)
    (hg : o.guard = none) (hop : o.op = Op.insert 237 m (.const (.string (bs s))) (.const (.int .i64 i))) (hm : a.eval m = .map (some b))
    (hK : ∀ w', MSt w0 w' b ((s, i) :: ws) → wpList Tryz.prog ops Q rest (a.put o.dst undef) w') : wpList Tryz.prog ops Q (o :: rest) a w :=
  wpList_insert_is hg m _ _ hop hm h.2.2 hl s i rfl rfl hs hi fun w' h1 h2 =>
    hK w' ⟨(Only.of_grown (S := (· = b)) h2 (fun k e => by injection e with e; exact e.symm)).below h.1 h.1.size (fun k e => by rw [e]; exact h.2.1), h.2.1, h1⟩
end
end Go.Proofs.YticpjdjdimpglaaGreatDoor
/- The parser's choose by its contract. -/
namespace Go.Proofs.YticpjdjdimpglaaGreatDoor
set_option linter.unusedVariables false
set_option linter.unusedSimpArgs false
open Go.RowKit
theorem pchoose_none {T : List Tok} {ws : List (List UInt8 × Int)} {a : Nat} (h : lkup (nx T a).text ws = none) : pchoose T ws a = .bad a := by unfold pchoose; rw [h]
theorem pchoose_some {T : List Tok} {ws : List (List UInt8 × Int)} {a : Nat} {v : Int} (h : lkup (nx T a).text ws = some v) : pchoose T ws a = if isB T a (nx T a).text then .ok v (a + 1) else .bad a := by unfold pchoose; rw [h]
set_option maxHeartbeats 1000000 in
set_option maxRecDepth 100000 in
theorem ychoose_any (B g : Nat) (A : Option Addr) (n c : Nat) (T : List Tok) (a b : Nat) (ws : List (List UInt8 × Int)) (w : World) (h : PSt w B g A n c T a) (hT : TOk T) (ha : a ≤ 65537) (hM : MapIs w b ws) :
    Calls Tryz.prog 210 #[.pointer (some ⟨g, 0, none⟩), .map (some b)] w (PPost w B g A n c T (pchoose T ws a) fun x _ v => v = .int .i64 x) := by
  have htx := nx_len (a := a) hT
  obtain ⟨⟨k, tx, p⟩, ht⟩ : ∃ t, nx T a = t := ⟨_, rfl⟩
  have HN := Lib.hid (fun (w : World) (h : PSt w B g A n c T a) => ynext_any B g A n c T a w h (by omega))
  have HT := Lib.hid ht
  have hfld : ∀ (x y z : Value) (w : World), Sem.run Tryz.prog (Instr.field 171 (.agg #[x, y, z]) 1) w = .ok y w := fun _ _ _ _ => rfl
  rw [ht] at HN htx
  dsimp only at htx
  have HS := Lib.hid h
  have HM := Lib.hid hM
  clear ht hT h hM
  obtain ⟨r, hr⟩ : ∃ r, lkup tx ws = r := ⟨_, rfl⟩
  have HR := Lib.hid hr
  clear hr
  go_enter Tryz.func210, Tryz.ntmps210
  go_wp2_with (fail)
  refine (HN.out w HS.out).mono ?_
  rintro e w1 ⟨rfl, hb1'⟩
  have hb1 := Lib.hid hb1'
  have HM1 := Lib.hid (HM.out.below hb1')
  clear hb1'
  unfold tokV
  dsimp only
  go_wp2_with (at_lookup; refine Hid.out ?_)
  refine Lib.hid ?_
  refine wpList_lookup_is ?h1 (.tmp 8) (.tmp 11) ?h2 ?h3 HM1.out tx ?h4 (by omega) ?_
  case h1 => rfl
  case h2 => rfl
  case h3 => rfl
  case h4 => rfl
  rw [HR.out]
  cases r with
  | none =>
    have HE := Lib.hid (pchoose_none (T := T) (ws := ws) (a := a) (by rw [HT.out]; exact HR.out))
    dsimp only [Option.getD, Option.isSome]
    go_wp2_with (fail)
    refine (yfail_any g w1).mono ?_
    rintro e w4 ⟨rfl, rfl⟩
    go_wp2
    refine ⟨rfl, ?_⟩
    unfold PPost
    rw [HE.out]
    exact ⟨Only.of_below hb1.out, rfl, HS.out.below hb1.out⟩
  | some v =>
    dsimp only [Option.getD, Option.isSome]
    have HD' := pchoose_some (T := T) (ws := ws) (a := a) (by rw [HT.out]; exact HR.out)
    rw [HT.out] at HD'
    dsimp only at HD'
    have HS1 := Lib.hid (HS.out.below hb1.out)
    obtain ⟨q, hq⟩ : ∃ q, isB T a tx = q := ⟨_, rfl⟩
    rw [hq] at HD'
    have HD := Lib.hid HD'
    have HQ := Lib.hid hq
    clear HD' hq
    go_wp2_with (fail)
    refine (HN.out w1 HS1.out).mono ?_
    rintro e w2 ⟨rfl, hb2'⟩
    have HS2 := Lib.hid (HS1.out.below hb2')
    have hb2 := Lib.hid (hb1.out.trans (hb2'.mono hb1.out.size))
    clear hb2'
    unfold tokV
    dsimp only
    go_wp2_with (fail)
    cases q with
    | true =>
      refine (yskip_yes B g A n c T a tx w2 HS2.out (by omega) (by omega) HQ.out).mono ?_
      rintro e w3 ⟨rfl, hP', hO'⟩
      have hP := Lib.hid hP'
      have hO := Lib.hid hO'
      clear hP' hO'
      go_wp2_with (fail)
      go_ret
      unfold PPost
      rw [HD.out]
      exact ⟨(Only.of_below hb2.out).trans hO.out, ⟨_, rfl, rfl⟩, hP.out⟩
    | false =>
      refine (yskip_no B g A n c T a tx w2 HS2.out (by omega) (by omega) HQ.out).mono ?_
      rintro e w3 ⟨rfl, hb3'⟩
      have hb3 := Lib.hid (hb2.out.trans (hb3'.mono hb2.out.size))
      clear hb3'
      go_wp2_with (fail)
      refine (yfail_any g w3).mono ?_
      rintro e w4 ⟨rfl, rfl⟩
      go_wp2
      refine ⟨rfl, ?_⟩
      unfold PPost
      rw [HD.out]
      exact ⟨Only.of_below hb3.out, rfl, HS.out.below hb3.out⟩
end Go.Proofs.YticpjdjdimpglaaGreatDoor
/- The closures of the parser's comparison by their contracts. -/
namespace Go.Proofs.YticpjdjdimpglaaGreatDoor
set_option linter.unusedVariables false
set_option linter.unusedSimpArgs false
open Go.RowKit
def condV (c : CT) (A : Option Addr) (m cc : Nat) : Value := .agg #[vi c.k, vi c.v, vi c.n, .slice A m cc]
/-- What a parser's function hands back for a condition: new blocks alone. -/
def CV (w : World) (c : CT) (w' : World) (v : Value) : Prop := ∃ A m cc, v = condV c A m cc ∧ RepH (fun k => k < w.heap.size) w' c.ps A m cc
set_option maxRecDepth 100000 in
theorem yleast_any (x v : Int) (b : Nat) (w : World) (h : Blk w b 3 #[.int .i64 v]) :
    Calls Tryz.prog 231 #[.int .i64 x, .pointer (some ⟨b, 0, none⟩)] w fun e w' => e = .returned (condV (least v x) none 0 0) ∧ Below w.heap.size w w' := by
  have x0 : w.cell? ⟨b, 0, none⟩ = some (.int .i64 v) := by rw [h.cell]; rfl
  have hlt := h.lt
  go_enter Tryz.func231, Tryz.ntmps231
  go_wp2
  go_returns
  exact ⟨rfl, (Below.refl _ _).alloc (Nat.le_refl _) _⟩
set_option maxRecDepth 100000 in
theorem ynot_any (k v x : Int) (A : Option Addr) (m cc : Nat) (w : World) :
    Calls Tryz.prog 232 #[.agg #[.int .i64 k, .int .i64 v, .int .i64 x, .slice A m cc]] w fun e w' => ∃ b, w.heap.size ≤ b ∧ e = .returned (.agg #[.int .i64 4, .int .i64 0, .int .i64 0, .slice (some ⟨b, 0, none⟩) 1 1]) ∧ Below w.heap.size w w' ∧
      Blk w' b 24 #[.int .i64 k, .int .i64 v, .int .i64 x, .slice A m cc] := by
  go_enter Tryz.func232, Tryz.ntmps232
  go_wp2
  go_returns
  refine ⟨w.heap.size + 1 + 1, by omega, rfl, (((Below.refl _ _).alloc (Nat.le_refl _) _).alloc (by simp) _).alloc (by simp; omega) _, ?_⟩
  have h := Blk.new ((w.alloc (.cells #[.int .i64 k, .int .i64 v, .int .i64 x, .slice A m cc] 24)).alloc (.cells #[.int .i64 4, .int .i64 0, .int .i64 0, .slice (some ⟨w.heap.size + 1 + 1, 0, none⟩) 1 1] 24)) 24 #[.int .i64 k, .int .i64 v, .int .i64 x, .slice A m cc]
  simp only [World.size_alloc] at h
  exact h
end Go.Proofs.YticpjdjdimpglaaGreatDoor
/- A row of conditions that is being made, beside a struct's box. -/
namespace Go.Proofs.YticpjdjdimpglaaGreatDoor
set_option linter.unusedVariables false
set_option linter.unusedSimpArgs false
open Go.RowKit
theorem elemCond : Elem Tryz.prog 22 24 4 48 := Elem.mk' Tryz.underlying22 (z := .agg #[.int .i64 0, .int .i64 0, .int .i64 0, .slice none 0 0]) (by kernel_rfl) rfl (by omega)
/-- One thing, or the things of a kind. -/
def joinAll (kind : Int) : CF → CT
  | .nil => .zero
  | .cons k v n ps r => match r with | .nil => ⟨k, v, n, ps⟩ | .cons .. => ⟨kind, 0, 0, .cons k v n ps r⟩
theorem joinAll_join (kind : Int) (c : CT) (cs : CF) : join_ kind c cs = joinAll kind ((CF.one c .nil).app cs) := by
  cases cs <;> rfl
/-- A block of one's own, as a row. -/
theorem own_of_blk {w : World} {b : Nat} {t : TypeId} {xs : List Value} {base size m : Nat} (h : Blk w b t xs.toArray) (hl : xs.length = m * size) (hb : base ≤ b) (hm : m ≤ 1000000) : w.ownsRow base t size (.slice (some ⟨b, 0, none⟩) m m) m xs :=
  ⟨hl, .inr ⟨b, m, xs.toArray, rfl, hb, h, Nat.le_refl _, by unfold maxLen; omega, by simpa using hl, by rw [← hl]; simp⟩⟩
theorem RepF.one {S : Nat → Prop} {w : World} {c : CT} {A : Option Addr} {m cc : Nat} (h : RepH S w c.ps A m cc) : RepF S w (.one c .nil) [vi c.k, vi c.v, vi c.n, .slice A m cc] := RepF.cons h rfl
/-- The state of a row that is being made, in a call that began in w0 with a struct's box. -/
structure JSt (w0 wr : World) (B g : Nat) (A : Option Addr) (n c : Nat) (T : List Tok) (b : Nat) (F : CF) (A' : Option Addr) (c' : Nat) : Prop where
  st : PSt wr B g A n c T b
  only : Only (· = g) w0 wr
  glt : g < w0.heap.size
  box : Blk wr w0.heap.size 24 #[.int .i64 0, .int .i64 0, .int .i64 0, .slice none 0 0]
  row : ∃ xs, wr.ownsRow (w0.heap.size + 1) 24 4 (.slice A' F.len c') F.len xs ∧ RepF (fun k => k ≤ w0.heap.size ∨ (Value.slice A' F.len c').ownBlock = some k) wr F xs
section
variable {w0 wr W w1 : World} {B g n c b b' c' : Nat} {A A' : Option Addr} {T : List Tok} {F : CF}
theorem JSt.go (h : JSt w0 wr B g A n c T b F A' c') (hp : PSt W B g A n c T b') (ho : Only (· = g) wr W) : JSt w0 W B g A n c T b' F A' c' := by
  obtain ⟨xs, h1, h2⟩ := h.row
  refine ⟨hp, h.only.trans ho, h.glt, h.box.only ho (by have := h.glt; omega), xs, own_only h1 ho (fun k hk => ?_), h2.only ho (fun k hk => .inl (by have := h.glt; omega))⟩
  have := (h1.lt k hk).1
  have := h.glt
  omega
theorem JSt.below (h : JSt w0 wr B g A n c T b F A' c') (hb : Below wr.heap.size wr W) : JSt w0 W B g A n c T b F A' c' := h.go (h.st.below hb) (Only.of_below hb)
theorem JSt.push (h : JSt w0 W B g A n c T b F A' c') {xs news : List Value} {c2 : CT} {A2 : Option Addr} {m cc : Nat} (hm : m = F.len + 1) (h2 : RepF (fun k => k ≤ w0.heap.size ∨ (Value.slice A' F.len c').ownBlock = some k) W F xs)
    (hn : RepF (fun k => k ≤ w0.heap.size ∨ (Value.slice A' F.len c').ownBlock = some k) W (.one c2 .nil) news) (hl : ∀ k, (Value.slice A' F.len c').ownBlock = some k → w0.heap.size + 1 ≤ k)
    (hg : W.grownBy w1 (Value.slice A' F.len c').ownBlock) (hown : w1.ownsRow (w0.heap.size + 1) 24 4 (.slice A2 m cc) m (xs ++ news))
    (hap : ∀ k, (Value.slice A2 m cc).ownBlock = some k → (Value.slice A' F.len c').ownBlock = some k ∨ W.heap.size ≤ k) : JSt w0 w1 B g A n c T b (F.app (.one c2 .nil)) A2 cc := by
  have ho : Only (fun k => (Value.slice A' F.len c').ownBlock = some k) W w1 := Only.of_grown hg (fun k hk => hk)
  have hlen : (F.app (.one c2 .nil)).len = m := by rw [CF.len_app, hm]; rfl
  have hsz := h.only.size
  refine ⟨h.st.only ho (fun e => by have := hl _ e; have := h.glt; omega) (fun k hk => by have := hl k hk; have := h.glt; have := h.st.lb; omega), h.only.new ho (fun k hk => by have := hl k hk; omega), h.glt,
    h.box.only ho (fun e => by have := hl _ e; omega), xs ++ news, by rw [hlen]; exact hown, ?_⟩
  rw [hlen]
  have hrep := RepF.app h2 hn
  have hr2 := (hrep.new).only ho (fun k hk => .inl (.inr hk))
  refine hr2.sub fun k hk => ?_
  rcases hk with hk | hk
  · exact .inl (.inl hk)
  · rcases hap k hk with e | e
    · exact .inl (.inr e)
    · exact .inr e
end
end Go.Proofs.YticpjdjdimpglaaGreatDoor
/- The parser's joined by its contract. -/
namespace Go.Proofs.YticpjdjdimpglaaGreatDoor
set_option linter.unusedVariables false
set_option linter.unusedSimpArgs false
open Go.RowKit
theorem len_one {F : CF} (h : F.len = 1) : ∃ k v n ps, F = .cons k v n ps .nil := by
  cases F with
  | nil => cases h
  | cons k v n ps r =>
    cases r with
    | nil => exact ⟨_, _, _, _, rfl⟩
    | cons => simp [CF.len] at h
theorem joinAll_many {kind : Int} {F : CF} (h0 : 0 < F.len) (h1 : F.len ≠ 1) : joinAll kind F = ⟨kind, 0, 0, F⟩ := by
  cases F with
  | nil => cases h0
  | cons k v n ps r =>
    cases r with
    | nil => exact absurd rfl h1
    | cons => rfl
theorem RepF.uncons {S : Nat → Prop} {w : World} {k v n : Int} {ps r : CF} {xs : List Value} (h : RepF S w (.cons k v n ps r) xs) : ∃ A m c zs, xs = vi k :: vi v :: vi n :: .slice A m c :: zs ∧ RepH S w ps A m c ∧ RepF S w r zs := by
  obtain ⟨A, m, c, ys, zs, e, h1, h2⟩ := h
  exact ⟨A, m, c, zs, e, ⟨ys, h1⟩, h2⟩
theorem pmore_succ (T : List Tok) (kw : List UInt8) (p : Nat → Res CT) (g a : Nat) : pmore T kw p (g + 1) a = if isB T a kw then (p (a + 1)).bind fun c n => (pmore T kw p g n).map (CF.one c) else .ok .nil a := rfl
set_option maxHeartbeats 4000000 in
set_option maxRecDepth 100000 in
theorem yjoin_any (k : Nat) (B g : Nat) (A : Option Addr) (n c : Nat) (T : List Tok) (p : Nat → Res CT) (hpin : ∀ a, (p a).In T.length a) (a : Nat) (kw : List UInt8) (kind : Int) (hkw : kw.length ≤ 70000)
    (hU : ∀ a' w', a ≤ a' → a' ≤ 65537 → PSt w' B g A n c T a' → Calls Tryz.prog k #[.pointer (some ⟨g, 0, none⟩)] w' (PPost w' B g A n c T (p a') (CV w')))
    (hcf : ∀ w : World, (callFunc k #[.pointer (some ⟨g, 0, none⟩)]).run Tryz.prog w = .ok (.enter k #[.pointer (some ⟨g, 0, none⟩)]) w)
    (w : World) (h : PSt w B g A n c T a) (hT : TOk T) (ha : a ≤ 65537) :
    Calls Tryz.prog 133 #[.pointer (some ⟨g, 0, none⟩), .string (bs kw), .int .i64 kind, .func (.func k) #[.pointer (some ⟨g, 0, none⟩)] #[]] w (PPost w B g A n c T (pjoined T kw kind p a) (CV w)) := by
  have HS := Lib.hid h
  have HT := Lib.hid hT
  have HU := Lib.hid hU
  have hTl := hT.len
  clear h hT hU
  go_enter Tryz.func133, Tryz.ntmps133
  go_wp2_with (fail)
  have hb0 : Below w.heap.size w (w.alloc (.cells #[.int .i64 0, .int .i64 0, .int .i64 0, .slice none 0 0] 24)) := (Below.refl _ _).alloc (Nat.le_refl _) _
  have hx0 := Blk.new w 24 #[.int .i64 0, .int .i64 0, .int .i64 0, .slice none 0 0]
  have hgw := HS.out.lt
  refine (HU.out a _ (Nat.le_refl _) ha (HS.out.below hb0)).mono ?_
  rintro e w1 ⟨hO1', hp⟩
  have hO1 := Lib.hid ((Only.of_below hb0).trans hO1')
  have hx1 := hx0.only hO1' (by omega)
  have hin := hpin a
  cases hv : p a with
  | bad m =>
    rw [hv] at hp
    obtain ⟨rfl, hP⟩ := hp
    have HE := Lib.hid (show pjoined T kw kind p a = .bad m by unfold pjoined; rw [hv]; rfl)
    clear hv hin
    go_wp2
    refine ⟨rfl, ?_⟩
    unfold PPost
    rw [HE.out]
    exact ⟨hO1.out, rfl, hP⟩
  | ok c1 m =>
    rw [hv] at hp hin
    obtain ⟨⟨_, rfl, A1, m1, cc1, rfl, hR1⟩, hP1⟩ := hp
    have hm : m ≤ 65537 := Nat.le_trans hin.2 HT.out.len
    have hmT : m ≤ T.length := hin.2
    have ham : a < m := hin.1
    have HE := Lib.hid (show pjoined T kw kind p a = (pmore T kw p (T.length - m) m).map (fun cs => joinAll kind ((CF.one c1 .nil).app cs)) by
      unfold pjoined; rw [hv]
      show (pmore T kw p (T.length - m) m).map (join_ kind c1) = _
      exact congrArg (fun f => (pmore T kw p (T.length - m) m).map f) (funext fun cs => joinAll_join kind c1 cs))
    clear hv hin
    unfold condV
    dsimp only
    go_wp2_with (fail)
    have hb2 : Below w1.heap.size w1 (w1.alloc (.cells #[vi c1.k, vi c1.v, vi c1.n, .slice A1 m1 cc1] 24)) := (Below.refl _ _).alloc (Nat.le_refl _) _
    have hJ : JSt w (w1.alloc (.cells #[vi c1.k, vi c1.v, vi c1.n, .slice A1 m1 cc1] 24)) B g A n c T m (.one c1 .nil) (some ⟨w1.heap.size, 0, none⟩) 1 := by
      have hz := hO1.out.size
      have hz2 := hO1'.size
      simp only [World.size_alloc] at hz2
      refine ⟨hP1.below hb2, hO1.out.trans (Only.of_below hb2), hgw, hx1.below hb2 hx1.lt, [vi c1.k, vi c1.v, vi c1.n, .slice A1 m1 cc1], own_of_blk (m := 1) (Blk.new w1 _ _) rfl (by omega) (by decide), ?_⟩
      have h1 := (hR1.new.only (S' := fun _ => False) (Only.of_below hb2) (fun _ h => h.elim))
      refine RepF.one (h1.sub fun k hk => ?_)
      rcases hk with hk | hk
      · exact .inl (by simp; omega)
      · injection hk with hk
        exact .inr (by show w1.heap.size ≤ k; have hk' : w1.heap.size = k := hk; omega)
    have HJ := Lib.hid hJ
    clear hJ hb2 hP1 hR1 hO1 hO1' hx1 hx0 hb0
    generalize w1.alloc (.cells #[vi c1.k, vi c1.v, vi c1.n, .slice A1 m1 cc1] 24) = w2 at HJ ⊢
    generalize w1.heap.size = b1 at HJ ⊢
    go_loopg [9] (T.length - m) (fun gk s wr => ∃ (b : Nat) (F : CF) (A' : Option Addr) (c' : Nat), T.length ≤ gk + b ∧ b ≤ T.length ∧ F.len ≤ b ∧ 0 < F.len ∧ s = .slice A' F.len c' ∧ a ≤ b ∧ Hid (JSt w wr B g A n c T b F A' c') ∧ Hid (pjoined T kw kind p a = (pmore T kw p gk b).map (fun cs => joinAll kind (F.app cs))))
    case atStart => exact ⟨m, _, _, 1, by omega, hmT, by show 1 ≤ m; omega, by show 0 < 1; omega, rfl, by omega, HJ.out, HE.out⟩
    case round =>
      obtain ⟨b, F, A', c', hgk, hbL, hFb, hF0, rfl, hab, HJ2, HE2⟩ := hrel
      have hb : b ≤ 65537 := by have := HT.out.len; omega
      have Hgk := Lib.hid hgk
      cases hB : isB T b kw with
      | true =>
        have hlt := isB_lt T hB
        obtain ⟨gk, rfl⟩ : ∃ q, gk = q + 1 := ⟨gk - 1, by omega⟩
        have HE3 := Lib.hid (show pjoined T kw kind p a = ((p (b + 1)).bind fun c n => (pmore T kw p gk n).map (CF.one c)).map (fun cs => joinAll kind (F.app cs)) by rw [HE2.out, pmore_succ, if_pos hB])
        have HC := Lib.hid (yskip_yes B g A n c T b kw wr HJ2.out.st (by omega) hkw hB)
        clear hB HE2 hgk
        go_wp2_with (fail)
        refine HC.out.mono ?_
        rintro e w3 ⟨rfl, hP3, hO3⟩
        have HJ3 := Lib.hid (HJ2.out.go hP3 hO3)
        clear hP3 hO3
        go_wp2_with (fail)
        refine (HU.out (b + 1) w3 (by omega) (by omega) HJ3.out.st).mono ?_
        rintro e w4 ⟨hO4, hp⟩
        have hin := hpin (b + 1)
        cases hv : p (b + 1) with
        | bad m2 =>
          rw [hv] at hp
          obtain ⟨rfl, hP⟩ := hp
          have HE := Lib.hid (show pjoined T kw kind p a = .bad m2 by rw [HE3.out, hv]; rfl)
          have hO := Lib.hid (HJ3.out.only.trans hO4)
          clear hv hin hO4
          go_wp2
          refine ⟨rfl, ?_⟩
          unfold PPost
          rw [HE.out]
          exact ⟨hO.out, rfl, hP⟩
        | ok c2 m2 =>
          rw [hv] at hp hin
          obtain ⟨⟨_, rfl, A2, n2, cc2, rfl, hR2⟩, hP4⟩ := hp
          have HE4 := Lib.hid (show pjoined T kw kind p a = (pmore T kw p gk m2).map (fun cs => joinAll kind ((F.app (.one c2 .nil)).app cs)) by
            rw [HE3.out, hv]
            show ((pmore T kw p gk m2).map (CF.one c2)).map _ = _
            cases pmore T kw p gk m2 with
            | ok cs q => show Res.ok (joinAll kind (F.app (CF.one c2 cs))) q = Res.ok (joinAll kind ((F.app (CF.one c2 .nil)).app cs)) q; rw [CF.app_assoc]; rfl
            | bad q => rfl)
          have hm2 : m2 ≤ T.length := hin.2
          have hbm : b + 1 < m2 := hin.1
          have HJ4 := Lib.hid (HJ3.out.go hP4 hO4)
          have HR4 := Lib.hid (show RepH (fun k => k ≤ w.heap.size ∨ (Value.slice A' F.len c').ownBlock = some k) w4 c2.ps A2 n2 cc2 by
            obtain ⟨xs, h1, _⟩ := HJ3.out.row
            refine hR2.sub fun k hk => ?_
            rcases hk with hk | hk
            · exact Nat.lt_of_le_of_lt hk HJ3.out.box.lt
            · exact (h1.lt k hk).2)
          clear hv hin hO4 hP4 hR2 HE3
          unfold condV
          dsimp only
          go_wp2_with (at_builtin; refine Hid.out ?_)
          refine Lib.hid ?_
          obtain ⟨xs, hrow, hrep⟩ := HJ4.out.row
          have hbb : Below w4.heap.size w4 (w4.alloc (.cells #[vi c2.k, vi c2.v, vi c2.n, .slice A2 n2 cc2] 24)) := (Below.refl _ _).alloc (Nat.le_refl _) _
          have hF65 : F.len ≤ 65537 := by omega
          refine wpList_push_apart elemCond rfl (.tmp 16) (.tmp 19) rfl (w.heap.size + 1) A' F.len c' xs rfl (own_below_all hrow hbb) w4.heap.size rfl [vi c2.k, vi c2.v, vi c2.n, .slice A2 n2 cc2] rfl (new_cells _ _ _) (by intro u hu; simp at hu; rcases hu with rfl | rfl | rfl | rfl <;> rfl) (by omega) (by omega) (by have := HJ4.out.box.lt; simp only [World.size_alloc]; omega) ?_
          intro A3 c3 w5 hown5 hb5 hg5 hap5
          have HJ5 := Lib.hid (JSt.push (HJ4.out.below hbb) (xs := xs) (news := [vi c2.k, vi c2.v, vi c2.n, .slice A2 n2 cc2]) (c2 := c2) rfl (hrep.only (S' := fun _ => False) (Only.of_below hbb) (fun _ h => h.elim)) (RepF.one (HR4.out.only (S' := fun _ => False) (Only.of_below hbb) (fun _ h => h.elim))) (fun k hk => (hrow.lt k hk).1) hg5 hown5 hap5)
          clear hrow hrep hbb hown5 hb5 hg5 hap5 HJ4 HR4
          go_wp2_with (fail)
          go_roundg gk
          case measure => omega
          case rel => exact ⟨m2, _, A3, c3, by have := Hgk.out; omega, hm2, by rw [CF.len_app]; show F.len + 1 ≤ m2; omega, by rw [CF.len_app]; show 0 < F.len + 1; omega, slice_eq (by rw [CF.len_app]; rfl), by omega, HJ5.out, HE4.out⟩
      | false =>
        have HE3 := Lib.hid (show pjoined T kw kind p a = .ok (joinAll kind F) b by
          rw [HE2.out]
          cases gk with
          | zero => show Res.ok (joinAll kind (F.app .nil)) b = _; rw [CF.app_nil]
          | succ gk => rw [pmore_succ, if_neg (by rw [hB]; decide)]; show Res.ok (joinAll kind (F.app .nil)) b = _; rw [CF.app_nil])
        have HC := Lib.hid (yskip_no B g A n c T b kw wr HJ2.out.st (by omega) hkw hB)
        clear hB HE2 hgk
        go_wp2_with (fail)
        refine HC.out.mono ?_
        rintro e w3 ⟨rfl, hb3⟩
        have HJ3 := Lib.hid (HJ2.out.below hb3)
        clear hb3
        obtain ⟨x0, x1, x2, x3, f0, f1, f2, f3⟩ := HJ3.out.box.four
        obtain ⟨xs, hrow', hrep'⟩ := HJ3.out.row
        have hrow := Lib.hid hrow'
        have hrep := Lib.hid hrep'
        have hlx := HJ3.out.box.lt
        by_cases h1 : F.len = 1
        · obtain ⟨q1, q2, q3, qs, rfl⟩ := len_one h1
          obtain ⟨A3, m3, c3, zs, rfl, hR, hz⟩ := RepF.uncons hrep'
          obtain rfl : zs = [] := hz
          have HR := Lib.hid hR
          obtain ⟨bb, off, rfl, hbb, hc⟩ := (own_rd hrow').cells (by omega)
          have y0 : w3.cell? ⟨bb, off, none⟩ = some (.int .i64 q1) := hc 0 _ rfl
          have y1 : w3.cell? ⟨bb, off + 1, none⟩ = some (.int .i64 q2) := hc 1 _ rfl
          have y2 : w3.cell? ⟨bb, off + 2, none⟩ = some (.int .i64 q3) := hc 2 _ rfl
          have y3 : w3.cell? ⟨bb, off + 3, none⟩ = some (.slice A3 m3 c3) := hc 3 _ rfl
          have HE5 := Lib.hid (show pjoined T kw kind p a = .ok ⟨q1, q2, q3, qs⟩ b by rw [HE3.out]; rfl)
          have hcap := (own_rd hrow').cap
          clear hrow' hrep' hR hc HE3
          rw [h1] at *
          go_wp2_with (fail)
          first | (refine calls_named ?_; intro W hW) | (refine body_named ?_; intro W hW) | (refine wpList_named ?_; intro W hW) | (refine wp_named ?_; intro W hW)
          obtain ⟨hk, hO⟩ : Blk W w.heap.size 24 #[.int .i64 q1, .int .i64 q2, .int .i64 q3, .slice A3 m3 c3] ∧ Only (· = w.heap.size) w3 W := by rw [← hW]; exact HJ3.out.box.set4
          clear hW x0 x1 x2 x3 f0 f1 f2 f3 y0 y1 y2 y3
          obtain ⟨y0, y1, y2, y3, _⟩ := hk.four
          refine bodyPost_ret (by simp [results, Tryz.results133, go_sem, y0, y1, y2, y3]; try rfl) rfl ?_
          unfold PPost
          rw [HE5.out]
          refine ⟨HJ3.out.only.new hO (fun k e => by rw [e]; exact Nat.le_refl _), ⟨_, rfl, A3, m3, c3, rfl, ?_⟩, HJ3.out.st.only hO (by omega) (fun k e => by rw [e]; have := HJ3.out.st.lb; omega)⟩
          exact (HR.out.only hO (fun k e => .inl (by rw [e]; exact Nat.le_refl _))).sub (fun k hk => .inl (Nat.le_of_lt hk))
        · have HE5 := Lib.hid (show pjoined T kw kind p a = .ok ⟨kind, 0, 0, F⟩ b by rw [HE3.out, joinAll_many hF0 h1])
          have e1 := nb (a := F.len) (m := 1) (by omega)
          clear hrow' hrep' HE3
          go_wp2_with (fail)
          first | (refine calls_named ?_; intro W hW) | (refine body_named ?_; intro W hW) | (refine wpList_named ?_; intro W hW) | (refine wp_named ?_; intro W hW)
          obtain ⟨hk, hO⟩ : Blk W w.heap.size 24 #[.int .i64 kind, .int .i64 0, .int .i64 0, .slice A' F.len c'] ∧ Only (· = w.heap.size) w3 W := by rw [← hW]; exact HJ3.out.box.set4
          clear hW x0 x1 x2 x3 f0 f1 f2 f3
          obtain ⟨y0, y1, y2, y3, _⟩ := hk.four
          refine bodyPost_ret (by simp [results, Tryz.results133, go_sem, y0, y1, y2, y3]; try rfl) rfl ?_
          unfold PPost
          rw [HE5.out]
          refine ⟨HJ3.out.only.new hO (fun k e => by rw [e]; exact Nat.le_refl _), ⟨_, rfl, A', F.len, c', rfl, xs, ?_, ?_, ?_⟩, HJ3.out.st.only hO (by omega) (fun k e => by rw [e]; have := HJ3.out.st.lb; omega)⟩
          · exact own_rd (own_only hrow.out hO (fun k hk e => by have := (hrow.out.lt k hk).1; omega))
          · intro _ q hq hS
            subst hq
            have := (hrow.out.lt q.block rfl).1
            omega
          · exact (hrep.out.only hO (fun k e => .inl (by rw [e]; exact Nat.le_refl _))).sub (fun k hk => .inl (Nat.le_of_lt hk))
end Go.Proofs.YticpjdjdimpglaaGreatDoor
