/- The library's stable sort of problems by its contract, for lists of every length up to 100000. -/
import Derived.Test.YtlgdmbdhffdenaaGreatDoorYSrtS
import Derived.Test.YtlgdmbdhffdenaaGreatDoorYSort1
import Derived.Test.YtlgdmbdhffdenaaGreatDoorYSane
import Derived.Test.YtlgdmbdhffdenaaGreatDoorQS
import Derived.Test.YtlgdmbdhffdenaaGreatDoorQC
namespace Go.Proofs.YtlgdmbdhffdenaaGreatDoor
set_option linter.unusedVariables false
set_option linter.unusedSimpArgs false
open Go.RowKit
open Go.Sort (grow alloc_eq_grow grow_grow)

theorem dbl (q s : Nat) : 2 * q * s = q * (2 * s) := by rw [Nat.mul_comm 2 q, Nat.mul_assoc]
theorem dbl1 (q s : Nat) : (2 * q + 1) * s = q * (2 * s) + s := by rw [Nat.succ_mul, dbl]
theorem dbl2 (q s : Nat) : 2 * (q + 1) * s = q * (2 * s) + 2 * s := by rw [dbl, Nat.succ_mul]
theorem pair_lo {R : List Prob} {s m q X : Nat} (h : SBfrom R s m (2 * q)) (hX : q * (2 * s) = X) (hb : X + s ≤ m) : SortedR R X (X + s) := by
  have := h (2 * q) (Nat.le_refl _)
  rw [dbl, hX, Nat.min_eq_left hb] at this
  exact this
theorem pair_hi {R : List Prob} {s m q X b : Nat} (h : SBfrom R s m (2 * q)) (hX : q * (2 * s) = X) (hb : b ≤ X + 2 * s) (hm : b ≤ m) : SortedR R (X + s) b := by
  have := h (2 * q + 1) (Nat.le_succ _)
  rw [dbl1, hX] at this
  exact this.sub (Nat.le_refl _) (by omega)
theorem pair_one {R : List Prob} {s m q X : Nat} (h : SBfrom R s m (2 * q)) (hX : q * (2 * s) = X) (hm : m ≤ X + s) : SortedR R X m := by
  have := h (2 * q) (Nat.le_refl _)
  rw [dbl, hX, Nat.min_eq_right hm] at this
  exact this
/-- What the loop over blocks keeps. -/
def StA (w wr : World) (b z : Nat) (P : List Prob) (m s : Nat) (x y : Value) : Prop := ∃ (q : Nat) (R : List Prob), x = .int .i64 ((q * s : Nat) : Int) ∧ y = .int .i64 ((q * s + s : Nat) : Int) ∧ q * s ≤ m ∧ Hid (Only (· = b) w wr) ∧ Hid (PRow wr b z R) ∧ Hid (R.Perm P) ∧ Hid (SQ R s q)
/-- What the loop over sizes keeps. -/
def StB (w wr : World) (b z : Nat) (P : List Prob) (m : Nat) (x : Value) : Prop := ∃ (s : Nat) (R : List Prob), x = .int .i64 (s : Int) ∧ 20 ≤ s ∧ s ≤ 2 * m + 20 ∧ Hid (Only (· = b) w wr) ∧ Hid (PRow wr b z R) ∧ Hid (R.Perm P) ∧ Hid (SB R s m)
/-- What the loop over pairs of blocks keeps. -/
def StC (w wr : World) (b z : Nat) (P : List Prob) (m s : Nat) (x y : Value) : Prop := ∃ (q : Nat) (R : List Prob), x = .int .i64 ((q * (2 * s) : Nat) : Int) ∧ y = .int .i64 ((q * (2 * s) + 2 * s : Nat) : Int) ∧ q * (2 * s) ≤ m ∧ Hid (Only (· = b) w wr) ∧ Hid (PRow wr b z R) ∧ Hid (R.Perm P) ∧ Hid (SQ R (2 * s) q) ∧ Hid (SBfrom R s m (2 * q))

set_option maxHeartbeats 4000000 in
set_option maxRecDepth 100000 in
theorem ystab_any (b z m c : Nat) (P : List Prob) (w : World) (h : PRow w b z P) (hm : m = P.length) (hc : m ≤ 100000) :
    Calls Tryz.prog 75 #[.slice (some ⟨b, 0, none⟩) m c, .int .i64 m, .func (.func 39) #[] #[]] w fun e w' => e = .returned (.tuple #[]) ∧ Only (· = b) w w' ∧ ∃ R, PRow w' b z R ∧ R.Perm P ∧ SortedR R 0 m := by
  have HH := Lib.hid h
  have HM := Lib.hid hm
  have hmf := hmfP
  clear h hm
  go_enter Tryz.func75, Tryz.ntmps75
  go_wp2_with (fail)
  go_loopw [7, 8] (fun s t wr => StA w wr b z P m 20 s t) (fun s _ _ => m + 20 - (intOf s).toNat)
  case atStart => exact ⟨0, P, by go_num, by go_num, by omega, Only.refl _ _, HH.out, List.Perm.refl _, SQ.zero P 20⟩
  case round =>
    obtain ⟨q, R, rfl, rfl, hq, HO, HR, HP, HS⟩ := hrel
    have HL := Lib.hid (show m = R.length by rw [HP.out.length_eq]; exact HM.out)
    obtain ⟨X, hX⟩ : ∃ X, q * 20 = X := ⟨_, rfl⟩
    have HX := Lib.hid hX
    have HQ := Lib.hid (show (q + 1) * 20 = X + 20 by rw [Nat.succ_mul, hX])
    rw [hX] at hq ⊢
    clear hX
    by_cases hlt : X + 20 ≤ m
    · go_wp2_with (fail)
      refine (yins_any b z X (X + 20) m c R wr HR.out HL.out hc (by omega) hlt).mono ?_
      rintro e w2 ⟨rfl, ho, R', hr, hw, hs⟩
      have HO2 := Lib.hid (HO.out.trans ho)
      have HR2 := Lib.hid hr
      have HP2 := Lib.hid (hw.perm.trans HP.out)
      have HS2 := Lib.hid (HS.out.next (by rw [HX.out]; exact hw) (by rw [HX.out]; exact hs))
      clear ho hr hw hs
      go_wp2_with (fail)
      go_roundw
      case rel =>
        exact ⟨q + 1, R', by rw [HQ.out]; go_num, by rw [HQ.out]; go_num, by rw [HQ.out]; exact hlt, HO2.out, HR2.out, HP2.out, HS2.out⟩
      case measure => simp [intOf] <;> omega
    · go_wp2_with (fail)
      refine (yins_any b z X m m c R wr HR.out HL.out hc hq (Nat.le_refl _)).mono ?_
      rintro e w2 ⟨rfl, ho, R', hr, hw, hs⟩
      have HO2 := Lib.hid (HO.out.trans ho)
      have HR2 := Lib.hid hr
      have HP2 := Lib.hid (hw.perm.trans HP.out)
      have HS2 := Lib.hid (HS.out.done (n := m) (by rw [HX.out]; omega) (by rw [HX.out]; exact hw) (by rw [HX.out]; exact hs))
      clear ho hr hw hs HS HR HO HP HL HQ HX
      go_wp2_with (fail)
      go_loopw [6] (fun s wr => StB w wr b z P m s) (fun s _ => 4 * m + 100 - (intOf s).toNat)
      case atStart => exact ⟨20, R', rfl, by omega, by omega, HO2.out, HR2.out, HP2.out, HS2.out⟩
      case round =>
        obtain ⟨s, R, rfl, hs20, hsm, HO, HR, HP, HS⟩ := hrel
        by_cases hsn : s < m
        · go_wp2_with (fail)
          go_loopw [7, 8] (fun x y wr => StC w wr b z P m s x y) (fun x _ _ => m + 2 * s - (intOf x).toNat)
          case atStart => exact ⟨0, R, by go_num, by go_num, by omega, HO.out, HR.out, HP.out, SQ.zero R (2 * s), HS.out.from_⟩
          case round =>
            obtain ⟨q, R, rfl, rfl, hq, HO, HR, HP, HSQ, HSB⟩ := hrel
            have HL := Lib.hid (show m = R.length by rw [HP.out.length_eq]; exact HM.out)
            obtain ⟨X, hX⟩ : ∃ X, q * (2 * s) = X := ⟨_, rfl⟩
            have HX := Lib.hid hX
            have HN := Lib.hid (show (q + 1) * (2 * s) = X + 2 * s by rw [Nat.succ_mul, hX])
            have HD := Lib.hid (show 2 * (q + 1) * s = X + 2 * s by rw [dbl2, hX])
            rw [hX] at hq ⊢
            clear hX
            by_cases hlt : X + 2 * s ≤ m
            · have HS1 := Lib.hid (pair_lo HSB.out HX.out (by omega))
              have HS2 := Lib.hid (pair_hi HSB.out HX.out (Nat.le_refl (X + 2 * s)) hlt)
              have hlti : (X : Int) + 2 * (s : Int) ≤ (m : Int) := by omega
              go_wp2_with (fail)
              refine (ysym_any b z m c hc _ X (X + s) (X + 2 * s) R wr (Nat.le_refl _) HR.out HL.out (by omega) (by omega) hlt).mono ?_
              rintro e w3 ⟨rfl, ho, R', hr, hw, hso⟩
              have HO3 := Lib.hid (HO.out.trans ho)
              have HR3 := Lib.hid hr
              have HP3 := Lib.hid (hw.perm.trans HP.out)
              have HSQ3 := Lib.hid (HSQ.out.next (R := R') (by rw [HX.out]; exact hw) (by rw [HX.out]; exact hso HS1.out HS2.out))
              have HSB3 := Lib.hid (HSB.out.next (R := R') (2 * (q + 1)) (by omega) hw (by rw [HD.out]; exact Nat.le_refl _))
              clear ho hr hw hso
              go_wp2_with (fail)
              go_roundw
              case rel =>
                exact ⟨q + 1, R', by rw [HN.out]; go_num, by rw [HN.out]; go_num, by rw [HN.out]; exact hlt, HO3.out, HR3.out, HP3.out, HSQ3.out, HSB3.out⟩
              case measure => simp [intOf] <;> omega
            · have hlti : ¬ (X : Int) + 2 * (s : Int) ≤ (m : Int) := by omega
              by_cases h2 : X + s < m
              · have h2i : (X : Int) + (s : Int) < (m : Int) := by omega
                have HS1 := Lib.hid (pair_lo HSB.out HX.out (by omega))
                have HS2 := Lib.hid (pair_hi HSB.out HX.out (show m ≤ X + 2 * s by omega) (Nat.le_refl _))
                go_wp2_with (fail)
                refine (ysym_any b z m c hc _ X (X + s) m R wr (Nat.le_refl _) HR.out HL.out (by omega) h2 (Nat.le_refl _)).mono ?_
                rintro e w3 ⟨rfl, ho, R', hr, hw, hso⟩
                have HO3 := Lib.hid (HO.out.trans ho)
                have HR3 := Lib.hid hr
                have HP3 := Lib.hid (hw.perm.trans HP.out)
                have HS3 := Lib.hid (HSQ.out.done (R := R') (n := m) (by rw [HX.out]; omega) (by rw [HX.out]; exact hw) (by rw [HX.out]; exact hso HS1.out HS2.out))
                clear ho hr hw hso
                go_wp2_with (fail)
                go_roundw
                case rel => exact ⟨2 * s, R', by go_num, by omega, by omega, HO3.out, HR3.out, HP3.out, HS3.out⟩
                case measure => simp [intOf] <;> omega
              · have h2i : ¬ (X : Int) + (s : Int) < (m : Int) := by omega
                have HS3 := Lib.hid (HSQ.out.done (R := R) (n := m) (by rw [HX.out]; omega) (by rw [HX.out]; exact Within.refl _ _ _) (by rw [HX.out]; exact pair_one HSB.out HX.out (by omega)))
                go_wp2_with (fail)
                go_roundw
                case rel => exact ⟨2 * s, R, by go_num, by omega, by omega, HO.out, HR.out, HP.out, HS3.out⟩
                case measure => simp [intOf] <;> omega
        · go_wp2
          go_end0
          exact ⟨rfl, HO.out, R, HR.out, HP.out, HS.out.all (by omega)⟩
theorem sort_any : SortC 100000 := by
  intro base base2 A n c P w h hP
  have hn : n = P.length := h.len
  by_cases h1 : n ≤ 1
  · exact sort_one base base2 A n c P w h (by omega)
  · obtain ⟨b, z, rfl, hR, hnc, hback⟩ := h.prow (by omega)
    have HB := Lib.hid hback
    have HR := Lib.hid hR
    have HN := Lib.hid hn
    have hm : n ≤ 100000 := by omega
    have hmf := hmfP
    clear h hback hR hn
    go_enter Tryz.func38, Tryz.ntmps38
    go_wp2_with (fail)
    refine (ystab_any b z n c P w HR.out HN.out hm).mono ?_
    rintro e w' ⟨rfl, ho, R, hr, hp, hs⟩
    have HE : Hid (Only (fun k => (Value.slice (some ⟨b, 0, none⟩) n c).ownBlock = some k) w w' ∧ ∃ R : List Prob, R.Perm P ∧ Sorted R ∧ BRow w' base base2 (some ⟨b, 0, none⟩) n c R) := by
      refine ⟨⟨ho.os, ho.tape, ho.output, ho.size, fun k hk hk2 => ho.block k hk (fun e => hk2 (by rw [e]; rfl))⟩, R, hp, ?_, HB.out w' R hp.length_eq hr⟩
      rw [HN.out, ← hp.length_eq] at hs
      exact hs.all
    clear ho hr hp hs
    go_wp2_with (fail)
    go_end0
    exact ⟨rfl, HE.out⟩
end Go.Proofs.YtlgdmbdhffdenaaGreatDoor

/- Document by its contract, with the sort's contract met; plain laws about its problems. -/
namespace Go.Proofs.YtlgdmbdhffdenaaGreatDoor
set_option linter.unusedVariables false
set_option linter.unusedSimpArgs false
open Go.RowKit

theorem pdoc_len (T : List Tok) : ∀ f a, (pdoc T f a).2.length ≤ f
  | 0, a => Nat.le_refl _
  | f + 1, a => by
    rw [pdoc_succ]
    split
    · simp
    · split
      · exact Nat.le_succ_of_le (pdoc_len T f _)
      · simp only [List.length_cons]
        exact Nat.succ_le_succ (pdoc_len T f _)
theorem prob_cnt {l : List UInt8} (hl : l.length ≤ 30000) : ((lex l).2 ++ synP l).length ≤ 100000 := by
  have h1 := lex_plen l
  have h2 := pdoc_len (lex l).1 (lex l).1.length 0
  have h3 := (tok_ok hl).len
  rw [List.length_append]
  unfold synP
  rw [List.length_map]
  omega
theorem ydoc_all (A : Option Addr) (n c : Nat) (l : List UInt8) (w : World) (h : Rd w w.heap.size 1 A n c (l.map vb)) (hn : n ≤ 30000) (hG : Gb w.heap.size w) : Calls Tryz.prog 19 #[.slice A n c] w (DocPost l w) :=
  ydoc_any 100000 sort_any A n c l w h hn hG (prob_cnt (by have := h.blen; omega))
theorem doc_len {l : List UInt8} {R : List Prob} (hp : R.Perm ((lex l).2 ++ synP l)) : min R.length 64 = (docP l).length := by
  unfold docP
  rw [List.length_take, srt_len, hp.length_eq, Nat.min_comm]
set_option maxRecDepth 100000 in
theorem yshortD_any (A : Option Addr) (n c : Nat) (w : World) : Calls Tryz.prog 12 #[.slice A n c] w fun e w' => e = .returned (.bool (decide ((n : Int) ≤ 2000))) ∧ w' = w := by
  go_enter Tryz.func12, Tryz.ntmps12
  go_wp2
  go_ret
  exact ⟨rfl, rfl⟩
/-- A world that differs from w in new blocks alone: for a region that draws, with a call in it that lays blocks. -/
structure BelowBy (w : World) where
  w' : World
  h : Below w.heap.size w w'
instance (w : World) : Inhabited (BelowBy w) := ⟨⟨w, Below.refl _ _⟩⟩
theorem wp_region_below {P : Program} {id : Nat} {Q : Exit → Act → World → Prop} {a : Act} {w : World} {l : List Oper} (hm : P.follows .mixedOrders = true) (hB : Region.lexB .any l.toArray = true)
    (h : wpQuiet P l.toArray (fun w' => ∃ p : BelowBy w, w' = p.w') (fun a' => ∀ w', (∃ p : BelowBy w, w' = p.w') → Q .normal a' w') l a) : (Code.region id l.toArray true).wp P Q a w :=
  wp_region_quiet (C := fun w' => ∃ p : BelowBy w, w' = p.w') hm hB ⟨⟨{ w with drawn := w.drawn + 1 }, ⟨rfl, rfl, rfl, Nat.le_refl _, fun _ _ => rfl⟩⟩, rfl⟩ (by simpa using h)
theorem cell_by {w : World} {b i : Nat} {v : Value} (hb : b < w.heap.size) (h : w.cell? ⟨b, i, none⟩ = some v) (p : BelowBy w) : p.w'.cell? ⟨b, i, none⟩ = some v := (p.h.cell (p := ⟨b, i, none⟩) hb).trans h
theorem same_by (S S' : Nat → Prop) (x y : RT) (A A' C C' : Option Addr) (m c m' c' i j i' j' : Nat) (w : World) (h1 : RepT S w x.order A m c) (h2 : RepT S' w y.order A' m' c') (h3 : RepZ S w x.zones C i j) (h4 : RepZ S' w y.zones C' i' j') (p : BelowBy w) :
    Calls Tryz.prog 15 #[rulesV x A m c C i j, rulesV y A' m' c' C' i' j'] p.w' fun e w' => e = .returned (.bool (decide (x = y))) ∧ ∃ q : BelowBy w, w' = q.w' := by
  have ho : Only (fun _ => False) w p.w' := Only.of_below p.h
  refine (same_any S S' x y A A' C C' m c m' c' i j i' j' p.w' (h1.only ho (fun _ h => h.elim)) (h2.only ho (fun _ h => h.elim)) (h3.only ho (fun _ h => h.elim)) (h4.only ho (fun _ h => h.elim))).mono ?_
  rintro e w' ⟨rfl, hb⟩
  exact ⟨rfl, ⟨w', p.h.trans (hb.mono p.h.size)⟩, rfl⟩
/-- What lies strictly rising in a sorted list, is found in it in its order. -/
theorem sub_sorted : ∀ (R s : List Prob), Sorted R → s.Pairwise (fun x y => x.at_ < y.at_) → (∀ z ∈ s, z ∈ R) → s.Sublist R
  | R, [], _, _, _ => List.nil_sublist _
  | [], x :: s, _, _, h => absurd (h x (by simp)) (by simp)
  | y :: R, x :: s, hR, hs, h => by
    have hR' := List.pairwise_cons.1 hR
    have hs' := List.pairwise_cons.1 hs
    by_cases e : x = y
    · subst e
      refine (sub_sorted R s hR'.2 hs'.2 fun z hz => ?_).cons_cons x
      rcases List.mem_cons.1 (h z (by simp [hz])) with rfl | h1
      · have := hs'.1 _ hz
        omega
      · exact h1
    · refine List.Sublist.cons y (sub_sorted R (x :: s) hR'.2 hs fun z hz => ?_)
      have hx : x ∈ R := by
        rcases List.mem_cons.1 (h x (by simp)) with h1 | h1
        · exact absurd h1 e
        · exact h1
      rcases List.mem_cons.1 hz with rfl | hz'
      · exact hx
      · rcases List.mem_cons.1 (h z hz) with rfl | h1
        · have h2 := hs'.1 _ hz'
          have h3 := hR'.1 x hx
          omega
        · exact h1
/-- The law on problems, of every sorted list of them. -/
theorem law_probsR [DecidableEq Prob] {l : List UInt8} {R : List Prob} (hp : R.Perm ((lex l).2 ++ synP l)) (hs : Sorted R) : Sorted (R.take 64) ∧ (∀ p ∈ R.take 64, 0 ≤ p.at_ ∧ p.at_ ≤ l.length ∧ (p.code = 60 ∨ p.code = 130)) ∧
    (found (lex l).2 (R.take 64) = (lex l).2.length ∨ (R.take 64).length = 64) := by
  obtain ⟨T, P, e, h⟩ := lex_inv l
  refine ⟨hs.sublist (List.take_sublist _ _), ?_, ?_⟩
  · intro p hq
    have h1 := hp.mem_iff.1 (List.mem_of_mem_take hq)
    rcases List.mem_append.1 h1 with h2 | h2
    · rw [e] at h2
      obtain ⟨g1, g2, g3, _⟩ := h.prob p h2
      exact ⟨g2, by omega, .inl g1⟩
    · obtain ⟨x, hx, rfl⟩ := List.mem_map.1 h2
      obtain ⟨g1, g2⟩ := pdoc_at l _ _ x hx
      exact ⟨g1, g2, .inr rfl⟩
  · rcases Nat.lt_or_ge R.length 64 with h1 | h1
    · left
      rw [List.take_of_length_le (by omega)]
      apply found_sub
      refine sub_sorted R _ hs (by rw [e]; exact h.pinc) fun z hz => hp.mem_iff.2 (List.mem_append.2 (.inl hz))
    · right
      rw [List.length_take]
      omega
end Go.Proofs.YtlgdmbdhffdenaaGreatDoor

/- Plain laws: the problems of a document, sorted: there is one such list alone. A problem put in behind those of its offset. No program. -/
namespace Go.Proofs.YtlgdmbdhffdenaaGreatDoor
set_option linter.unusedVariables false
set_option linter.unusedSimpArgs false

theorem lex_posts (l : List UInt8) : (lex l).1.length = (lks l).length + 1 := len_lks l
/-- The offsets of a document's problems are tokens' offsets. -/
theorem pdoc_toks (l : List UInt8) : ∀ (f a : Nat), ∀ x ∈ (pdoc (lex l).1 f a).2, ∃ t ∈ (lex l).1, t.at_ = x
  | 0, a, x, h => by cases h
  | f + 1, a, x, h => by
    rw [pdoc_succ] at h
    split at h
    · cases h
    · next hk =>
      have ha := nx_kindN (lex l).1 (L := (lks l).length) (lex_end l) hk
      split at h
      · exact pdoc_toks l f _ x h
      · next n e =>
        rcases List.mem_cons.1 h with rfl | h
        · have hin := prules_inN (lex l).1 (L := (lks l).length) (lex_end l) a
          rw [e] at hin
          have h2 : n ≤ (lks l).length ∨ n = a := hin.2
          have hn : n < (lex l).1.length := by rw [lex_posts]; omega
          exact ⟨(lex l).1[n], List.getElem_mem hn, by simp [nx, hn]⟩
        · exact pdoc_toks l f _ x h
/-- Problems at one offset are equal. -/
theorem probs_apart {l : List UInt8} {p q : Prob} (hp : p ∈ (lex l).2 ++ synP l) (hq : q ∈ (lex l).2 ++ synP l) (h : p.at_ = q.at_) : p = q := by
  obtain ⟨T, P, e, hi⟩ := lex_inv l
  have cross : ∀ p ∈ (lex l).2, ∀ q ∈ synP l, p.at_ ≠ q.at_ := by
    intro p hp q hq e2
    obtain ⟨x, hx, rfl⟩ := List.mem_map.1 hq
    obtain ⟨t, ht, rfl⟩ := pdoc_toks l _ _ x hx
    rw [e] at ht hp
    rcases List.mem_append.1 ht with ht | ht
    · exact hi.dis t ht p hp e2.symm
    · obtain rfl := List.mem_singleton.1 ht
      have h1 := (hi.prob p hp).2.2.1
      have e3 : p.at_ = (l.length : Int) := e2
      omega
  have same : ∀ p ∈ (lex l).2, ∀ q ∈ (lex l).2, p.at_ = q.at_ → p = q := by
    intro p hp q hq e2
    rw [e] at hp hq
    obtain ⟨i, hi1, rfl⟩ := List.mem_iff_getElem.1 hp
    obtain ⟨j, hj1, rfl⟩ := List.mem_iff_getElem.1 hq
    have pw := List.pairwise_iff_getElem.1 hi.pinc
    have e3 : P[i].at_ = P[j].at_ := e2
    rcases Nat.lt_trichotomy i j with h1 | h1 | h1
    · have := pw i j hi1 hj1 h1; omega
    · subst h1; rfl
    · have := pw j i hj1 hi1 h1; omega
  rcases List.mem_append.1 hp with hp | hp <;> rcases List.mem_append.1 hq with hq | hq
  · exact same p hp q hq h
  · exact absurd h (cross p hp q hq)
  · exact absurd h.symm (cross q hq p hp)
  · obtain ⟨x, _, rfl⟩ := List.mem_map.1 hp
    obtain ⟨y, _, rfl⟩ := List.mem_map.1 hq
    have h' : x = y := h
    rw [h']
theorem perm_const {L M : List Prob} (hp : L.Perm M) (h : ∀ x ∈ M, ∀ y ∈ M, x = y) : L = M := by
  have hl := hp.length_eq
  cases M with
  | nil => exact hp.eq_nil
  | cons c M =>
    have h1 : ∀ x ∈ L, x = c := fun x hx => h x (hp.mem_iff.1 hx) c (by simp)
    have h2 : ∀ x ∈ c :: M, x = c := fun x hx => h x hx c (by simp)
    rw [List.eq_replicate_of_mem h1, List.eq_replicate_of_mem h2, hl]
/-- A sorted list of a document's problems is the sorted list. -/
theorem doc_sorted {l : List UInt8} {R : List Prob} (hp : R.Perm ((lex l).2 ++ synP l)) (hs : Sorted R) : R = srt ((lex l).2 ++ synP l) := by
  refine srt_unique hs fun k => perm_const (hp.filter _) fun x hx y hy => ?_
  have h1 := List.mem_filter.1 hx
  have h2 := List.mem_filter.1 hy
  refine probs_apart h1.1 h2.1 ?_
  have e1 : x.at_ = k := by simpa using h1.2
  have e2 : y.at_ = k := by simpa using h2.2
  rw [e1, e2]
/-- Where a problem is put in. -/
theorem insP_split (x : Prob) : ∀ (P : List Prob) (n : Nat), n ≤ P.length → (∀ y ∈ P.take n, y.at_ ≤ x.at_) → (∀ y ∈ P.drop n, x.at_ < y.at_) → insP x P = P.take n ++ x :: P.drop n
  | [], n, _, _, _ => by simp [insP]
  | y :: r, 0, _, _, h2 => by
    rw [insP, if_pos (h2 y (by simp))]
    rfl
  | y :: r, n + 1, hn, h1, h2 => by
    have hy : ¬ x.at_ < y.at_ := by have := h1 y (by simp); omega
    rw [insP, if_neg hy, insP_split x r n (by simpa using hn) (fun z hz => h1 z (by simp [hz])) (fun z hz => h2 z (by simpa using hz))]
    rfl
/-- .. behind which the greater ones stand. -/
theorem insP_at {x : Prob} {P : List Prob} {n : Nat} (hs : Sorted P) (hn : n ≤ P.length) (h1 : ∀ y, P[n - 1]? = some y → 0 < n → y.at_ ≤ x.at_) (h2 : ∀ y ∈ P.drop n, x.at_ < y.at_) : insP x P = P.take n ++ x :: P.drop n := by
  refine insP_split x P n hn (fun y hy => ?_) h2
  obtain ⟨i, hi, rfl⟩ := List.mem_iff_getElem.1 hy
  rw [List.length_take] at hi
  have hi' : i < n := by omega
  have hl : n - 1 < P.length := by omega
  have h3 := h1 P[n - 1] (List.getElem?_eq_getElem hl) (by omega)
  rw [List.getElem_take]
  rcases Nat.lt_or_ge i (n - 1) with h | h
  · have := List.pairwise_iff_getElem.1 hs i (n - 1) (by omega) hl h
    omega
  · obtain rfl : i = n - 1 := by omega
    exact h3
/-- The problems put in one by one. -/
theorem ins_all (l : List UInt8) : (synP l).foldl (fun acc x => insP x acc) (lex l).2 = srt ((lex l).2 ++ synP l) := by
  rw [srt_app, srt_done (lex_sorted l)]
end Go.Proofs.YtlgdmbdhffdenaaGreatDoor

/- The reference's with (a problem put in behind those of its offset) by its contract. -/
namespace Go.Proofs.YtlgdmbdhffdenaaGreatDoor
set_option linter.unusedVariables false
set_option linter.unusedSimpArgs false
open Go.RowKit

section
variable {P : Program} {ops : Array Oper} {rest : List Oper} {o : Oper} {a : Act} {w : World} {Q : Exit → Act → World → Prop}
/-- append of a slice onto a slice that is full: a new row. -/
theorem run_app_full {t e : TypeId} {size bytes : Nat} (E : Elem P t e size bytes) (ty : TypeId) (base : Nat) (b : Addr) (n : Nat) (xs : List Value) (hlo : xs.length = n * size) (holds : ∀ j v, xs[j]? = some v → w.cell? (b.add j) = some v)
    (ad : Addr) (m c : Nat) (news : List Value) (hm : 0 < m) (hl : news.length = m * size) (hnews : ∀ j u, news[j]? = some u → w.cell? (ad.add j) = some u) (h63 : n + m ≤ 1000001) (hbytes : (n + m) * bytes ≤ 140737488355328) (hbase : base ≤ w.heap.size) :
    ∃ A' c' w', (Builtin.append_ #[t, t] ty #[.slice (some b) n n, .slice (some ad) m c]).run P w = .ok (.slice A' (n + m) c') w' ∧ w'.ownsRow base e size (.slice A' (n + m) c') (n + m) (xs ++ news) ∧ Only (fun _ => False) w w' := by
  obtain ⟨i, z, hi, hz, rfl, rfl, hzs⟩ := E.info
  have hr := run_append_grow (P := P) w t ty e i z E.ht hi hz b n n xs hlo holds ad m c news hl hnews (by omega) (by omega) (growslice_fits (by omega) hbytes)
  have hge := grownCap_ge w (n + m) n e
  have hcm : grownCap w (n + m) n e ≤ maxLen := grownCap_le_maxLen w (n + m) n e (by unfold maxLen; omega)
  have hlen : (xs ++ news).length = (n + m) * i.size := by rw [List.length_append, hlo, hl, Nat.add_mul]
  refine ⟨_, _, _, hr, ⟨hlen, .inr ⟨w.heap.size, _, _, rfl, hbase, heap_alloc_new w.drew _, hge, hcm, ?_, ?_⟩⟩, ⟨rfl, rfl, rfl, by simp, fun k hk _ => heap_alloc_old w.drew _ hk⟩⟩
  · simp only [Array.size_append, List.size_toArray, size_zeroCells, hzs, hlo, hl]
    have : (n + m) * i.size = n * i.size + m * i.size := by rw [Nat.add_mul]
    rw [← this, ← Nat.add_mul]
    congr 1
    omega
  · simp only [Array.toList_append, List.append_assoc]
    rw [← List.append_assoc, ← hlen]
    exact List.take_left
theorem wpList_app_full {t e : TypeId} {size bytes : Nat} (E : Elem P t e size bytes) (hgd : o.guard = none) (s x : Operand)
    (ho : o.op = .call { callee := .builtin .append, args := #[s, x], argTypes := #[t, t] })
    (b : Addr) (n : Nat) (xs : List Value) (hs : a.eval s = .slice (some b) n n) (hlo : xs.length = n * size) (holds : ∀ j v, xs[j]? = some v → w.cell? (b.add j) = some v)
    (ad : Addr) (m c : Nat) (hx : a.eval x = .slice (some ad) m c) (news : List Value) (hm : 0 < m) (hl : news.length = m * size) (hnews : ∀ j u, news[j]? = some u → w.cell? (ad.add j) = some u) (h63 : n + m ≤ 1000001) (hbytes : (n + m) * bytes ≤ 140737488355328) (base : Nat) (hbase : base ≤ w.heap.size)
    (h : ∀ A' c' w', w'.ownsRow base e size (.slice A' (n + m) c') (n + m) (xs ++ news) → Only (fun _ => False) w w' → wpList P ops Q rest (a.put o.dst (.slice A' (n + m) c')) w') : wpList P ops Q (o :: rest) a w :=
  wpList_plain hgd fun _ hK => by
    obtain ⟨A', c', w', hr, h5, h6⟩ := run_app_full (P := P) (w := w) E o.type base b n xs hlo holds ad m c news hm hl hnews h63 hbytes hbase
    unfold Oper.wp execOp
    simp only [ho, resolve, invoke, builtin, Sem.run_bind, Sem.run_pure, Result.andThen_ok, List.map_toArray, List.map_cons, List.map_nil, hs, hx, hr]
    exact hK _ _ (h A' c' w' h5 h6)
theorem step_app_full {K : Act → World → Prop} {F : Prop} {t e : TypeId} {size bytes : Nat} (E : Elem P t e size bytes) (hgd : o.guard = none) (s x : Operand)
    (ho : o.op = .call { callee := .builtin .append, args := #[s, x], argTypes := #[t, t] })
    (b : Addr) (n : Nat) (xs : List Value) (hs : a.eval s = .slice (some b) n n) (hlo : xs.length = n * size) (holds : ∀ j v, xs[j]? = some v → w.cell? (b.add j) = some v)
    (ad : Addr) (m c : Nat) (hx : a.eval x = .slice (some ad) m c) (news : List Value) (hm : 0 < m) (hl : news.length = m * size) (hnews : ∀ j u, news[j]? = some u → w.cell? (ad.add j) = some u) (h63 : n + m ≤ 1000001) (hbytes : (n + m) * bytes ≤ 140737488355328) (base : Nat) (hbase : base ≤ w.heap.size)
    (h : ∀ A' c' w', w'.ownsRow base e size (.slice A' (n + m) c') (n + m) (xs ++ news) → Only (fun _ => False) w w' → K (a.put o.dst (.slice A' (n + m) c')) w') :
    if Region.wanted o (yielded ops a.tmps) = true then Oper.wp P o a w K Q else F := by
  have hw : Region.wanted o (yielded ops a.tmps) = true := by simp [Region.wanted, hgd]
  rw [if_pos hw]
  obtain ⟨A', c', w', hr, h5, h6⟩ := run_app_full (P := P) (w := w) E o.type base b n xs hlo holds ad m c news hm hl hnews h63 hbytes hbase
  unfold Oper.wp execOp
  simp only [ho, resolve, invoke, builtin, Sem.run_bind, Sem.run_pure, Result.andThen_ok, List.map_toArray, List.map_cons, List.map_nil, hs, hx, hr]
  exact h A' c' w' h5 h6
end
theorem Rd.lo2 {w : World} {B n c k : Nat} {A : Option Addr} {P : List Prob} (h : Rd w B 2 A n c (P.flatMap probCells)) (hk : k < n) : Rd w B 2 A k c ((P.take k).flatMap probCells) := by
  have hl := h.plen
  refine ⟨by rw [flatMap_len probCells 2 prob_len, List.length_take]; omega, by have := h.cap; omega, h.big, fun h0 => ?_⟩
  obtain ⟨b, off, e, hb, hc⟩ := h.cells (by omega)
  refine ⟨b, off, e, hb, fun j u hj => hc j u ?_⟩
  have e2 : P.flatMap probCells = (P.take k).flatMap probCells ++ (P.drop k).flatMap probCells := by rw [← List.flatMap_append, List.take_append_drop]
  rw [e2]
  rw [List.getElem?_append_left]
  · exact hj
  · rcases Nat.lt_or_ge j ((P.take k).flatMap probCells).length with h3 | h3
    · exact h3
    · rw [List.getElem?_eq_none h3] at hj; cases hj
theorem Rd.hi2 {w : World} {B n c k : Nat} {b : Nat} {P : List Prob} (h : Rd w B 2 (some ⟨b, 0, none⟩) n c (P.flatMap probCells)) (hk : k < n) : Rd w B 2 (some ⟨b, k * 2, none⟩) (n - k) (c - k) ((P.drop k).flatMap probCells) := by
  have hl := h.plen
  refine ⟨by rw [flatMap_len probCells 2 prob_len, List.length_drop]; omega, by have := h.cap; omega, by have := h.big; omega, fun h0 => ?_⟩
  obtain ⟨b', off, e, hb, hc⟩ := h.cells (by omega)
  injection e with e
  injection e with e1 e2
  subst e1; subst e2
  refine ⟨b, k * 2, rfl, hb, fun j u hj => ?_⟩
  have := hc (k * 2 + j) u (by
    have e2 : P.flatMap probCells = (P.take k).flatMap probCells ++ (P.drop k).flatMap probCells := by rw [← List.flatMap_append, List.take_append_drop]
    have e3 : ((P.take k).flatMap probCells).length = k * 2 := by rw [flatMap_len probCells 2 prob_len, List.length_take]; omega
    rw [e2, List.getElem?_append_right (by omega), e3, Nat.add_sub_cancel_left]
    exact hj)
  simpa [Nat.zero_add] using this
theorem rd_tail {w : World} {B n c k : Nat} {b : Nat} {A : Option Addr} {P : List Prob} (h : Rd w B 2 (some ⟨b, 0, none⟩) n c (P.flatMap probCells)) (hk : n ≤ k) : Rd w B 2 A (n - k) (c - k) ((P.drop k).flatMap probCells) := by
  have hl := h.plen
  refine ⟨by rw [flatMap_len probCells 2 prob_len, List.length_drop]; omega, by have := h.cap; omega, by have := h.big; omega, fun h0 => by omega⟩
theorem addr_add (b o j : Nat) : (⟨b, o, none⟩ : Addr).add j = ⟨b, o + j, none⟩ := by unfold Addr.add; split <;> simp_all
theorem lo_cells {w : World} {B n c k b : Nat} {P : List Prob} (h : Rd w B 2 (some ⟨b, 0, none⟩) n c (P.flatMap probCells)) (hk : k ≤ n) : ∀ j v, ((P.take k).flatMap probCells)[j]? = some v → w.cell? ((⟨b, 0, none⟩ : Addr).add j) = some v := by
  intro j v hj
  have hadd : (⟨b, 0, none⟩ : Addr).add j = ⟨b, 0 + j, none⟩ := by unfold Addr.add; split <;> simp_all
  have h3 : j < ((P.take k).flatMap probCells).length := by
    rcases Nat.lt_or_ge j ((P.take k).flatMap probCells).length with h3 | h3
    · exact h3
    · rw [List.getElem?_eq_none h3] at hj; cases hj
  have h4 := h3
  rw [flatMap_len probCells 2 prob_len, List.length_take] at h4
  obtain ⟨b', off, e, _, hc⟩ := h.cells (by omega)
  injection e with e
  injection e with e1 e2
  subst e1; subst e2
  rw [hadd]
  apply hc
  have e2 : P.flatMap probCells = (P.take k).flatMap probCells ++ (P.drop k).flatMap probCells := by rw [← List.flatMap_append, List.take_append_drop]
  rw [e2, List.getElem?_append_left h3]
  exact hj
theorem prob_one (P : List Prob) : ∀ u ∈ P.flatMap probCells, u.oneCell' = true := by
  intro u hu
  obtain ⟨p, _, hp⟩ := List.mem_flatMap.1 hu
  simp [probCells] at hp
  rcases hp with rfl | rfl <;> rfl
set_option maxHeartbeats 1000000 in
set_option maxRecDepth 100000 in
theorem zwith_any (b m c : Nat) (P : List Prob) (x : Prob) (w : World) (B0 : Nat) (h : w.ownsRow B0 49 2 (.slice (some ⟨b, 0, none⟩) m c) m (P.flatMap probCells)) (hs : Sorted P) (hm : m ≤ 200000) :
    Calls Tryz.prog 42 #[.slice (some ⟨b, 0, none⟩) m c, .agg #[.int .i64 x.at_, .int .i64 x.code]] w fun e w' => ∃ A' c', e = .returned (.slice A' (m + 1) c') ∧ Below w.heap.size w w' ∧
      w'.ownsRow w.heap.size 49 2 (.slice A' (m + 1) c') (m + 1) ((insP x P).flatMap probCells) := by
  have hR := own_rd h
  have hml := hR.plen
  have hcap := hR.cap
  have hbig := hR.big
  have HR := Lib.hid hR
  have HML := Lib.hid hml
  have HS := Lib.hid hs
  clear hR h hml hs
  have hb0 : Below w.heap.size w (w.alloc (.cells #[.int .i64 x.at_, .int .i64 x.code] 49)) := (Below.refl _ _).alloc (Nat.le_refl _) _
  have hx0 := Blk.new w 49 #[.int .i64 x.at_, .int .i64 x.code]
  have HB0 := Lib.hid hb0
  have HX0 := Lib.hid hx0
  clear hb0 hx0
  go_enter Tryz.func42, Tryz.ntmps42
  go_wp2_with (fail)
  go_loopw [5] (fun sv wr => ∃ (k : Nat), k ≤ m ∧ sv = .int .i64 k ∧ Hid (Below w.heap.size w wr) ∧ Hid (Blk wr w.heap.size 49 #[.int .i64 x.at_, .int .i64 x.code]) ∧ Hid (∀ y ∈ P.drop k, x.at_ < y.at_)) (fun sv _ => (intOf sv).toNat)
  case atStart => exact ⟨m, Nat.le_refl _, rfl, HB0.out, HX0.out, fun y hy => by rw [List.drop_eq_nil_of_le (by have := HML.out; omega)] at hy; cases hy⟩
  case round =>
    obtain ⟨k, hk, rfl, HB, HX, HD⟩ := hrel
    clear HB0 HX0
    have x0 : wr.cell? ⟨w.heap.size, 0, none⟩ = some (.int .i64 x.at_) := HX.out.cell 0
    have lx := HX.out.lt
    by_cases h0 : k = 0
    · subst h0
      have HI := Lib.hid (insP_split x P 0 (Nat.zero_le _) (fun y hy => by cases hy) HD.out)
      go_wp2_with (fail)
      go_quiet (fail)
      go_wp2_with (fail)
      first | (refine calls_named ?_; intro V hV) | (refine body_named ?_; intro V hV) | (refine wpList_named ?_; intro V hV) | (refine wp_named ?_; intro V hV)
      have HBV := Lib.hid (show Below w.heap.size w V by rw [← hV]; exact HB.out.trans (bdrew _ _))
      have hxv : Blk V w.heap.size 49 #[.int .i64 x.at_, .int .i64 x.code] := by rw [← hV]; exact HX.out.drewN _
      clear hV x0 lx
      have x0 : V.cell? ⟨w.heap.size, 0, none⟩ = some (.int .i64 x.at_) := hxv.cell 0
      have x1 : V.cell? ⟨w.heap.size, 1, none⟩ = some (.int .i64 x.code) := hxv.cell 1
      have lx := hxv.lt
      clear hxv
      go_wp2
      go_region_law (refine step_app elemProb rfl (.tmp 25) (.tmp 28) rfl w.heap.size (some ⟨V.heap.size, 0, none⟩) 1 1 (probCells x) (by simp [Act.eval, Act.put]) (own_of_blk (m := 1) (Blk.new _ _ _) rfl HBV.out.size (by decide)) w.heap.size (some ⟨b, 0, none⟩) (m) (c) (by simp [Act.eval, Act.put]) _ (((HR.out.below HBV.out).below (by go_grown; try exact Below.refl _ _))) (prob_one _) (by omega) (by omega) (by have := HBV.out.size; simp; omega) ?_; intro A6 c6 w6 hown6 hbl6 hg6)
      have hown7 := own_rd hown6
      have hb7 := Lib.hid ((HBV.out.trans (Below.mono (by go_grown; try exact Below.refl _ _) HBV.out.size)).trans hbl6)
      have hR7 := Lib.hid (HR.out.below hb7.out)
      obtain ⟨b6, o6, eA, hb6, hc6⟩ := hown7.cells (by omega)
      subst eA
      have H7 := Lib.hid hown7
      have HC6 := Lib.hid hc6
      have hcap6 := hown7.cap
      have hbig6 := hown7.big
      have hsz7 := hb7.out.size
      clear hown6 hbl6 hg6 hown7 hc6
      go_wp2_with (at_builtin; refine Hid.out ?_)
      refine Lib.hid ?_
      have hml := HML.out
      refine wpList_app_full elemProb rfl (.tmp 33) (.tmp 34) rfl ⟨b, 0, none⟩ (0) ((P.take (0)).flatMap probCells) rfl (by rw [flatMap_len probCells 2 prob_len, List.length_take]; omega) (lo_cells hR7.out (by omega)) ⟨b6, o6, none⟩ (1 + m) c6 rfl (probCells x ++ (P).flatMap probCells) (by omega) H7.out.len (fun j u hj => by rw [addr_add]; exact HC6.out j u hj) (by omega) (by omega) w.heap.size hsz7 ?_
      intro A8 c8 w8 hown8 ho8
      have hb8 := Lib.hid (ho8.below hb7.out hsz7 (fun k hk => hk.elim))
      have hcnt : (0) + (1 + m) = m + 1 := by omega
      have hxs : (P.take (0)).flatMap probCells ++ (probCells x ++ (P).flatMap probCells) = (insP x P).flatMap probCells := by rw [HI.out]; simp
      rw [hcnt, hxs] at hown8
      have H8 := Lib.hid hown8
      clear hown8 ho8 hxs hml
      go_wp2_with (fail)
      go_ret
      exact ⟨A8, c8, by first | rfl | rw [hcnt], hb8.out, H8.out⟩
    · obtain ⟨k, rfl⟩ : ∃ j, k = j + 1 := ⟨k - 1, by omega⟩
      obtain ⟨b', off, t, hA, hb, ht, y0', _⟩ := HR.out.prob (k := k) (by omega)
      injection hA with hA
      injection hA with hA1 hA2
      subst hA1; subst hA2
      have y0 := (HB.out.cell (p := ⟨b, 0 + k * 2, none⟩) hb).trans y0'
      rw [Nat.zero_add] at y0
      clear y0'
      by_cases hgt : x.at_ < t.at_
      · go_wp2_with (fail)
        go_quiet (fail)
        go_wp2_with (fail)
        go_roundw
        case rel => exact ⟨k, by omega, by go_num, HB.out.trans (bdrew _ _), HX.out.drewN _, fun y hy => by
          obtain ⟨h1, h2⟩ := List.getElem?_eq_some_iff.1 ht
          rw [List.drop_eq_getElem_cons h1, h2] at hy
          rcases List.mem_cons.1 hy with rfl | hy
          · exact hgt
          · exact HD.out y hy⟩
        case measure => simp [intOf] <;> omega
      · have HI := Lib.hid (insP_at (n := k + 1) HS.out (by have := HML.out; omega) (fun y hy _ => by rw [Nat.add_sub_cancel, ht] at hy; injection hy with hy; subst hy; omega) HD.out)
        go_wp2_with (fail)
        go_quiet (fail)
        go_wp2_with (fail)
        first | (refine calls_named ?_; intro V hV) | (refine body_named ?_; intro V hV) | (refine wpList_named ?_; intro V hV) | (refine wp_named ?_; intro V hV)
        have HBV := Lib.hid (show Below w.heap.size w V by rw [← hV]; exact HB.out.trans (bdrew _ _))
        have hxv : Blk V w.heap.size 49 #[.int .i64 x.at_, .int .i64 x.code] := by rw [← hV]; exact HX.out.drewN _
        clear hV x0 lx
        have x0 : V.cell? ⟨w.heap.size, 0, none⟩ = some (.int .i64 x.at_) := hxv.cell 0
        have x1 : V.cell? ⟨w.heap.size, 1, none⟩ = some (.int .i64 x.code) := hxv.cell 1
        have lx := hxv.lt
        clear hxv
        have hmk : k + 1 ≤ m := by omega
        obtain ⟨j, hjk⟩ : ∃ j, j = k + 1 := ⟨_, rfl⟩
        have ejk : ((k : Int) + 1) = (j : Int) := by omega
        rw [ejk]
        have HI2 := Lib.hid (show insP x P = P.take j ++ x :: P.drop j by rw [hjk]; exact HI.out)
        rw [← hjk] at hmk
        clear HI y0 ejk hjk
        have htq : ∃ (A' : Option Addr), (A' = some ⟨b, 0, none⟩ ∧ c = j) ∨ (A' = some ⟨b, j * 2, none⟩ ∧ c ≠ j) := by
          by_cases h : c = j
          · exact ⟨_, .inl ⟨rfl, h⟩⟩
          · exact ⟨_, .inr ⟨rfl, h⟩⟩
        obtain ⟨A', htq⟩ := htq
        have HTL := Lib.hid (show Rd V w.heap.size 2 A' (m - (j)) (c - (j)) ((P.drop (j)).flatMap probCells) from by
          have h9 := HR.out.below HBV.out
          rcases htq with ⟨rfl, h1⟩ | ⟨rfl, h1⟩
          · exact rd_tail h9 (by omega)
          · rcases Nat.lt_or_ge (j) m with h2 | h2
            · exact Rd.hi2 h9 h2
            · exact rd_tail h9 h2)
        rcases htq with ⟨rfl, hca⟩ | ⟨rfl, hca⟩
        all_goals
          go_wp2
          go_region_law (first
            | (refine step_app elemProb rfl (.tmp 25) (.tmp 28) rfl w.heap.size (some ⟨V.heap.size, 0, none⟩) 1 1 (probCells x) (by simp [Act.eval, Act.put]) (own_of_blk (m := 1) (Blk.new _ _ _) rfl HBV.out.size (by decide)) w.heap.size (some ⟨b, 0, none⟩) (m - (j)) (c - (j)) (by simp [Act.eval, Act.put, hca]) _ ((HTL.out.below (by go_grown; try exact Below.refl _ _))) (prob_one _) (by omega) (by omega) (by have := HBV.out.size; simp; omega) ?_; intro A6 c6 w6 hown6 hbl6 hg6)
            | (refine step_app elemProb rfl (.tmp 25) (.tmp 28) rfl w.heap.size (some ⟨V.heap.size, 0, none⟩) 1 1 (probCells x) (by simp [Act.eval, Act.put]) (own_of_blk (m := 1) (Blk.new _ _ _) rfl HBV.out.size (by decide)) w.heap.size (some ⟨b, j * 2, none⟩) (m - (j)) (c - (j)) (by simp [Act.eval, Act.put, hca]) _ ((HTL.out.below (by go_grown; try exact Below.refl _ _))) (prob_one _) (by omega) (by omega) (by have := HBV.out.size; simp; omega) ?_; intro A6 c6 w6 hown6 hbl6 hg6))
          have hown7 := own_rd hown6
          have hb7 := Lib.hid ((HBV.out.trans (Below.mono (by go_grown; try exact Below.refl _ _) HBV.out.size)).trans hbl6)
          have hR7 := Lib.hid (HR.out.below hb7.out)
          obtain ⟨b6, o6, eA, hb6, hc6⟩ := hown7.cells (by omega)
          subst eA
          have H7 := Lib.hid hown7
          have HC6 := Lib.hid hc6
          have hcap6 := hown7.cap
          have hbig6 := hown7.big
          have hsz7 := hb7.out.size
          clear hown6 hbl6 hg6 hown7 hc6
          go_wp2_with (at_builtin; refine Hid.out ?_)
          refine Lib.hid ?_
          have hml := HML.out
          refine wpList_app_full elemProb rfl (.tmp 33) (.tmp 34) rfl ⟨b, 0, none⟩ (j) ((P.take (j)).flatMap probCells) rfl (by rw [flatMap_len probCells 2 prob_len, List.length_take]; omega) (lo_cells hR7.out (by omega)) ⟨b6, o6, none⟩ (1 + (m - (j))) c6 rfl (probCells x ++ (P.drop (j)).flatMap probCells) (by omega) H7.out.len (fun j u hj => by rw [addr_add]; exact HC6.out j u hj) (by omega) (by omega) w.heap.size hsz7 ?_
          intro A8 c8 w8 hown8 ho8
          have hb8 := Lib.hid (ho8.below hb7.out hsz7 (fun k hk => hk.elim))
          have hcnt : (j) + (1 + (m - (j))) = m + 1 := by omega
          have hxs : (P.take (j)).flatMap probCells ++ (probCells x ++ (P.drop (j)).flatMap probCells) = (insP x P).flatMap probCells := by rw [HI2.out]; simp
          rw [hcnt, hxs] at hown8
          have H8 := Lib.hid hown8
          clear hown8 ho8 hxs hml
          go_wp2_with (fail)
          go_ret
          exact ⟨A8, c8, by first | rfl | rw [hcnt], hb8.out, H8.out⟩
set_option maxHeartbeats 1000000 in
set_option maxRecDepth 100000 in
theorem zwith_nil (x : Prob) (w : World) :
    Calls Tryz.prog 42 #[.slice none 0 0, .agg #[.int .i64 x.at_, .int .i64 x.code]] w fun e w' => ∃ A' c', e = .returned (.slice A' 1 c') ∧ Below w.heap.size w w' ∧
      w'.ownsRow w.heap.size 49 2 (.slice A' 1 c') 1 (probCells x) := by
  have hb0 : Below w.heap.size w (w.alloc (.cells #[.int .i64 x.at_, .int .i64 x.code] 49)) := (Below.refl _ _).alloc (Nat.le_refl _) _
  have hx0 := Blk.new w 49 #[.int .i64 x.at_, .int .i64 x.code]
  have HB0 := Lib.hid hb0
  have HX0 := Lib.hid hx0
  clear hb0 hx0
  go_enter Tryz.func42, Tryz.ntmps42
  go_wp2_with (fail)
  go_loopw [5] (fun sv wr => sv = .int .i64 0 ∧ Hid (Below w.heap.size w wr) ∧ Hid (Blk wr w.heap.size 49 #[.int .i64 x.at_, .int .i64 x.code])) (fun sv _ => (intOf sv).toNat)
  case atStart => exact ⟨rfl, HB0.out, HX0.out⟩
  case round =>
    obtain ⟨rfl, HB, HX⟩ := hrel
    clear HB0 HX0
    have x0 : wr.cell? ⟨w.heap.size, 0, none⟩ = some (.int .i64 x.at_) := HX.out.cell 0
    have lx := HX.out.lt
    go_wp2_with (fail)
    go_quiet (fail)
    go_wp2_with (fail)
    first | (refine calls_named ?_; intro V hV) | (refine body_named ?_; intro V hV) | (refine wpList_named ?_; intro V hV) | (refine wp_named ?_; intro V hV)
    have HBV := Lib.hid (show Below w.heap.size w V by rw [← hV]; exact HB.out.trans (bdrew _ _))
    have hxv : Blk V w.heap.size 49 #[.int .i64 x.at_, .int .i64 x.code] := by rw [← hV]; exact HX.out.drewN _
    clear hV x0 lx
    have x0 : V.cell? ⟨w.heap.size, 0, none⟩ = some (.int .i64 x.at_) := hxv.cell 0
    have x1 : V.cell? ⟨w.heap.size, 1, none⟩ = some (.int .i64 x.code) := hxv.cell 1
    have lx := hxv.lt
    clear hxv
    go_wp2
    go_region_law (refine step_app elemProb rfl (.tmp 25) (.tmp 28) rfl w.heap.size (some ⟨V.heap.size, 0, none⟩) 1 1 (probCells x) (by simp [Act.eval, Act.put]) (own_of_blk (m := 1) (Blk.new _ _ _) rfl HBV.out.size (by decide)) w.heap.size none 0 0 (by simp [Act.eval, Act.put]) [] Rd.nil (by simp) (by omega) (by omega) (by have := HBV.out.size; simp; omega) ?_; intro A6 c6 w6 hown6 hbl6 hg6)
    have hb7 := Lib.hid ((HBV.out.trans (Below.mono (by go_grown; try exact Below.refl _ _) HBV.out.size)).trans hbl6)
    rw [List.append_nil] at hown6
    have H7 := Lib.hid (own_rd hown6)
    have hsz7 := hb7.out.size
    clear hown6 hbl6 hg6
    go_wp2_with (at_builtin; refine Hid.out ?_)
    refine Lib.hid ?_
    refine wpList_app elemProb rfl (.tmp 33) (.tmp 34) rfl w.heap.size none 0 0 [] rfl (World.ownsRow_nil _ _ _ _) w6.heap.size A6 1 c6 rfl (probCells x) H7.out (by intro u hu; simp [probCells] at hu; rcases hu with rfl | rfl <;> rfl) (by omega) (by omega) hsz7 ?_
    intro A8 c8 w8 hown8 hb8 hg8
    have hb9 := Lib.hid (hb7.out.trans hb8)
    have H8 := Lib.hid hown8
    clear hown8 hb8 hg8
    go_wp2_with (fail)
    go_ret
    exact ⟨A8, c8, rfl, hb9.out, H8.out⟩
theorem zwith_all (A : Option Addr) (m c B0 : Nat) (P : List Prob) (x : Prob) (w : World) (h : w.ownsRow B0 49 2 (.slice A m c) m (P.flatMap probCells)) (hs : Sorted P) (hm : m ≤ 200000) :
    Calls Tryz.prog 42 #[.slice A m c, .agg #[.int .i64 x.at_, .int .i64 x.code]] w fun e w' => ∃ A' c', e = .returned (.slice A' (m + 1) c') ∧ Below w.heap.size w w' ∧
      w'.ownsRow w.heap.size 49 2 (.slice A' (m + 1) c') (m + 1) ((insP x P).flatMap probCells) := by
  rcases h.2 with ⟨e, h0⟩ | ⟨g, cap, cur, e, _⟩
  · injection e with e1 e2 e3
    subst e1; subst h0; subst e3
    have hP : P = [] := by
      have h1 := h.1
      rw [flatMap_len probCells 2 prob_len] at h1
      exact List.eq_nil_of_length_eq_zero (by omega)
    subst hP
    refine (zwith_nil x w).mono ?_
    rintro e w' ⟨A', c', e1, h2, h3⟩
    exact ⟨A', c', e1, h2, by simpa [insP] using h3⟩
  · injection e with e1 e2 e3
    subst e1; subst e3
    exact zwith_any g m c P x w B0 h hs hm
end Go.Proofs.YtlgdmbdhffdenaaGreatDoor

/- The reference's Document by its contract. -/
namespace Go.Proofs.YtlgdmbdhffdenaaGreatDoor
set_option linter.unusedVariables false
set_option linter.unusedSimpArgs false
open Go.RowKit

theorem own_base {w : World} {B B' : Nat} {e : TypeId} {size n : Nat} {v : Value} {xs : List Value} (h : w.ownsRow B' e size v n xs) (hB : B ≤ B') : w.ownsRow B e size v n xs := by
  refine ⟨h.1, ?_⟩
  rcases h.2 with h2 | ⟨g, cap, cur, e, hb, r⟩
  · exact .inl h2
  · exact .inr ⟨g, cap, cur, e, Nat.le_trans hB hb, r⟩
theorem own_apart {w : World} {B B' n m : Nat} {v v' : Value} {xs ys : List Value} {k : Nat} (h : w.ownsRow B 28 6 v n xs) (h' : w.ownsRow B' 49 2 v' m ys) (h1 : v.ownBlock = some k) (h2 : v'.ownBlock = some k) : False := by
  rcases h.2 with ⟨rfl, _⟩ | ⟨g', cap, cur, rfl, hg, hgg, rest⟩
  · simp [Value.ownBlock] at h1
  · have : g' = k := by simpa [Value.ownBlock] using h1
    subst this
    exact own_ne h' hgg (by decide) g' h2 rfl
/-- The state between two rounds: the parser at block g, rules and problems in rows. -/
structure ESt (w0 wr : World) (g : Nat) (A : Option Addr) (n c : Nat) (T : List Tok) (b : Nat) (l : List RT) (AL : Option Addr) (cL : Nat) (P : List Prob) (AP : Option Addr) (cP : Nat) : Prop where
  st : QSt wr g g A n c T (.ok () b)
  bel : Below w0.heap.size w0 wr
  hg : w0.heap.size ≤ g
  row : ∃ xs, wr.ownsRow g 28 6 (.slice AL l.length cL) l.length xs ∧ RepL (fun k => k ≤ g ∨ (Value.slice AL l.length cL).ownBlock = some k) wr l xs
  bad : wr.ownsRow w0.heap.size 49 2 (.slice AP P.length cP) P.length (P.flatMap probCells)
section
variable {w0 wr W w1 : World} {g n c b b' cL cP : Nat} {A AL AP : Option Addr} {T : List Tok} {l : List RT} {P : List Prob}
theorem ESt.gne (h : ESt w0 wr g A n c T b l AL cL P AP cP) : (∀ k, (Value.slice AL l.length cL).ownBlock = some k → g ≤ k ∧ k ≠ g ∧ k < wr.heap.size) ∧ ∀ k, (Value.slice AP P.length cP).ownBlock = some k → w0.heap.size ≤ k ∧ k ≠ g ∧ k < wr.heap.size := by
  obtain ⟨xs, h1, _⟩ := h.row
  exact ⟨fun k hk => ⟨(h1.lt k hk).1, own_ne h1 h.st.blk (by decide) k hk, (h1.lt k hk).2⟩, fun k hk => ⟨(h.bad.lt k hk).1, own_ne h.bad h.st.blk (by decide) k hk, (h.bad.lt k hk).2⟩⟩
theorem ESt.go (h : ESt w0 wr g A n c T b l AL cL P AP cP) (hp : QSt W g g A n c T (.ok () b')) (ho : Only (· = g) wr W) : ESt w0 W g A n c T b' l AL cL P AP cP := by
  obtain ⟨xs, h1, h2⟩ := h.row
  have hg := h.hg
  have hgn := h.gne
  exact ⟨hp, ho.below h.bel h.bel.size (fun k hk => by rw [hk]; exact hg), hg, ⟨xs, own_only h1 ho (fun k hk => (hgn.1 k hk).2.1), h2.only ho (fun k hk => .inl (by rw [hk]; exact Nat.le_refl _))⟩, own_only h.bad ho (fun k hk => (hgn.2 k hk).2.1)⟩
theorem ESt.below (h : ESt w0 wr g A n c T b l AL cL P AP cP) (hb : Below wr.heap.size wr W) : ESt w0 W g A n c T b l AL cL P AP cP := h.go (h.st.below hb) (Only.of_below hb)
theorem ESt.pushL (h : ESt w0 W g A n c T b l AL cL P AP cP) {xs news : List Value} {r : RT} {A2 : Option Addr} {m cc : Nat} (hm : m = l.length + 1) (h1 : W.ownsRow g 28 6 (.slice AL l.length cL) l.length xs)
    (h2 : RepL (fun k => k ≤ g ∨ (Value.slice AL l.length cL).ownBlock = some k) W l xs) (hn : RepL (fun k => k ≤ g ∨ (Value.slice AL l.length cL).ownBlock = some k) W [r] news)
    (hgr : W.grownBy w1 (Value.slice AL l.length cL).ownBlock) (hown : w1.ownsRow g 28 6 (.slice A2 m cc) m (xs ++ news))
    (hap : ∀ k, (Value.slice A2 m cc).ownBlock = some k → (Value.slice AL l.length cL).ownBlock = some k ∨ W.heap.size ≤ k) : ESt w0 w1 g A n c T b (l ++ [r]) A2 cc P AP cP := by
  have ho : Only (fun k => (Value.slice AL l.length cL).ownBlock = some k) W w1 := Only.of_grown hgr (fun k hk => hk)
  have hgn := h.gne
  have hg := h.hg
  subst hm
  refine ⟨h.st.only ho (fun e => (hgn.1 _ e).2.1 rfl) (fun k hk => (hgn.1 k hk).1), ho.below h.bel h.bel.size (fun k hk => Nat.le_trans hg (hgn.1 k hk).1), hg, ⟨xs ++ news, ?_, ?_⟩, own_only h.bad ho (fun k hk hS => own_apart h1 h.bad hS hk)⟩
  · rw [List.length_append]; exact hown
  · rw [List.length_append]
    have hr2 := ((RepL.app h2 hn).new).only ho (fun k hk => .inl (.inr hk))
    refine hr2.sub fun k hk => ?_
    rcases hk with hk | hk
    · exact .inl (.inl hk)
    · rcases hap k hk with e | e
      · exact .inl (.inr e)
      · exact .inr e
theorem ESt.setP (h : ESt w0 wr g A n c T b l AL cL P AP cP) {P' : List Prob} {A2 : Option Addr} {m cc : Nat} (hb : Below wr.heap.size wr W) (hm : m = P'.length) (ho : W.ownsRow wr.heap.size 49 2 (.slice A2 m cc) m (P'.flatMap probCells)) : ESt w0 W g A n c T b l AL cL P' A2 cc := by
  have h1 := h.below hb
  subst hm
  exact ⟨h1.st, h1.bel, h1.hg, h1.row, own_base ho h.bel.size⟩
end
theorem QSt.start {w : World} {B g n c : Nat} {A : Option Addr} {T : List Tok} {s : Res Unit} (h : QSt w B g A n c T s) : QSt (w.setCell ⟨g, 2, none⟩ (.bool false)) B g A n c T (.ok () (posA s)) := by
  have ho : Only (· = g) w (w.setCell ⟨g, 2, none⟩ (.bool false)) := Only.set (S := (· = g)) w (p := ⟨g, 2, none⟩) rfl _
  exact ⟨h.blk.set 2 (.bool false), h.src.only ho (Nat.le_trans h.lb (Nat.le_of_lt h.lt)) (fun k hk hS => by have := h.lb; omega), h.lb⟩
/-- What the reference's Document hands back. -/
def ZDocPost (l : List UInt8) (w : World) (e : Ending) (w' : World) : Prop := ∃ (A : Option Addr) (m c : Nat) (A' : Option Addr) (n' c' : Nat) (xs : List Value),
  e = .returned (.tuple #[.slice A m c, .slice A' n' c', .int .i64 0]) ∧ m = (docR l).length ∧ Rd w' w'.heap.size 6 A m c xs ∧ RepL (fun k => k < w.heap.size) w' (docR l) xs ∧
  n' = (docP l).length ∧ Rd w' w'.heap.size 2 A' n' c' ((docP l).flatMap probCells) ∧ Below w.heap.size w w'
abbrev insAll (P : List Prob) (l : List Int) : List Prob := (l.map fun a => (⟨a, 130⟩ : Prob)).foldl (fun acc x => insP x acc) P
set_option maxHeartbeats 1500000 in
set_option maxRecDepth 100000 in
theorem ztopD_any (A : Option Addr) (n c : Nat) (l : List UInt8) (w : World) (h : Rd w w.heap.size 1 A n c (l.map vb)) (hn : n ≤ 30000) :
    Calls Tryz.prog 20 #[.slice A n c] w (ZDocPost l w) := by
  have hlen := h.blen
  subst hlen
  have HH := Lib.hid h
  clear h
  go_enter Tryz.func20, Tryz.ntmps20
  go_wp2_with (fail)
  refine (rtokens_any A l.length c l w HH.out (by omega)).mono ?_
  have HK := Lib.hid (tok_ok hn)
  rintro e w1 ⟨A1, A2, c1, c2, rfl, h1, h2, hb1⟩
  have HT1 := Lib.hid h1
  have HP1 := Lib.hid h2
  have HB1 := Lib.hid hb1
  have hcap1 := h1.cap
  have hbig1 := h1.big
  have hcap2 := h2.cap
  have hbig2 := h2.big
  clear h1 h2 hb1
  have hpl : (lex l).2.length ≤ 64 := lex_plen l
  go_wp2_with (at_builtin; refine Hid.out ?_)
  refine Lib.hid ?_
  have k2 := own_new ((w1.alloc (.cells #[.slice A1 (lex l).1.length c1, .int .i64 0, .bool false] 64)).alloc (.cells #[] 28)) w1.heap.size 49 2 (by simp; omega)
  have k1 := own_new (w1.alloc (.cells #[.slice A1 (lex l).1.length c1, .int .i64 0, .bool false] 64)) w1.heap.size 28 6 (by simp)
  have hz1 := HB1.out.size
  have hb2 : Below w1.heap.size w1 (((w1.alloc (.cells #[.slice A1 (lex l).1.length c1, .int .i64 0, .bool false] 64)).alloc (.cells #[] 28)).alloc (.cells #[] 49)) := (((Below.refl _ _).alloc (Nat.le_refl _) _).alloc (by simp) _).alloc (by simp; omega) _
  have hg2 : Blk (((w1.alloc (.cells #[.slice A1 (lex l).1.length c1, .int .i64 0, .bool false] 64)).alloc (.cells #[] 28)).alloc (.cells #[] 49)) w1.heap.size 64 #[.slice A1 (lex l).1.length c1, .int .i64 0, .bool false] := ((Blk.new w1 _ _).alloc _).alloc _
  have k3 := own_below_all k1 (w' := ((w1.alloc (.cells #[.slice A1 (lex l).1.length c1, .int .i64 0, .bool false] 64)).alloc (.cells #[] 28)).alloc (.cells #[] 49)) ((Below.refl _ _).alloc (Nat.le_refl _) _)
  simp only [World.size_alloc] at k2 k3
  refine wpList_app elemProb rfl (.tmp 26) (.tmp 27) rfl w1.heap.size (some ⟨w1.heap.size + 1 + 1, 0, none⟩) 0 0 [] rfl k2 w1.heap.size A2 (lex l).2.length c2 rfl ((lex l).2.flatMap probCells) (HP1.out.below hb2) (prob_one _) (by omega) (by omega) (by simp; omega) ?_
  intro AP cP W3 hownP hbP hgP
  rw [List.nil_append, Nat.zero_add] at hownP
  rw [Nat.zero_add]
  have hb3 := hb2.trans hbP
  have hoP : Only (fun k => (Value.slice (some ⟨w1.heap.size + 1 + 1, 0, none⟩) 0 0).ownBlock = some k) (((w1.alloc (.cells #[.slice A1 (lex l).1.length c1, .int .i64 0, .bool false] 64)).alloc (.cells #[] 28)).alloc (.cells #[] 49)) W3 := Only.of_grown hgP (fun k hk => hk)
  have HD := Lib.hid (show ESt w W3 w1.heap.size A1 (lex l).1.length c1 (lex l).1 0 [] (some ⟨w1.heap.size + 1, 0, none⟩) 0 (lex l).2 AP cP from by
    refine ⟨⟨hg2.only hoP (fun e => ?_), HT1.out.below hb3, Nat.le_refl _⟩, HB1.out.trans (hb3.mono hz1), hz1, ⟨[], own_only k3 hoP (fun k hk e => ?_), rfl⟩, own_base hownP hz1⟩
    · have : w1.heap.size + 1 + 1 = w1.heap.size := by simpa [Value.ownBlock] using e
      omega
    · have h1 : w1.heap.size + 1 + 1 = k := by simpa [Value.ownBlock] using e
      have h2 : w1.heap.size + 1 = k := by simpa [Value.ownBlock] using hk
      omega)
  clear k1 k2 k3 hb2 hg2 hownP hbP hgP hb3 hoP
  have hfld0 : ∀ (x y z : Value) (w : World), Sem.run Tryz.prog (Instr.field 53 (.agg #[x, y, z]) 0) w = .ok x w := fun _ _ _ _ => rfl
  have hfld2 : ∀ (x y z : Value) (w : World), Sem.run Tryz.prog (Instr.field 53 (.agg #[x, y, z]) 2) w = .ok z w := fun _ _ _ _ => rfl
  obtain ⟨FP, hFP⟩ : ∃ FP, FP = srt ((lex l).2 ++ synP l) := ⟨_, rfl⟩
  have HDR := Lib.hid (show docR l = [] ++ (pdoc (lex l).1 (lex l).1.length 0).1 ∧ FP = insAll (lex l).2 (pdoc (lex l).1 (lex l).1.length 0).2 from ⟨rfl, by rw [hFP]; exact (ins_all l).symm⟩)
  have HFP := Lib.hid (show docP l = FP.take 64 by rw [hFP]; rfl)
  have HST := Lib.hid (lex_sorted l)
  have hTl := HK.out.len
  have HTk := HK
  clear hFP hcap2 hbig2
  generalize hTT : (lex l).1 = T at *
  generalize hPP : (lex l).2 = P0 at *
  generalize hRR : docR l = DR at *
  generalize w1.heap.size = g at *
  have HRR := Lib.hid hRR
  clear hTT hPP hRR
  go_wp2_with (fail)
  go_loopg [9, 10] T.length (fun gk s1 s2 wr => ∃ (b : Nat) (L : List RT) (AL : Option Addr) (cL : Nat) (P : List Prob) (AP : Option Addr) (cP : Nat), T.length ≤ gk + b ∧ b ≤ 65537 ∧ L.length ≤ b ∧ P.length ≤ 64 + b ∧ s1 = .slice AL L.length cL ∧ s2 = .slice AP P.length cP ∧
    Hid (ESt w wr g A1 T.length c1 T b L AL cL P AP cP) ∧ Hid (Sorted P) ∧ Hid (DR = L ++ (pdoc T gk b).1 ∧ FP = insAll P (pdoc T gk b).2))
  case atStart => exact ⟨0, [], _, 0, P0, AP, cP, by omega, by omega, Nat.le_refl _, by omega, rfl, rfl, HD.out, HST.out, HDR.out⟩
  case round =>
    obtain ⟨b, L, AL, cL, P, AP, cP, hgk, hb, hLb, hPb, rfl, rfl, HD2, HS2, HDR2⟩ := hrel
    obtain ⟨⟨kk, tx, pa⟩, ht⟩ : ∃ t, nx T b = t := ⟨_, rfl⟩
    have HN := Lib.hid (znext_any g g A1 T.length c1 T (.ok () b) wr HD2.out.st (by show b ≤ 70000; omega))
    rw [show nx T (posA (.ok () b : Res Unit)) = _ from ht] at HN
    have Hgk := Lib.hid hgk
    by_cases hk : kk = 5
    · subst hk
      have HEND := Lib.hid (show pdoc T gk b = ([], []) from pdoc_end (by rw [ht]) gk)
      clear ht hgk HD
      go_wp2_with (fail)
      refine HN.out.mono ?_
      rintro e w2 ⟨rfl, hb2⟩
      have HD3 := Lib.hid (HD2.out.below hb2)
      clear hb2
      unfold tokV
      dsimp only
      have hcapP := (own_rd HD3.out.bad).cap
      have hbigP := (own_rd HD3.out.bad).big
      go_wp2_with (fail)
      go_quiet (fail)
      go_wp2
      refine bodyPost_ret (v := .tuple #[.slice AL L.length cL, .slice AP (min (P.length : Int) 64).toNat cP, .int .i64 0]) (by simp [results, Tryz.results20, go_sem]; try rfl) rfl ?_
      have hdr := bdrew (B := w2.heap.size) w2 nq
      obtain ⟨xs, hx1, hx2⟩ := HD3.out.row
      have hD := HDR2.out
      rw [HEND.out] at hD
      simp only [List.append_nil] at hD
      have hDP : FP = P := hD.2
      have hg := HD3.out.hg
      have hl : (min (P.length : Int) 64).toNat = (P.take 64).length := by rw [List.length_take]; omega
      refine ⟨AL, L.length, cL, AP, (min (P.length : Int) 64).toNat, cP, xs, rfl, ?_, (own_rd (own_below_all hx1 hdr)), ?_, ?_, ?_, ?_⟩
      · rw [HRR.out, hD.1]
      · rw [HRR.out, hD.1]
        exact (hx2.only (S' := fun _ => False) (Only.of_below hdr) (fun _ h => h.elim)).sub (fun k hk => .inl (by omega))
      · rw [HFP.out, hDP, hl]
      · have h1 := rd_take (own_rd HD3.out.bad) (k := (min (P.length : Int) 64).toNat) (by omega)
        have h2 : (P.take 64).flatMap probCells = (P.flatMap probCells).take ((min (P.length : Int) 64).toNat * 2) := by
          rw [show P.take 64 = P.take (min (P.length : Int) 64).toNat by
            by_cases h64 : 64 ≤ P.length
            · congr 1; omega
            · rw [List.take_of_length_le (by omega), List.take_of_length_le (by omega)]]
          exact take_flat P _
        rw [HFP.out, hDP, h2]
        exact (h1.below hdr).more hdr.size
      · exact HD3.out.bel.trans (bdrew w2 nq)
    · have hlt := nx_kind T (a := b) (by rw [ht]; exact hk)
      have e1 : (kk != 5) = true := by rw [bne_iff_ne]; exact hk
      have HKK := Lib.hid (show ¬ (nx T b).kind = 5 by rw [ht]; exact hk)
      clear ht hk HD
      go_wp2_with (fail)
      refine HN.out.mono ?_
      rintro e w2 ⟨rfl, hb2⟩
      have HD3 := Lib.hid (HD2.out.below hb2)
      clear hb2
      unfold tokV
      dsimp only
      have xat : w2.cell? ⟨g, 1, none⟩ = some (.int .i64 (b : Int)) := HD3.out.st.at_
      have hgt : g < w2.heap.size := HD3.out.st.lt
      go_wp2_with (fail)
      refine (zrules_any g g A1 T.length c1 T (.ok () b) w2 HD3.out.st HTk.out hb).mono ?_
      rw [show ((Res.ok () b : Res Unit).bind fun _ a => prules T a) = prules T b from rfl]
      rintro e w3 ⟨ho3, hq3, _, rfl, ⟨sn, i1, i2, i3, B1, B2, m1, d1, m2, d2, rfl⟩, hv3⟩
      obtain ⟨q, rfl⟩ : ∃ q, gk = q + 1 := ⟨gk - 1, by have := Hgk.out; omega⟩
      have hin := prules_in T b
      have hgneq := Lib.hid HD3.out.gne
      cases hv : prules T b with
      | ok r m =>
        rw [hv] at hq3 hin
        have HDR3 := Lib.hid (show DR = (L ++ [r]) ++ (pdoc T q m).1 ∧ FP = insAll P (pdoc T q m).2 by
          have h1 := HDR2.out
          rw [pdoc_succ, if_neg HKK.out, hv] at h1
          exact ⟨by rw [h1.1]; simp, h1.2⟩)
        have hmL : m ≤ T.length := hin.2
        have hbm : b < m := hin.1
        have HD4 := Lib.hid (HD3.out.go hq3 ho3)
        have HRL := Lib.hid (show RepL (fun k => k ≤ g ∨ (Value.slice AL L.length cL).ownBlock = some k) w3 [r] [.string (bs sn), .int .i64 i1, .int .i64 i2, .int .i64 i3, .slice B1 m1 d1, .slice B2 m2 d2] from by
          have hs : ∀ k, (k ≤ g ∨ (Value.slice AL L.length cL).ownBlock = some k) → k < w2.heap.size := fun k hk => by
            rcases hk with hk | hk
            · omega
            · exact (hgneq.out.1 k hk).2.2
          obtain ⟨f0, f1, f2, f3, hr1, hr2⟩ := rv_rd (hv3 r m hv)
          rw [← f0, ← f1, ← f2, ← f3]
          exact ⟨_, _, _, _, _, _, [], rfl, hr1.sub hs, hr2.sub hs, rfl⟩)
        have c2 : w3.cell? ⟨g, 2, none⟩ = some (.bool false) := hq3.bad
        have hg3 := hq3.lt
        clear hv ho3 hq3 hin hv3 xat
        go_wp2_with (at_builtin; refine Hid.out ?_)
        refine Lib.hid ?_
        have hbb : Below w3.heap.size w3 ((w3.alloc (.cells #[.string (bs sn), .int .i64 i1, .int .i64 i2, .int .i64 i3, .slice B1 m1 d1, .slice B2 m2 d2] 28)).alloc (.cells #[.string (bs sn), .int .i64 i1, .int .i64 i2, .int .i64 i3, .slice B1 m1 d1, .slice B2 m2 d2] 28)) := ((Below.refl _ _).alloc (Nat.le_refl _) _).alloc (by simp) _
        obtain ⟨xs, hrow, hrep⟩ := HD4.out.row
        refine wpList_push_apart elemRules rfl (.tmp 44) (.tmp 46) rfl g AL L.length cL xs rfl (own_below_all hrow hbb) (w3.heap.size + 1) rfl [.string (bs sn), .int .i64 i1, .int .i64 i2, .int .i64 i3, .slice B1 m1 d1, .slice B2 m2 d2] rfl (new_cellsY _ _ _ (by simp)) (by intro u hu; simp at hu; rcases hu with rfl | rfl | rfl | rfl | rfl | rfl <;> rfl) (by omega) (by omega) (by simp only [World.size_alloc]; omega) ?_
        intro AX cX wX hownX hbX hgX hapX
        have HX := Lib.hid (ESt.pushL (HD4.out.below hbb) rfl (own_below_all hrow hbb) (hrep.only (S' := fun _ => False) (Only.of_below hbb) (fun _ h => h.elim)) (HRL.out.only (S' := fun _ => False) (Only.of_below hbb) (fun _ h => h.elim)) hgX hownX hapX)
        clear hrow hrep hbb hownX hbX hgX hapX
        go_wp2_with (fail)
        go_roundg q
        case measure => omega
        case rel => exact ⟨m, L ++ [r], AX, cX, P, AP, cP, by have := Hgk.out; omega, by omega, by rw [List.length_append]; show L.length + 1 ≤ m; omega, by omega, slice_eq (by rw [List.length_append]; rfl), rfl, HX.out, HS2.out, HDR3.out⟩
      | bad m =>
        rw [hv] at hq3 hin
        have hq3' : QSt w3 g g A1 T.length c1 T (.bad m) := hq3
        have hmL : m ≤ T.length := by have := hin.2; omega
        have hbm : b ≤ m := hin.1
        have Q3 := Lib.hid hq3'
        have HO3 := Lib.hid ho3
        have c2 : w3.cell? ⟨g, 2, none⟩ = some (.bool true) := hq3'.bad
        have hg3 := hq3'.lt
        have HV := Lib.hid hv
        clear hv ho3 hq3 hq3' hin hv3 xat
        go_wp2_with (fail)
        first | (refine calls_named ?_; intro W3b hW3) | (refine body_named ?_; intro W3b hW3) | (refine wpList_named ?_; intro W3b hW3) | (refine wp_named ?_; intro W3b hW3)
        have hb3 : Below w3.heap.size w3 W3b := by rw [← hW3]; exact (Below.refl _ _).alloc (Nat.le_refl _) _
        have Q3b := Lib.hid (Q3.out.below hb3)
        have HO3b := Lib.hid (HO3.out.trans (Only.of_below hb3))
        clear hW3 hb3 c2
        obtain ⟨⟨k4, t4, p4⟩, ht⟩ : ∃ t, nx T m = t := ⟨_, rfl⟩
        have CN := znext_any g g A1 T.length c1 T (.bad m) W3b Q3b.out (by show m ≤ 70000; omega)
        rw [show nx T (posA (.bad m : Res Unit)) = _ from ht] at CN
        refine CN.mono ?_
        clear CN
        rintro e w4 ⟨rfl, hb4⟩
        have HDR3 := Lib.hid (show DR = L ++ (pdoc T q (pskip T T.length (max m (b + 1)))).1 ∧ FP = insAll (insP ⟨p4, 130⟩ P) (pdoc T q (pskip T T.length (max m (b + 1)))).2 by
          have h1 := HDR2.out
          rw [pdoc_succ, if_neg HKK.out, HV.out] at h1
          refine ⟨h1.1, ?_⟩
          rw [h1.2]
          unfold insAll
          rw [List.map_cons, List.foldl_cons, ht])
        have Q4 := Lib.hid (Q3b.out.below hb4)
        have HO4 := Lib.hid (HO3b.out.trans (Only.of_below hb4))
        have HB4 := Lib.hid (own_only HD3.out.bad HO4.out (fun k hk => (hgneq.out.2 k hk).2.1))
        clear hb4 ht
        unfold tokV
        dsimp only
        go_wp2_with (fail)
        refine (zwith_all AP P.length cP w.heap.size P ⟨p4, 130⟩ w4 HB4.out HS2.out (by omega)).mono ?_
        rintro e w5 ⟨AX, cX, rfl, hb5, hown5⟩
        have HPX := Lib.hid (insP_len ⟨p4, 130⟩ P)
        have HSX := Lib.hid (insP_sorted ⟨p4, 130⟩ HS2.out)
        have Q5 := Lib.hid (Q4.out.below hb5)
        have HO5 := Lib.hid (HO4.out.trans (Only.of_below hb5))
        have HW5 := Lib.hid hown5
        have hs4 : w.heap.size ≤ w4.heap.size := by have h1 := HD3.out.bel.size; have h2 := HO4.out.size; omega
        have c2 : w5.cell? ⟨g, 2, none⟩ = some (.bool true) := Q5.out.bad
        have f2 := Q5.out.free 2
        have xat : w5.cell? ⟨g, 1, none⟩ = some (.int .i64 (m : Int)) := Q5.out.at_
        have fat := Q5.out.free 1
        have gat := Q5.out.lt
        clear hb5 hown5
        generalize insP ⟨p4, 130⟩ P = PX at *
        by_cases hmb : m = b
        · subst hmb
          go_wp2_with (fail)
          first | (refine calls_named ?_; intro W6 hW6) | (refine body_named ?_; intro W6 hW6) | (refine wpList_named ?_; intro W6 hW6) | (refine wp_named ?_; intro W6 hW6)
          have HY := Lib.hid (show ESt w W6 g A1 T.length c1 T (max m (m + 1)) L AL cL PX AX cX by
            have q6 := (Q5.out.start).move (s' := .ok () (m + 1)) rfl
            have o6 : Only (· = g) w5 ((w5.setCell ⟨g, 2, none⟩ (.bool false)).setCell ⟨g, 1, none⟩ (.int .i64 (posA (.ok () (m + 1) : Res Unit) : Int))) := (Only.set (S := (· = g)) w5 (p := ⟨g, 2, none⟩) rfl _).trans (Only.set (S := (· = g)) _ (p := ⟨g, 1, none⟩) rfl _)
            have e6 : W6 = ((w5.setCell ⟨g, 2, none⟩ (.bool false)).setCell ⟨g, 1, none⟩ (.int .i64 (posA (.ok () (m + 1) : Res Unit) : Int))) := by rw [← hW6]; rfl
            rw [← e6] at q6 o6
            rw [show max m (m + 1) = m + 1 by omega]
            have h6 := HD3.out.go q6 (HO5.out.trans o6)
            have o7 := own_only HW5.out o6 (fun k hk => by have := (HW5.out.lt k hk).1; have := Q4.out.lt; omega)
            exact ⟨h6.st, h6.bel, h6.hg, h6.row, by rw [HPX.out]; exact own_base o7 hs4⟩)
          clear hW6 c2 f2 xat fat gat HW5
          have hx0 : max m (m + 1) ≤ T.length ∧ m + 1 ≤ max m (m + 1) := by omega
          generalize max m (m + 1) = x0 at *
          go_loopg [] T.length (fun gk2 wi => ∃ x : Nat, T.length ≤ gk2 + x ∧ x0 ≤ x ∧ x ≤ T.length ∧ Hid (ESt w wi g A1 T.length c1 T x L AL cL PX AX cX) ∧ Hid (pskip T T.length x0 = pskip T gk2 x))
          case atStart => exact ⟨x0, by omega, Nat.le_refl _, hx0.1, HY.out, rfl⟩
          case round =>
            obtain ⟨x, hgx, hxx, hxT, HDx, HSx⟩ := hrel
            have Hgx := Lib.hid hgx
            have HDR4 := Lib.hid (show pskip T T.length x0 = x → DR = L ++ (pdoc T q x).1 ∧ FP = insAll PX (pdoc T q x).2 from fun e => by have h1 := HDR3.out; rw [e] at h1; exact h1)
            have hxb : m + 1 ≤ x := Nat.le_trans hx0.2 hxx
            obtain ⟨⟨k5, t5, p5⟩, ht⟩ : ∃ t, nx T x = t := ⟨_, rfl⟩
            have HN5 := Lib.hid (znext_any g g A1 T.length c1 T (.ok () x) wr HDx.out.st (by show x ≤ 70000; omega))
            rw [show nx T (posA (.ok () x : Res Unit)) = _ from ht] at HN5
            by_cases h5 : k5 = 5
            · subst h5
              have HDR5 := Lib.hid (HDR4.out (by rw [HSx.out]; exact pskip_stop (.inl (by rw [ht])) _))
              clear ht hgx HDR4 HSx
              go_wp2_with (fail)
              refine HN5.out.mono ?_
              rintro e w6 ⟨rfl, hb6⟩
              have HDy := Lib.hid (HDx.out.below hb6)
              clear hb6
              unfold tokV
              dsimp only
              go_wp2_with (fail)
              go_roundg q
              case measure => omega
              case rel => exact ⟨x, L, AL, cL, PX, AX, cX, by have := Hgk.out; omega, by omega, by omega, by rw [HPX.out]; omega, rfl, slice_eq HPX.out.symm, HDy.out, HSX.out, HDR5.out⟩
            · have hlt5 := nx_kind T (a := x) (by rw [ht]; exact h5)
              have e5 : (k5 != 5) = true := by rw [bne_iff_ne]; exact h5
              have HK5 := Lib.hid (show ¬ (nx T x).kind = 5 by rw [ht]; exact h5)
              clear ht h5
              obtain ⟨q2, rfl⟩ : ∃ q2, gk = q2 + 1 := ⟨gk - 1, by omega⟩
              have HI5 := fun (w6 : World) (h6 : QSt w6 g g A1 T.length c1 T (.ok () x)) => zis_any g g A1 T.length c1 T (.ok () x) kRules w6 h6 (by show x ≤ 70000; omega)
              cases hB : isB T x kRules with
              | true =>
                have HDR5 := Lib.hid (HDR4.out (by rw [HSx.out]; exact pskip_stop (.inr hB) _))
                rw [show qis T (.ok () x) kRules = true from hB] at HI5
                have HI5 := Lib.hid HI5
                clear hB hgx HDR4 HSx
                go_wp2_with (fail)
                refine HN5.out.mono ?_
                rintro e w6 ⟨rfl, hb6⟩
                have HDy := Lib.hid (HDx.out.below hb6)
                clear hb6
                unfold tokV
                dsimp only
                go_wp2_with (fail)
                refine (HI5.out w6 HDy.out.st).mono ?_
                rintro e w7 ⟨rfl, hb7⟩
                have HDz := Lib.hid (HDy.out.below hb7)
                clear hb7
                go_wp2_with (fail)
                go_roundg q
                case measure => omega
                case rel => exact ⟨x, L, AL, cL, PX, AX, cX, by have := Hgk.out; omega, by omega, by omega, by rw [HPX.out]; omega, rfl, slice_eq HPX.out.symm, HDz.out, HSX.out, HDR5.out⟩
              | false =>
                have HS6 := Lib.hid (show pskip T T.length x0 = pskip T q2 (x + 1) by rw [HSx.out]; exact pskip_on HK5.out hB q2)
                rw [show qis T (.ok () x) kRules = false from hB] at HI5
                have HI5 := Lib.hid HI5
                clear hB hgx HDR4 HSx
                go_wp2_with (fail)
                refine HN5.out.mono ?_
                rintro e w6 ⟨rfl, hb6⟩
                have HDy := Lib.hid (HDx.out.below hb6)
                clear hb6
                unfold tokV
                dsimp only
                go_wp2_with (fail)
                refine (HI5.out w6 HDy.out.st).mono ?_
                rintro e w7 ⟨rfl, hb7⟩
                have HDz := Lib.hid (HDy.out.below hb7)
                clear hb7
                have xat : w7.cell? ⟨g, 1, none⟩ = some (.int .i64 (x : Int)) := HDz.out.st.at_
                have fat := HDz.out.st.free 1
                have gat := HDz.out.st.lt
                go_wp2_with (fail)
                go_roundg q2
                case measure => omega
                case rel => exact ⟨x + 1, by have := Hgx.out; omega, by omega, by omega, HDz.out.go (HDz.out.st.move (s' := .ok () (x + 1)) rfl) (Only.set (S := (· = g)) w7 (p := ⟨g, 1, none⟩) rfl _), HS6.out⟩
        · have hmb' : ((m : Int) == (b : Int)) = false := by rw [beq_eq_false_iff_ne]; omega
          go_wp2_with (fail)
          first | (refine calls_named ?_; intro W6 hW6) | (refine body_named ?_; intro W6 hW6) | (refine wpList_named ?_; intro W6 hW6) | (refine wp_named ?_; intro W6 hW6)
          have HY := Lib.hid (show ESt w W6 g A1 T.length c1 T (max m (b + 1)) L AL cL PX AX cX by
            have q6 := Q5.out.start
            have o6 : Only (· = g) w5 (w5.setCell ⟨g, 2, none⟩ (.bool false)) := Only.set (S := (· = g)) w5 (p := ⟨g, 2, none⟩) rfl _
            rw [hW6] at q6 o6
            rw [show max m (b + 1) = m by omega]
            have h6 := HD3.out.go q6 (HO5.out.trans o6)
            have o7 := own_only HW5.out o6 (fun k hk => by have := (HW5.out.lt k hk).1; have := Q4.out.lt; omega)
            exact ⟨h6.st, h6.bel, h6.hg, h6.row, by rw [HPX.out]; exact own_base o7 hs4⟩)
          clear hW6 c2 f2 xat fat gat HW5 hmb'
          have hx0 : max m (b + 1) ≤ T.length ∧ b + 1 ≤ max m (b + 1) := by omega
          generalize max m (b + 1) = x0 at *
          go_loopg [] T.length (fun gk2 wi => ∃ x : Nat, T.length ≤ gk2 + x ∧ x0 ≤ x ∧ x ≤ T.length ∧ Hid (ESt w wi g A1 T.length c1 T x L AL cL PX AX cX) ∧ Hid (pskip T T.length x0 = pskip T gk2 x))
          case atStart => exact ⟨x0, by omega, Nat.le_refl _, hx0.1, HY.out, rfl⟩
          case round =>
            obtain ⟨x, hgx, hxx, hxT, HDx, HSx⟩ := hrel
            have Hgx := Lib.hid hgx
            have HDR4 := Lib.hid (show pskip T T.length x0 = x → DR = L ++ (pdoc T q x).1 ∧ FP = insAll PX (pdoc T q x).2 from fun e => by have h1 := HDR3.out; rw [e] at h1; exact h1)
            have hxb : b + 1 ≤ x := Nat.le_trans hx0.2 hxx
            obtain ⟨⟨k5, t5, p5⟩, ht⟩ : ∃ t, nx T x = t := ⟨_, rfl⟩
            have HN5 := Lib.hid (znext_any g g A1 T.length c1 T (.ok () x) wr HDx.out.st (by show x ≤ 70000; omega))
            rw [show nx T (posA (.ok () x : Res Unit)) = _ from ht] at HN5
            by_cases h5 : k5 = 5
            · subst h5
              have HDR5 := Lib.hid (HDR4.out (by rw [HSx.out]; exact pskip_stop (.inl (by rw [ht])) _))
              clear ht hgx HDR4 HSx
              go_wp2_with (fail)
              refine HN5.out.mono ?_
              rintro e w6 ⟨rfl, hb6⟩
              have HDy := Lib.hid (HDx.out.below hb6)
              clear hb6
              unfold tokV
              dsimp only
              go_wp2_with (fail)
              go_roundg q
              case measure => omega
              case rel => exact ⟨x, L, AL, cL, PX, AX, cX, by have := Hgk.out; omega, by omega, by omega, by rw [HPX.out]; omega, rfl, slice_eq HPX.out.symm, HDy.out, HSX.out, HDR5.out⟩
            · have hlt5 := nx_kind T (a := x) (by rw [ht]; exact h5)
              have e5 : (k5 != 5) = true := by rw [bne_iff_ne]; exact h5
              have HK5 := Lib.hid (show ¬ (nx T x).kind = 5 by rw [ht]; exact h5)
              clear ht h5
              obtain ⟨q2, rfl⟩ : ∃ q2, gk = q2 + 1 := ⟨gk - 1, by omega⟩
              have HI5 := fun (w6 : World) (h6 : QSt w6 g g A1 T.length c1 T (.ok () x)) => zis_any g g A1 T.length c1 T (.ok () x) kRules w6 h6 (by show x ≤ 70000; omega)
              cases hB : isB T x kRules with
              | true =>
                have HDR5 := Lib.hid (HDR4.out (by rw [HSx.out]; exact pskip_stop (.inr hB) _))
                rw [show qis T (.ok () x) kRules = true from hB] at HI5
                have HI5 := Lib.hid HI5
                clear hB hgx HDR4 HSx
                go_wp2_with (fail)
                refine HN5.out.mono ?_
                rintro e w6 ⟨rfl, hb6⟩
                have HDy := Lib.hid (HDx.out.below hb6)
                clear hb6
                unfold tokV
                dsimp only
                go_wp2_with (fail)
                refine (HI5.out w6 HDy.out.st).mono ?_
                rintro e w7 ⟨rfl, hb7⟩
                have HDz := Lib.hid (HDy.out.below hb7)
                clear hb7
                go_wp2_with (fail)
                go_roundg q
                case measure => omega
                case rel => exact ⟨x, L, AL, cL, PX, AX, cX, by have := Hgk.out; omega, by omega, by omega, by rw [HPX.out]; omega, rfl, slice_eq HPX.out.symm, HDz.out, HSX.out, HDR5.out⟩
              | false =>
                have HS6 := Lib.hid (show pskip T T.length x0 = pskip T q2 (x + 1) by rw [HSx.out]; exact pskip_on HK5.out hB q2)
                rw [show qis T (.ok () x) kRules = false from hB] at HI5
                have HI5 := Lib.hid HI5
                clear hB hgx HDR4 HSx
                go_wp2_with (fail)
                refine HN5.out.mono ?_
                rintro e w6 ⟨rfl, hb6⟩
                have HDy := Lib.hid (HDx.out.below hb6)
                clear hb6
                unfold tokV
                dsimp only
                go_wp2_with (fail)
                refine (HI5.out w6 HDy.out.st).mono ?_
                rintro e w7 ⟨rfl, hb7⟩
                have HDz := Lib.hid (HDy.out.below hb7)
                clear hb7
                have xat : w7.cell? ⟨g, 1, none⟩ = some (.int .i64 (x : Int)) := HDz.out.st.at_
                have fat := HDz.out.st.free 1
                have gat := HDz.out.st.lt
                go_wp2_with (fail)
                go_roundg q2
                case measure => omega
                case rel => exact ⟨x + 1, by have := Hgx.out; omega, by omega, by omega, HDz.out.go (HDz.out.st.move (s' := .ok () (x + 1)) rfl) (Only.set (S := (· = g)) w7 (p := ⟨g, 1, none⟩) rfl _), HS6.out⟩
end Go.Proofs.YtlgdmbdhffdenaaGreatDoor
