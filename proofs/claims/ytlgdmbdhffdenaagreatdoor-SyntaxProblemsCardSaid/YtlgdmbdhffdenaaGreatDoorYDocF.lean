/- Document by its contract, with the sort's contract met; plain laws about its problems. -/
import Derived.Test.YtlgdmbdhffdenaaGreatDoorYSrtT
import Derived.Test.YtlgdmbdhffdenaaGreatDoorYSane
import Derived.Test.YtlgdmbdhffdenaaGreatDoorYSameR
namespace Go.Proofs.YtlgdmbdhffdenaaGreatDoor
set_option linter.unusedVariables false
set_option linter.unusedSimpArgs false
open Go.RowKit

theorem pdoc_len (T : List Tok) : ∀ f a, (pdoc T f a).2.length ≤ f
  | 0, a => Nat.le_refl _
  | f + 1, a => by
    rw [pdoc_succ]
    split
    · simp
    · split
      · exact Nat.le_succ_of_le (pdoc_len T f _)
      · simp only [List.length_cons]
        exact Nat.succ_le_succ (pdoc_len T f _)
theorem prob_cnt {l : List UInt8} (hl : l.length ≤ 30000) : ((lex l).2 ++ synP l).length ≤ 100000 := by
  have h1 := lex_plen l
  have h2 := pdoc_len (lex l).1 (lex l).1.length 0
  have h3 := (tok_ok hl).len
  rw [List.length_append]
  unfold synP
  rw [List.length_map]
  omega
theorem ydoc_all (A : Option Addr) (n c : Nat) (l : List UInt8) (w : World) (h : Rd w w.heap.size 1 A n c (l.map vb)) (hn : n ≤ 30000) (hG : Gb w.heap.size w) : Calls Tryz.prog 19 #[.slice A n c] w (DocPost l w) :=
  ydoc_any 100000 sort_any A n c l w h hn hG (prob_cnt (by have := h.blen; omega))
theorem doc_len {l : List UInt8} {R : List Prob} (hp : R.Perm ((lex l).2 ++ synP l)) : min R.length 64 = (docP l).length := by
  unfold docP
  rw [List.length_take, srt_len, hp.length_eq, Nat.min_comm]
set_option maxRecDepth 100000 in
theorem yshortD_any (A : Option Addr) (n c : Nat) (w : World) : Calls Tryz.prog 12 #[.slice A n c] w fun e w' => e = .returned (.bool (decide ((n : Int) ≤ 2000))) ∧ w' = w := by
  go_enter Tryz.func12, Tryz.ntmps12
  go_wp2
  go_ret
  exact ⟨rfl, rfl⟩
/-- A world that differs from w in new blocks alone: for a region that draws, with a call in it that lays blocks. -/
structure BelowBy (w : World) where
  w' : World
  h : Below w.heap.size w w'
instance (w : World) : Inhabited (BelowBy w) := ⟨⟨w, Below.refl _ _⟩⟩
theorem wp_region_below {P : Program} {id : Nat} {Q : Exit → Act → World → Prop} {a : Act} {w : World} {l : List Oper} (hm : P.follows .mixedOrders = true) (hB : Region.lexB .any l.toArray = true)
    (h : wpQuiet P l.toArray (fun w' => ∃ p : BelowBy w, w' = p.w') (fun a' => ∀ w', (∃ p : BelowBy w, w' = p.w') → Q .normal a' w') l a) : (Code.region id l.toArray true).wp P Q a w :=
  wp_region_quiet (C := fun w' => ∃ p : BelowBy w, w' = p.w') hm hB ⟨⟨{ w with drawn := w.drawn + 1 }, ⟨rfl, rfl, rfl, Nat.le_refl _, fun _ _ => rfl⟩⟩, rfl⟩ (by simpa using h)
theorem cell_by {w : World} {b i : Nat} {v : Value} (hb : b < w.heap.size) (h : w.cell? ⟨b, i, none⟩ = some v) (p : BelowBy w) : p.w'.cell? ⟨b, i, none⟩ = some v := (p.h.cell (p := ⟨b, i, none⟩) hb).trans h
theorem same_by (S S' : Nat → Prop) (x y : RT) (A A' C C' : Option Addr) (m c m' c' i j i' j' : Nat) (w : World) (h1 : RepT S w x.order A m c) (h2 : RepT S' w y.order A' m' c') (h3 : RepZ S w x.zones C i j) (h4 : RepZ S' w y.zones C' i' j') (p : BelowBy w) :
    Calls Tryz.prog 15 #[rulesV x A m c C i j, rulesV y A' m' c' C' i' j'] p.w' fun e w' => e = .returned (.bool (decide (x = y))) ∧ ∃ q : BelowBy w, w' = q.w' := by
  have ho : Only (fun _ => False) w p.w' := Only.of_below p.h
  refine (same_any S S' x y A A' C C' m c m' c' i j i' j' p.w' (h1.only ho (fun _ h => h.elim)) (h2.only ho (fun _ h => h.elim)) (h3.only ho (fun _ h => h.elim)) (h4.only ho (fun _ h => h.elim))).mono ?_
  rintro e w' ⟨rfl, hb⟩
  exact ⟨rfl, ⟨w', p.h.trans (hb.mono p.h.size)⟩, rfl⟩
/-- What lies strictly rising in a sorted list, is found in it in its order. -/
theorem sub_sorted : ∀ (R s : List Prob), Sorted R → s.Pairwise (fun x y => x.at_ < y.at_) → (∀ z ∈ s, z ∈ R) → s.Sublist R
  | R, [], _, _, _ => List.nil_sublist _
  | [], x :: s, _, _, h => absurd (h x (by simp)) (by simp)
  | y :: R, x :: s, hR, hs, h => by
    have hR' := List.pairwise_cons.1 hR
    have hs' := List.pairwise_cons.1 hs
    by_cases e : x = y
    · subst e
      refine (sub_sorted R s hR'.2 hs'.2 fun z hz => ?_).cons_cons x
      rcases List.mem_cons.1 (h z (by simp [hz])) with rfl | h1
      · have := hs'.1 _ hz
        omega
      · exact h1
    · refine List.Sublist.cons y (sub_sorted R (x :: s) hR'.2 hs fun z hz => ?_)
      have hx : x ∈ R := by
        rcases List.mem_cons.1 (h x (by simp)) with h1 | h1
        · exact absurd h1 e
        · exact h1
      rcases List.mem_cons.1 hz with rfl | hz'
      · exact hx
      · rcases List.mem_cons.1 (h z hz) with rfl | h1
        · have h2 := hs'.1 _ hz'
          have h3 := hR'.1 x hx
          omega
        · exact h1
/-- The law on problems, of every sorted list of them. -/
theorem law_probsR [DecidableEq Prob] {l : List UInt8} {R : List Prob} (hp : R.Perm ((lex l).2 ++ synP l)) (hs : Sorted R) : Sorted (R.take 64) ∧ (∀ p ∈ R.take 64, 0 ≤ p.at_ ∧ p.at_ ≤ l.length ∧ (p.code = 60 ∨ p.code = 130)) ∧
    (found (lex l).2 (R.take 64) = (lex l).2.length ∨ (R.take 64).length = 64) := by
  obtain ⟨T, P, e, h⟩ := lex_inv l
  refine ⟨hs.sublist (List.take_sublist _ _), ?_, ?_⟩
  · intro p hq
    have h1 := hp.mem_iff.1 (List.mem_of_mem_take hq)
    rcases List.mem_append.1 h1 with h2 | h2
    · rw [e] at h2
      obtain ⟨g1, g2, g3, _⟩ := h.prob p h2
      exact ⟨g2, by omega, .inl g1⟩
    · obtain ⟨x, hx, rfl⟩ := List.mem_map.1 h2
      obtain ⟨g1, g2⟩ := pdoc_at l _ _ x hx
      exact ⟨g1, g2, .inr rfl⟩
  · rcases Nat.lt_or_ge R.length 64 with h1 | h1
    · left
      rw [List.take_of_length_le (by omega)]
      apply found_sub
      refine sub_sorted R _ hs (by rw [e]; exact h.pinc) fun z hz => hp.mem_iff.2 (List.mem_append.2 (.inl hz))
    · right
      rw [List.length_take]
      omega
end Go.Proofs.YtlgdmbdhffdenaaGreatDoor
