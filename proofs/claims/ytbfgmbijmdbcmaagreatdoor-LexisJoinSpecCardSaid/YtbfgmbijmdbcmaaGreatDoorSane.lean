/- sane: the examples of the chapter hold. -/
import Derived.Test.YtbfgmbijmdbcmaaGreatDoorTokBig
import Derived.Test.YtbfgmbijmdbcmaaGreatDoorLexEx
import Derived.Test.YtbfgmbijmdbcmaaGreatDoorPlace
import Derived.Test.YtbfgmbijmdbcmaaGreatDoorKeyword
import Derived.Lib.SlBytesConst
namespace Go.Proofs.YtbfgmbijmdbcmaaGreatDoor
set_option linter.unusedVariables false
set_option linter.unusedSimpArgs false
open Go.RowKit

theorem new_cells_fr (w : World) (cs : List Value) (t : TypeId) (fr : Nat × Nat) : ∀ j u, cs[j]? = some u → (w.alloc (.cells cs.toArray t fr)).cell? ⟨w.heap.size, j, none⟩ = some u := by
  intro j u hj
  rw [cell_of_row _ _ _ _ _ _ (heap_alloc_new w _)]
  simpa using hj
theorem rd_new (w : World) (l : List UInt8) (t : TypeId) (fr : Nat × Nat) (n : Nat) (hn : l.length = n) (hs : n ≤ 9223372036854775807) : Rd (w.alloc (.cells (l.map vb).toArray t fr)) (w.alloc (.cells (l.map vb).toArray t fr)).heap.size 1 (some ⟨w.heap.size, 0, none⟩) n n (l.map vb) := by
  refine ⟨by simp [hn], Nat.le_refl _, hs, fun _ => ⟨_, _, rfl, by simp, fun j u hj => ?_⟩⟩
  rw [Nat.zero_add]
  exact new_cells_fr w _ t fr j u hj
theorem rd_toks (w : World) (T : List Tok) (t : TypeId) (fr : Nat × Nat) (n : Nat) (hn : T.length = n) (hs : n ≤ 9223372036854775807) : Rd (w.alloc (.cells (T.flatMap tokCells).toArray t fr)) (w.alloc (.cells (T.flatMap tokCells).toArray t fr)).heap.size 3 (some ⟨w.heap.size, 0, none⟩) n n (T.flatMap tokCells) := by
  refine ⟨by rw [flatMap_len tokCells 3 tok_len, hn], Nat.le_refl _, hs, fun _ => ⟨_, _, rfl, by simp, fun j u hj => ?_⟩⟩
  rw [Nat.zero_add]
  exact new_cells_fr w _ t fr j u hj
theorem rd_probs (w : World) (T : List Prob) (t : TypeId) (fr : Nat × Nat) (n : Nat) (hn : T.length = n) (hs : n ≤ 9223372036854775807) : Rd (w.alloc (.cells (T.flatMap probCells).toArray t fr)) (w.alloc (.cells (T.flatMap probCells).toArray t fr)).heap.size 2 (some ⟨w.heap.size, 0, none⟩) n n (T.flatMap probCells) := by
  refine ⟨by rw [flatMap_len probCells 2 prob_len, hn], Nat.le_refl _, hs, fun _ => ⟨_, _, rfl, by simp, fun j u hj => ?_⟩⟩
  rw [Nat.zero_add]
  exact new_cells_fr w _ t fr j u hj
/-- Tokens at bytes that the call itself has laid. -/
theorem tokens_is (l : List UInt8) (T : List Tok) (P : List Prob) (hx : lex l = (T, P)) (n a b : Nat) (hn : l.length = n) (hs : n ≤ 65536) (ha : T.length = a) (hb : P.length = b) (w : World) (h0 : Nat) (hh : h0 = w.heap.size) (t : TypeId) (fr : Nat × Nat) (cs : Array Value) (hcs : cs = (l.map vb).toArray) :
    Calls Tryz.prog 12 #[.slice (some ⟨h0, 0, none⟩) n n] (w.alloc (.cells cs t fr)) fun e w' => ∃ A1 A2 c1 c2, e = .returned (.tuple #[.slice A1 a c1, .slice A2 b c2, .int .i64 0]) ∧ Rd w' w'.heap.size 3 A1 a c1 (T.flatMap tokCells) ∧ Rd w' w'.heap.size 2 A2 b c2 (P.flatMap probCells) ∧ Below w.heap.size w w' := by
  subst hcs hh ha hb
  refine (tokens_any _ n n l _ (rd_new w l t fr n hn (by omega)) hs).mono ?_
  unfold TokPost
  rw [hx]
  rintro e w1 ⟨A1, A2, c1, c2, rfl, h1, h2, h3⟩
  exact ⟨A1, A2, c1, c2, rfl, h1, h2, ((Below.refl _ w).alloc (Nat.le_refl _) _).trans (h3.mono (by simp))⟩

theorem join_is (w : World) (h0 : Nat) (hh : h0 = w.heap.size) (t : TypeId) (fr : Nat × Nat) (cs : Array Value) (hcs : cs = ([(⟨5, [], 0⟩ : Tok)].flatMap tokCells).toArray) :
    Calls Tryz.prog 17 #[.slice (some ⟨h0, 0, none⟩) 1 1] (w.alloc (.cells cs t fr)) fun e w' => e = .returned (.tuple #[.slice none 0 0, .int .i64 0]) ∧ Below w.heap.size w w' := by
  subst hcs hh
  refine (join_end _ 1 _ 0 _ (rd_toks w [⟨5, [], 0⟩] _ _ 1 rfl (by omega))).mono ?_
  rintro e w5 ⟨rfl, rfl⟩
  exact ⟨rfl, (Below.refl _ w).alloc (Nat.le_refl _) _⟩
theorem place_is (w : World) (h0 : Nat) (hh : h0 = w.heap.size) (t : TypeId) (fr : Nat × Nat) (cs : Array Value) (hcs : cs = ([97, 98, 10, 99].map vb).toArray) :
    Calls Tryz.prog 21 #[.slice (some ⟨h0, 0, none⟩) 4 4, .int .i64 4] (w.alloc (.cells cs t fr)) fun e w' => e = .returned (.tuple #[.int .i64 2, .int .i64 2, .int .i64 0]) ∧ Below w.heap.size w w' := by
  subst hcs hh
  refine (place_any _ 4 4 [97, 98, 10, 99] _ 4 _ (rd_new _ [97, 98, 10, 99] _ _ 4 rfl (by omega)) (by omega) (by omega) (by omega)).mono ?_
  rintro e w5 ⟨rfl, rfl⟩
  exact ⟨rfl, (Below.refl _ w).alloc (Nat.le_refl _) _⟩

theorem chain {w w' w'' : World} (h : Below w.heap.size w w') (h' : Below w'.heap.size w' w'') : Below w.heap.size w w'' := h.trans (h'.mono h.size)
theorem same_is (A : Option Addr) (h0 n c : Nat) (T : List Tok) (hn : T.length = n) (w : World) (h : Rd w w.heap.size 3 A n c (T.flatMap tokCells)) (t : TypeId) (fr : Nat × Nat) (cs : Array Value) (hcs : cs = (T.flatMap tokCells).toArray) (m : Nat) (hh : (h0, m) = (w.heap.size, n)) :
    Calls Tryz.prog 14 #[.slice A n c, .slice (some ⟨h0, 0, none⟩) m m] (w.alloc (.cells cs t fr)) fun e w' => e = .returned (.bool true) ∧ Below w.heap.size w w' := by
  have hs : n ≤ 9223372036854775807 := by have := h.cap; have := h.big; omega
  injection hh with e1 e2
  subst hcs e1 e2
  refine (same_any A _ _ _ c _ _ T T _ ((h.alloc (Nat.le_refl _) _).more (by simp)) (rd_toks w T t fr _ hn hs)).mono ?_
  rintro e w1 ⟨rfl, hb⟩
  exact ⟨by simp, ((Below.refl _ w).alloc (Nat.le_refl _) _).trans (hb.mono (by simp))⟩
theorem sameP_is (A : Option Addr) (h0 n c : Nat) (T : List Prob) (hn : T.length = n) (w : World) (h : Rd w w.heap.size 2 A n c (T.flatMap probCells)) (t : TypeId) (fr : Nat × Nat) (cs : Array Value) (hcs : cs = (T.flatMap probCells).toArray) (m : Nat) (hh : (h0, m) = (w.heap.size, n)) :
    Calls Tryz.prog 15 #[.slice A n c, .slice (some ⟨h0, 0, none⟩) m m] (w.alloc (.cells cs t fr)) fun e w' => e = .returned (.bool true) ∧ Below w.heap.size w w' := by
  have hs : n ≤ 9223372036854775807 := by have := h.cap; have := h.big; omega
  injection hh with e1 e2
  subst hcs e1 e2
  refine (sameP_any A _ _ _ c _ _ T T _ ((h.alloc (Nat.le_refl _) _).more (by simp)) (rd_probs w T t fr _ hn hs)).mono ?_
  rintro e w1 ⟨rfl, hb⟩
  exact ⟨by simp, ((Below.refl _ w).alloc (Nat.le_refl _) _).trans (hb.mono (by simp))⟩

set_option maxHeartbeats 4000000 in
set_option maxRecDepth 100000 in
theorem sane_any (w : World) (m : Int) (hm : w.cell? ⟨0, 0, none⟩ = some (.int .i64 m)) : Calls Tryz.prog 11 #[] w fun e w' => e = .returned (.bool true) ∧ Below w.heap.size w w' := by
  have kc := fun (w : World) (C : Array Value) (n c : Nat) => Lib.run_convert_bytes_const (P := Tryz.prog) w 22 5 C n c Tryz.underlying22 Tryz.underlying5
  go_enter Tryz.func11, Tryz.ntmps11
  go_wp2_with (fail)
  refine (tokens_is [97, 62, 61, 45, 53] _ _ lex_ex1 5 4 0 rfl (by omega) rfl rfl w _ rfl _ _ _ rfl).mono ?_
  rintro e w1 ⟨A1, B1, c1, d1, rfl, h1', g1', b1'⟩
  have h1 := Lib.hid h1'
  have g1 := Lib.hid g1'
  have b1 := Lib.hid b1'
  clear h1' g1' b1'
  go_wp2_with (fail)
  refine (tokens_is [48, 48, 55, 37, 36] _ _ lex_ex2 5 1 1 rfl (by omega) rfl rfl w1 _ rfl _ _ _ rfl).mono ?_
  rintro e w2 ⟨A2, B2, c2, d2, rfl, h2', g2', b2'⟩
  have h2 := Lib.hid h2'
  have g2 := Lib.hid g2'
  have b2 := Lib.hid b2'
  clear h2' g2' b2'
  go_wp2_with (fail)
  refine (tokens_is [34, 97, 92, 34, 98, 34] _ _ lex_ex3 6 2 0 rfl (by omega) rfl rfl w2 _ rfl _ _ _ rfl).mono ?_
  rintro e w3 ⟨A3, B3, c3, d3, rfl, h3', g3', b3'⟩
  have h3 := Lib.hid h3'
  have g3 := Lib.hid g3'
  have b3 := Lib.hid b3'
  clear h3' g3' b3'
  go_wp2_with (fail)
  refine (tokens_is [34, 97] _ _ lex_ex4 2 2 1 rfl (by omega) rfl rfl w3 _ rfl _ _ _ rfl).mono ?_
  rintro e w4 ⟨A4, B4, c4, d4, rfl, h4', g4', b4'⟩
  have h4 := Lib.hid h4'
  have g4 := Lib.hid g4'
  have b4 := Lib.hid b4'
  clear h4' g4' b4'
  go_wp2_with (fail)
  refine (join_is w4 _ rfl _ _ _ rfl).mono ?_
  rintro e w5 ⟨rfl, b5'⟩
  have b5 := Lib.hid b5'
  clear b5'
  go_wp2_with (fail)
  refine (join_nil _).mono ?_
  rintro e w6 ⟨rfl, rfl⟩
  go_wp2_with (fail)
  refine (place_is w6 _ rfl _ _ _ rfl).mono ?_
  rintro e w7 ⟨rfl, b7'⟩
  have b7 := Lib.hid b7'
  clear b7'
  clear kc
  have B2 := Lib.hid (chain b1.out b2.out)
  have C7 := Lib.hid (chain (chain b5.out b7.out) (Below.refl _ w7))
  go_wp2_with (fail)
  refine (same_is _ _ 4 c1 [⟨1, [97], 0⟩, ⟨4, [62, 61], 1⟩, ⟨2, [45, 53], 3⟩, ⟨5, [], 5⟩] rfl w7 ((h1.out.below (chain b2.out (chain b3.out (chain b4.out C7.out)))).more (chain b2.out (chain b3.out (chain b4.out C7.out))).size) _ _ _ rfl _ rfl).mono ?_
  rintro e w8 ⟨rfl, b8'⟩
  have b8 := Lib.hid b8'
  clear b8'
  have C8 := Lib.hid (chain C7.out b8.out)
  go_wp2_with (fail)
  refine (sameP_is _ _ 1 d2 [⟨0, 60⟩] rfl w8 ((g2.out.below (chain b3.out (chain b4.out C8.out))).more (chain b3.out (chain b4.out C8.out)).size) _ _ _ rfl _ rfl).mono ?_
  rintro e w9 ⟨rfl, b9'⟩
  have C9 := Lib.hid (chain C8.out b9')
  clear b9'
  have C := Lib.hid (chain b1.out (chain b2.out (chain b3.out (chain b4.out C9.out))))
  obtain ⟨p, off, t, he, hp, g0, q0, q1, q2⟩ := (h3.out.below (chain b4.out C9.out)).tok (T := [⟨3, [97, 34, 98], 0⟩, ⟨5, [], 6⟩]) (k := 0) (by omega)
  have ht := Option.some.inj g0
  subst he ht
  obtain ⟨p', off', t', he', hp', g0', q0', q1', q2'⟩ := (h4.out.below C9.out).tok (T := [⟨1, [97], 1⟩, ⟨5, [], 2⟩]) (k := 0) (by omega)
  have ht' := Option.some.inj g0'
  subst he' ht'
  have f1 : w9.cell? ⟨p, off + 1, none⟩ = some (.string ⟨#[97, 34, 98]⟩) := q1
  have f2 : w9.cell? ⟨p', off' + 2, none⟩ = some (.int .i64 1) := q2'
  clear q0 q1 q2 q0' q1' q2' hp hp' g0 g0'
  have hm9 := Lib.hid ((C.out.cell (by exact World.block_lt_of_cell? w _ hm)).trans hm)
  go_wp2_with (fail)
  refine (keyword_any [112, 111, 105, 110, 116, 115] m _ hm9.out (by decide)).mono ?_
  rintro e w10 ⟨rfl, b10'⟩
  have C10 := Lib.hid (chain C.out b10')
  clear b10'
  have hm10 := Lib.hid ((C10.out.cell (by exact World.block_lt_of_cell? w _ hm)).trans hm)
  rw [show kwB [112, 111, 105, 110, 116, 115] = true from by decide +kernel]
  go_wp2_with (fail)
  refine (keyword_any [80, 111, 105, 110, 116, 115] m _ hm10.out (by decide)).mono ?_
  rintro e w11 ⟨rfl, b11'⟩
  have C11 := Lib.hid (chain C10.out b11')
  clear b11'
  rw [show kwB [80, 111, 105, 110, 116, 115] = false from by decide +kernel]
  go_wp2_with (fail)
  go_ret
  exact ⟨rfl, C11.out⟩
end Go.Proofs.YtbfgmbijmdbcmaaGreatDoor
