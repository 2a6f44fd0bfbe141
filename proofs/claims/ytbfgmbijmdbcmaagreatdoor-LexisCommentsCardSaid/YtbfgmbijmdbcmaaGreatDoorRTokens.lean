/- The reference's Tokens by its contract. -/
import Derived.Test.YtbfgmbijmdbcmaaGreatDoorRTok3
import Derived.Test.YtbfgmbijmdbcmaaGreatDoorRefBlank
import Derived.Test.YtbfgmbijmdbcmaaGreatDoorTokens
namespace Go.Proofs.YtbfgmbijmdbcmaaGreatDoor
set_option linter.unusedVariables false
set_option linter.unusedSimpArgs false
open Go.RowKit

theorem own_new (w : World) (B : Nat) (e : TypeId) (size : Nat) (hB : B ≤ w.heap.size) : (w.alloc (.cells #[] e)).ownsRow B e size (.slice (some ⟨w.heap.size, 0, none⟩) 0 0) 0 [] :=
  ⟨by simp, .inr ⟨w.heap.size, 0, #[], rfl, hB, heap_alloc_new w _, by simp, by simp [maxLen], by simp, by simp⟩⟩

/-- The state at the head of a round. -/
structure RC (B : Nat) (w0 w : World) (A : Option Addr) (n c : Nat) (l : List UInt8) (P : List Prob) (Ab : Option Addr) (cb : Nat) (T : List Tok) (At : Option Addr) (ct : Nat) : Prop where
  src : Rd w B 1 A n c (l.map vb)
  tok : w.ownsRow B 41 3 (.slice At T.length ct) T.length (T.flatMap tokCells)
  bad : w.ownsRow B 44 2 (.slice Ab P.length cb) P.length (P.flatMap probCells)
  bel : Below B w0 w
  hB : B ≤ w.heap.size
  pl : P.length ≤ 64
section
variable {B : Nat} {w0 w W w1 : World} {n c cb ct c' : Nat} {A Ab At A' : Option Addr} {l : List UInt8} {P : List Prob} {T : List Tok}
theorem RC.below (h : RC B w0 w A n c l P Ab cb T At ct) (hb : Below w.heap.size w W) : RC B w0 W A n c l P Ab cb T At ct :=
  ⟨h.src.below (hb.mono h.hB), own_below_all h.tok hb, own_below_all h.bad hb, h.bel.trans (hb.mono h.hB), Nat.le_trans h.hB hb.size, h.pl⟩
theorem RC.push (h : RC B w0 w A n c l P Ab cb T At ct) (hg : w.grownBy w1 (Value.slice At T.length ct).ownBlock) (t : Tok)
    (hown : w1.ownsRow B 41 3 (.slice A' (T.length + 1) c') (T.length + 1) (T.flatMap tokCells ++ tokCells t)) : RC B w0 w1 A n c l P Ab cb (T ++ [t]) A' c' := by
  have ho : Only (fun k => (Value.slice At T.length ct).ownBlock = some k) w w1 := Only.of_grown hg (fun k hk => hk)
  refine ⟨h.src.only ho h.hB (fun k hk e => by have := (h.tok.lt k e).1; omega), ?_, own_only h.bad ho (fun k hk e => own_own h.tok h.bad (by decide) k e hk), ho.below h.bel h.hB (fun k hk => (h.tok.lt k hk).1), Nat.le_trans h.hB ho.size, h.pl⟩
  have e1 : (T ++ [t]).length = T.length + 1 := by simp
  have e2 : (T ++ [t]).flatMap tokCells = T.flatMap tokCells ++ tokCells t := by simp
  rw [e1, e2]
  exact hown
theorem RC.pushP (h : RC B w0 w A n c l P Ab cb T At ct) (hg : w.grownBy w1 (Value.slice Ab P.length cb).ownBlock) (t : Prob) (hl : P.length < 64)
    (hown : w1.ownsRow B 44 2 (.slice A' (P.length + 1) c') (P.length + 1) (P.flatMap probCells ++ probCells t)) : RC B w0 w1 A n c l (P ++ [t]) A' c' T At ct := by
  have ho : Only (fun k => (Value.slice Ab P.length cb).ownBlock = some k) w w1 := Only.of_grown hg (fun k hk => hk)
  have e1 : (P ++ [t]).length = P.length + 1 := by simp
  refine ⟨h.src.only ho h.hB (fun k hk e => by have := (h.bad.lt k e).1; omega), own_only h.tok ho (fun k hk e => own_own h.tok h.bad (by decide) k hk e), ?_, ho.below h.bel h.hB (fun k hk => (h.bad.lt k hk).1), Nat.le_trans h.hB ho.size, by rw [e1]; omega⟩
  have e2 : (P ++ [t]).flatMap probCells = P.flatMap probCells ++ probCells t := by simp
  rw [e1, e2]
  exact hown
end
theorem rtok_post {w w5 : World} {n c cb c1 : Nat} {A Ab A1 : Option Addr} {l : List UInt8} {P : List Prob} {T : List Tok} {m : Nat} (h : RC w.heap.size w w5 A n c l P Ab cb T A1 c1) (hl : lex l = (T, P)) (hm : m = T.length) :
    TokPost l w (.returned (.tuple #[.slice A1 m c1, .slice Ab P.length cb, .int .i64 0])) w5 := by
  subst hm
  refine ⟨A1, Ab, c1, cb, ?_, ?_, ?_, h.bel⟩
  · rw [hl]
  · rw [hl]; exact own_rd h.tok
  · rw [hl]; exact own_rd h.bad

set_option maxHeartbeats 4000000 in
set_option maxRecDepth 100000 in
theorem rtokens_any (A : Option Addr) (n c : Nat) (l : List UInt8) (w : World) (h : Rd w w.heap.size 1 A n c (l.map vb)) (hn : n ≤ 65536) :
    Calls Tryz.prog 13 #[.slice A n c] w (TokPost l w) := by
  have hlen := h.blen
  have hcap := h.cap
  have hbig := h.big
  subst hlen
  go_enter Tryz.func13, Tryz.ntmps13
  have hB0 : Hid (RC w.heap.size w ((w.alloc (.cells #[] 41)).alloc (.cells #[] 44)) A l.length c l [] (some ⟨w.heap.size + 1, 0, none⟩) 0 [] (some ⟨w.heap.size, 0, none⟩) 0) := by
    have k1 := own_new w w.heap.size 41 3 (Nat.le_refl _)
    have k2 := own_new (w.alloc (.cells #[] 41)) w.heap.size 44 2 (by simp)
    have hb2 : Below w.heap.size w ((w.alloc (.cells #[] 41)).alloc (.cells #[] 44)) := ((Below.refl _ w).alloc (Nat.le_refl _) _).alloc (by simp) _
    have e1 : (w.alloc (.cells #[] 41)).heap.size = w.heap.size + 1 := by simp
    rw [e1] at k2
    exact ⟨h.below hb2, own_below_all k1 ((Below.refl _ _).alloc (Nat.le_refl _) _), k2, hb2, hb2.size, by simp⟩
  go_wp2_with (fail)
  generalize ((w.alloc (.cells #[] 41)).alloc (.cells #[] 44)) = w2 at hB0 ⊢
  generalize hA1 : some (⟨w.heap.size + 1, 0, none⟩ : Addr) = A1 at hB0 ⊢
  generalize hA2 : some (⟨w.heap.size, 0, none⟩ : Addr) = A2 at hB0 ⊢
  clear hA1 hA2
  go_loopg [5, 6, 7, 8] l.length (fun gk s5 s6 s7 s8 wr => ∃ (a : Nat) (E : Int) (P : List Prob) (Ab : Option Addr) (cb : Nat) (T : List Tok) (At : Option Addr) (ct : Nat), gk + a = l.length ∧ T.length ≤ a ∧ s5 = .slice At T.length ct ∧ s6 = .slice Ab P.length cb ∧ s7 = .int .i64 (a : Int) ∧ s8 = .int .i64 E ∧ Hid (RC w.heap.size w wr A l.length c l P Ab cb T At ct) ∧ Hid (fin T P E a (items (l.drop a)) = lex l))
  case atStart => exact ⟨0, -1, [], _, 0, [], _, 0, rfl, by simp, rfl, rfl, rfl, rfl, hB0.out, rfl⟩
  case round =>
    obtain ⟨a, E, P, Ab, cb, T, At, ct, hgk, hTa, rfl, rfl, rfl, rfl, HT, HF⟩ := hrel
    have Hgk := Lib.hid hgk
    clear hB0
    have hal : a ≤ l.length := by omega
    go_wp2_with (fail)
    refine (rblank_any _ _ _ l _ a _ HT.out.src hal).mono ?_
    rintro e w' ⟨k, rfl, hsk, hsol, rfl⟩
    have HF2 := Lib.hid ((hsk.2.2 T P E).symm.trans HF.out)
    have hak : a ≤ k := hsk.1
    have hkl : k ≤ l.length := hsk.2.1
    have Hsol := Lib.hid hsol
    clear hsk hsol HF
    by_cases hlt : k < l.length
    · have hsl := Hsol.out hlt
      have hin := next_in hlt
      have hpos := nextItem_pos (l.drop k)
      by_cases hk : (nextItem (l.drop k)).kind = 0
      · have HN := Lib.hid (fin_bad (T := T) (P := P) (E := E) hlt hsl hk)
        have hz : tokOf (nextItem (l.drop k)) k = ⟨0, [], 0⟩ := by simp [tokOf, hk]
        generalize hm : (nextItem (l.drop k)).len = m at *
        have Hz := Lib.hid hz
        have Hm := Lib.hid hm
        clear hk hz hm hsl
        by_cases hE : (k : Int) = E ∨ ¬ P.length < 64
        · have HP := Lib.hid (show probs' P E k = P by unfold probs'; rw [if_neg (by rintro ⟨h1, h2⟩; rcases hE with h | h; exact h1 h; exact h h2)])
          have hor : ((k : Int) != E) = false ∨ (((k : Int) != E) = true ∧ ¬ (P.length : Int) < 64) := by
            by_cases h1 : (k : Int) = E
            · exact .inl (by simp [h1])
            · exact .inr ⟨by simp [h1], by rcases hE with h | h; exact absurd h h1; omega⟩
          clear hE
          rcases hor with e1 | ⟨e1, e2⟩
          all_goals
            go_wp2_with (go_at_call 29; refine (rtok_any A _ _ l k _ (HT.out.src.more HT.out.hB) hlt (by omega)).mono ?_; unfold RRet; rw [Hz.out, Hm.out]; unfold tokVal; rintro e w3 ⟨rfl, hb3⟩)
            go_roundg (l.length - (k + m))
            case measure => have := Hgk.out; omega
            case rel => exact ⟨k + m, _, P, Ab, cb, T, At, ct, by omega, by omega, rfl, rfl, by first | rfl | go_num | exact int_eq (by omega), rfl, (HT.out.below hb3).below ((Below.refl _ _).alloc (Nat.le_refl _) _), by have := HN.out.symm.trans HF2.out; rw [HP.out] at this; exact this⟩
        · have hE1 : ¬ (k : Int) = E := fun e => hE (.inl e)
          have hE2 : P.length < 64 := by rcases Nat.lt_or_ge P.length 64 with h | h; exact h; exact absurd (.inr (by omega)) hE
          have HP := Lib.hid (show probs' P E k = P ++ [⟨(k : Int), 60⟩] by unfold probs'; rw [if_pos ⟨hE1, hE2⟩])
          have e1 : ((k : Int) != E) = true := by simp [hE1]
          clear hE hE1
          go_wp2_with (first
            | (go_at_call 29; refine (rtok_any A _ _ l k _ (HT.out.src.more HT.out.hB) hlt (by omega)).mono ?_; unfold RRet; rw [Hz.out, Hm.out]; unfold tokVal; rintro e w3 ⟨rfl, hb3⟩; have HT3 := Lib.hid ((HT.out.below hb3).below ((Below.refl _ w3).alloc (Nat.le_refl _) (.cells #[.int .i64 0, .string (bs []), .int .i64 0] 41))); have HT4 := Lib.hid (HT3.out.below ((Below.refl _ _).alloc (Nat.le_refl _) (.cells #[.int .i64 (k : Int), .int .i64 60] 44))); have hP3 := own_lt HT3.out.bad)
            | (at_builtin; go_must (refine wpList_push elemProb rfl (.tmp 50) (.tmp 53) rfl w.heap.size Ab P.length cb (P.flatMap probCells) rfl HT4.out.bad (w3.heap.size + 1) rfl [.int .i64 (k : Int), .int .i64 60] rfl (new_cells' _ _ _ (by simp)) (by intro u hu; simp at hu; rcases hu with rfl | rfl <;> rfl) (by omega) (by omega) HT4.out.hB ?_); intro A1 c1 w5 hown5 hb5 hg5; have HT5 := Lib.hid (HT4.out.pushP hg5 ⟨(k : Int), 60⟩ hE2 hown5)))
          go_roundg (l.length - (k + m))
          case measure => have := Hgk.out; omega
          case rel => exact ⟨k + m, _, P ++ [(⟨(k : Int), 60⟩ : Prob)], A1, c1, T, At, ct, by omega, by omega, rfl, slice_eq (by simp), by first | rfl | go_num | exact int_eq (by omega), rfl, HT5.out, by have := HN.out.symm.trans HF2.out; rw [HP.out] at this; exact this⟩
      · have HN := Lib.hid (fin_tok (T := T) (P := P) (E := E) hlt hsl hk)
        have hz : tokOf (nextItem (l.drop k)) k = ⟨((nextItem (l.drop k)).kind : Int), (nextItem (l.drop k)).text, k⟩ := by simp [tokOf, hk]
        have hkb : (((nextItem (l.drop k)).kind : Int) != 0) = true := nnb (by omega)
        generalize hm : (nextItem (l.drop k)).len = m at *
        generalize hkk : (nextItem (l.drop k)).kind = kk at *
        generalize htx : (nextItem (l.drop k)).text = tx at *
        have Hz := Lib.hid hz
        have Hm := Lib.hid hm
        clear hk hz hm hkk htx hsl
        rw [Hz.out] at HN
        go_wp2_with (first
          | (go_at_call 29; refine (rtok_any A _ _ l k _ (HT.out.src.more HT.out.hB) hlt (by omega)).mono ?_; unfold RRet; rw [Hz.out, Hm.out]; unfold tokVal; rintro e w3 ⟨rfl, hb3⟩; have HT3 := Lib.hid ((HT.out.below hb3).below ((Below.refl _ w3).alloc (Nat.le_refl _) (.cells #[.int .i64 (kk : Int), .string (bs tx), .int .i64 (k : Int)] 41))); have HT4 := Lib.hid (HT3.out.below ((Below.refl _ _).alloc (Nat.le_refl _) (.cells #[.int .i64 (kk : Int), .string (bs tx), .int .i64 (k : Int)] 41))))
          | (at_builtin; go_must (refine wpList_push elemTok rfl (.tmp 38) (.tmp 40) rfl w.heap.size At T.length ct (T.flatMap tokCells) rfl HT4.out.tok (w3.heap.size + 1) rfl (tokCells ⟨(kk : Int), tx, (k : Int)⟩) rfl (new_cells' _ _ _ (by simp)) (by intro u hu; simp [tokCells] at hu; rcases hu with rfl | rfl | rfl <;> rfl) (by omega) (by omega) HT4.out.hB ?_); intro A1 c1 w5 hown5 hb5 hg5; have HT5 := Lib.hid (HT4.out.push hg5 ⟨(kk : Int), tx, (k : Int)⟩ hown5)))
        go_roundg (l.length - (k + m))
        case measure => have := Hgk.out; omega
        case rel => exact ⟨k + m, E, P, Ab, cb, T ++ [(⟨(kk : Int), tx, (k : Int)⟩ : Tok)], A1, c1, by omega, by simp; omega, slice_eq (by simp), rfl, by first | rfl | go_num | exact int_eq (by omega), rfl, HT5.out, HN.out.symm.trans HF2.out⟩
    · have hx : k = l.length := by omega
      subst hx
      have HL := Lib.hid (show lex l = (T ++ [⟨5, [], (l.length : Int)⟩], P) by
        rw [← HF2.out, drop_all l l.length (Nat.le_refl _), items_nil]
        rfl)
      have HT2 := Lib.hid (HT.out.below ((Below.refl _ wr).alloc (Nat.le_refl _) (.cells #[.int .i64 5, .string ⟨#[]⟩, .int .i64 (l.length : Int)] 41)))
      go_wp2_with (at_builtin; go_must (refine wpList_push elemTok rfl (.tmp 23) (.tmp 26) rfl w.heap.size At T.length ct (T.flatMap tokCells) rfl HT2.out.tok wr.heap.size rfl [.int .i64 5, .string ⟨#[]⟩, .int .i64 (l.length : Int)] rfl (new_cells _ _ _) (by intro u hu; simp at hu; rcases hu with rfl | rfl | rfl <;> rfl) (by omega) (by omega) HT2.out.hB ?_); intro A1 c1 w5 hown5 hb5 hg5; have HT5 := Lib.hid (HT2.out.push hg5 ⟨5, [], (l.length : Int)⟩ hown5))
      go_ret3
      exact rtok_post HT5.out HL.out (by simp)

set_option maxHeartbeats 400000 in
theorem rtokens_big (A : Option Addr) (n c : Nat) (w : World) (hn : 65536 < n) :
    Calls Tryz.prog 13 #[.slice A n c] w fun e w' => e = .returned (.tuple #[.slice none 0 0, .slice none 0 0, .int .i64 2]) ∧ w = w' := by
  go_enter Tryz.func13, Tryz.ntmps13
  go_wp2
  go_ret3
  exact ⟨rfl, rfl⟩
end Go.Proofs.YtbfgmbijmdbcmaaGreatDoor
