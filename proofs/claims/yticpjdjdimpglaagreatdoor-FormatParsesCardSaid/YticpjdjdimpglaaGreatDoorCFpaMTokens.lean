/- lexis.Tokens by its contract. -/
import Derived.Test.YticpjdjdimpglaaGreatDoorCFpaMInvalid
import Derived.Test.YticpjdjdimpglaaGreatDoorCFpaMNextNum
import Derived.Test.YticpjdjdimpglaaGreatDoorCFpaMNextSign
import Derived.Test.YticpjdjdimpglaaGreatDoorCFpaMNextQuote
import Derived.Test.YticpjdjdimpglaaGreatDoorCFpaMNextOther
namespace Go.Proofs.YticpjdjdimpglaaGreatDoor
set_option linter.unusedVariables false
set_option linter.unusedSimpArgs false
open Go.RowKit
theorem next_any (g : Nat) (A : Option Addr) (n c : Nat) (l : List UInt8) (a : Nat) (w : World) (h : Scn w g A n c l a) (ha : a < n) (hn : n ≤ 70000) :
    Calls Tryz.prog 168 #[.pointer (some ⟨g, 0, none⟩)] w (NRet (nextItem (l.drop a)) a w) := by
  by_cases h1 : isLetter (bt l a) = true
  · exact next_letter g A n c l a w h ha hn h1
  · by_cases h2 : NumAt l a
    · exact next_num g A n c l a w h ha hn h2
    · by_cases h3 : isSignC (bt l a) = true
      · by_cases h4 : (bt l a = 60 ∨ bt l a = 62) ∧ bt l (a + 1) = 61
        · have h5 : a + 1 < n := by
            have hl := h.blen
            rcases Nat.lt_or_ge (a + 1) l.length with h | h
            · omega
            · rw [bt_out l (a + 1) h] at h4; omega
          exact next_sign2 g A n c l a w h ha hn h5 h4.1 h4.2
        · exact next_sign1 g A n c l a w h ha hn h3 h4
      · by_cases h4 : bt l a = 34
        · exact next_quote g A n c l a w h ha hn h4
        · exact next_other g A n c l a w h ha hn (by simpa using h1) h2 (by simpa using h3) h4
theorem build_scn (A : Option Addr) (n c : Nat) (w : World) : (Instr.build 205 #[(0, .slice A n c), (2, .agg (mk cls))]).run Tryz.prog w = .ok (.agg (scnCells A n c 0)) w := by kernel_rfl
theorem wpList_build2 {P : Program} {ops : Array Oper} {rest : List Oper} {o : Oper} {a : Act} {w : World} {Q : Exit → Act → World → Prop} (hgd : o.guard = none) (t : TypeId) (i j : Nat) (x y : Operand) (ho : o.op = .build t #[(i, x), (j, y)]) (u v : Value)
    (hx : a.eval x = u) (hy : a.eval y = v) (r : Value) (hr : (Instr.build t #[(i, u), (j, v)]).run P w = .ok r w) (h : wpList P ops Q rest (a.put o.dst r) w) : wpList P ops Q (o :: rest) a w := by
  refine wpList_by hgd (v := r) (w' := w) ?_ h
  unfold execOp
  simp only [ho, List.map_toArray, List.map_cons, List.map_nil, hx, hy, Sem.run_bind, hr]
  rfl
theorem own_own {w : World} {B B' : Nat} {e e' : TypeId} {s s' n n' : Nat} {v v' : Value} {xs xs' : List Value} (h : w.ownsRow B e s v n xs) (h' : w.ownsRow B' e' s' v' n' xs') (hne : e ≠ e') : ∀ k, v.ownBlock = some k → v'.ownBlock = some k → False := by
  intro k hk hk'
  rcases h'.2 with ⟨rfl, _⟩ | ⟨g', cap, cur, rfl, hg, hgg, rest⟩
  · simp [Value.ownBlock] at hk'
  · simp [Value.ownBlock] at hk'
    subst hk'
    exact own_ne h (t := e') (cs := cur) hgg hne g' hk rfl
/-- The whole state at the head of a round. -/
structure TC (B : Nat) (w0 w : World) (Pb Ps g Pe : Nat) (A : Option Addr) (n c : Nat) (l : List UInt8) (a : Nat) (E : Int) (P : List Prob) (Ab : Option Addr) (cb : Nat) (T : List Tok) (At : Option Addr) (ct : Nat) : Prop where
  st : TSt B w Pb Ps g Pe A n c l a E P Ab cb
  tok : w.ownsRow B 171 3 (.slice At T.length ct) T.length (T.flatMap tokCells)
  bel : Below B w0 w
  pl : P.length ≤ 64
section
variable {B : Nat} {w0 w W w1 : World} {Pb Ps g Pe n c a cb ct c' : Nat} {A Ab At A' : Option Addr} {l : List UInt8} {E : Int} {P : List Prob} {T : List Tok}
theorem TC.below (h : TC B w0 w Pb Ps g Pe A n c l a E P Ab cb T At ct) (hb : Below w.heap.size w W) : TC B w0 W Pb Ps g Pe A n c l a E P Ab cb T At ct :=
  ⟨h.st.below hb, own_below_all h.tok hb, h.bel.trans (hb.mono h.st.hB), h.pl⟩
theorem TC.move (h : TC B w0 w Pb Ps g Pe A n c l a E P Ab cb T At ct) (b : Nat) : TC B w0 (w.setCell ⟨g, 1, none⟩ (.int .i64 (b : Int))) Pb Ps g Pe A n c l b E P Ab cb T At ct :=
  ⟨h.st.move b, own_setCell h.tok (fun k hk => own_ne h.tok h.st.scn.blk (by decide) k hk) _, h.bel.setCell h.st.lg _, h.pl⟩
theorem TC.moveTo (h : TC B w0 w Pb Ps g Pe A n c l a E P Ab cb T At ct) (b : Nat) {v : Int} (hv : v = (b : Int)) : TC B w0 (w.setCell ⟨g, 1, none⟩ (.int .i64 v)) Pb Ps g Pe A n c l b E P Ab cb T At ct := by
  subst hv
  exact h.move b
theorem tok_ne (h : TC B w0 w Pb Ps g Pe A n c l a E P Ab cb T At ct) : ∀ k, (Value.slice At T.length ct).ownBlock = some k → k ≠ Pb ∧ k ≠ Ps ∧ k ≠ g ∧ k ≠ Pe := fun k hk =>
  ⟨own_ne h.tok h.st.bad (by decide) k hk, own_ne h.tok h.st.sv (by decide) k hk, own_ne h.tok h.st.scn.blk (by decide) k hk, own_ne h.tok h.st.endv (by decide) k hk⟩
theorem TC.inv (h : TC B w0 w Pb Ps g Pe A n c l a E P Ab cb T At ct) {te : Int} {P' : List Prob} {Ab' : Option Addr} {cb' : Nat} (hs : TSt B W Pb Ps g Pe A n c l a te P' Ab' cb') (ho : Only (fun k => k = Pb ∨ k = Pe ∨ (Value.slice Ab P.length cb).ownBlock = some k) w W) (hp : P'.length ≤ 64) : TC B w0 W Pb Ps g Pe A n c l a te P' Ab' cb' T At ct :=
  ⟨hs, own_only h.tok ho (fun k hk => by
    rintro (e | e | e)
    · exact (tok_ne h k hk).1 e
    · exact (tok_ne h k hk).2.2.2 e
    · exact own_own h.tok h.st.row (by decide) k hk e), ho.below h.bel h.st.hB (fun k hk => by
    rcases hk with e | e | e
    · rw [e]; exact h.st.lb
    · rw [e]; exact h.st.le
    · exact (h.st.row.lt k e).1), hp⟩
theorem TC.push (h : TC B w0 w Pb Ps g Pe A n c l a E P Ab cb T At ct) (hb : Below w.heap.size w W) (hg : W.grownBy w1 (Value.slice At T.length ct).ownBlock) (t : Tok)
    (hown : w1.ownsRow B 171 3 (.slice A' (T.length + 1) c') (T.length + 1) (T.flatMap tokCells ++ tokCells t)) : TC B w0 w1 Pb Ps g Pe A n c l a E P Ab cb (T ++ [t]) A' c' := by
  have hW := h.below hb
  have ho : Only (fun k => (Value.slice At T.length ct).ownBlock = some k) W w1 := Only.of_grown hg (fun k hk => hk)
  refine ⟨hW.st.only ho (fun e => (tok_ne hW _ e).1 rfl) (fun e => (tok_ne hW _ e).2.1 rfl) (fun e => (tok_ne hW _ e).2.2.1 rfl) (fun e => (tok_ne hW _ e).2.2.2 rfl) (fun k hk e => own_own hW.tok hW.st.row (by decide) k e hk) (fun k hk => (hW.tok.lt k hk).1), ?_, ho.below hW.bel hW.st.hB (fun k hk => (hW.tok.lt k hk).1), h.pl⟩
  have e1 : (T ++ [t]).length = T.length + 1 := by simp
  have e2 : (T ++ [t]).flatMap tokCells = T.flatMap tokCells ++ tokCells t := by simp
  rw [e1, e2]
  exact hown
end
theorem probs_le {P : List Prob} {E : Int} {a : Nat} (h : P.length ≤ 64) : (probs' P E a).length ≤ 64 := by
  unfold probs'
  split
  · simp; omega
  · exact h
/-- A step to a solid byte's token or invalid bytes. -/
theorem fin_tok {l : List UInt8} {a : Nat} {T : List Tok} {P : List Prob} {E : Int} (ha : a < l.length) (hs : Solid (bt l a)) (hk : ¬ (nextItem (l.drop a)).kind = 0) :
    fin T P E a (items (l.drop a)) = fin (T ++ [tokOf (nextItem (l.drop a)) a]) P E (a + (nextItem (l.drop a)).len) (items (l.drop (a + (nextItem (l.drop a)).len))) := by
  rw [items_cons _ (drop_ne l a ha), step_solid l a ha hs]
  simp only [fin, nextItem_kind, if_false, hk, List.drop_drop, tokOf]
theorem fin_bad {l : List UInt8} {a : Nat} {T : List Tok} {P : List Prob} {E : Int} (ha : a < l.length) (hs : Solid (bt l a)) (hk : (nextItem (l.drop a)).kind = 0) :
    fin T P E a (items (l.drop a)) = fin T (probs' P E a) ((a + (nextItem (l.drop a)).len : Nat) : Int) (a + (nextItem (l.drop a)).len) (items (l.drop (a + (nextItem (l.drop a)).len))) := by
  rw [items_cons _ (drop_ne l a ha), step_solid l a ha hs]
  simp only [fin, hk, if_true, List.drop_drop, probs']
  simp
theorem tc_start (w w1 : World) (A : Option Addr) (n c : Nat) (l : List UInt8) (h : Rd w w.heap.size 1 A n c (l.map vb))
    (hb1 : Below (w.alloc (.cells #[.slice none 0 0] 162)).heap.size (w.alloc (.cells #[.slice none 0 0] 162)) w1) :
    TC w.heap.size w (((w1.alloc (.cells (scnCells A n c 0) 205)).alloc (.cells #[.pointer (some ⟨w1.heap.size, 0, none⟩)] 203)).alloc (.cells #[.int .i64 (-1)] 3)) w.heap.size (w1.heap.size + 1) w1.heap.size (w1.heap.size + 1 + 1) A n c l 0 (-1) [] none 0 [] none 0 := by
  have hs : w.heap.size + 1 ≤ w1.heap.size := by have := hb1.size; simpa using this
  have hb0 : Below w.heap.size w w1 := ((Below.refl w.heap.size w).alloc (Nat.le_refl _) _).trans (hb1.mono (by simp))
  have k1 := (Blk.new w 162 #[.slice none 0 0]).below hb1 (by simp)
  have k2 := Blk.new w1 205 (scnCells A n c 0)
  have k3 := Blk.new (w1.alloc (.cells (scnCells A n c 0) 205)) 203 #[.pointer (some ⟨w1.heap.size, 0, none⟩)]
  have k4 := Blk.new ((w1.alloc (.cells (scnCells A n c 0) 205)).alloc (.cells #[.pointer (some ⟨w1.heap.size, 0, none⟩)] 203)) 3 #[.int .i64 (-1)]
  have hbl : Below w.heap.size w (((w1.alloc (.cells (scnCells A n c 0) 205)).alloc (.cells #[.pointer (some ⟨w1.heap.size, 0, none⟩)] 203)).alloc (.cells #[.int .i64 (-1)] 3)) :=
    ((hb0.alloc (by omega) _).alloc (by simp; omega) _).alloc (by simp; omega) _
  have hr := h.below hbl
  have e1 : (w1.alloc (.cells (scnCells A n c 0) 205)).heap.size = w1.heap.size + 1 := by simp
  have e2 : ((w1.alloc (.cells (scnCells A n c 0) 205)).alloc (.cells #[.pointer (some ⟨w1.heap.size, 0, none⟩)] 203)).heap.size = w1.heap.size + 1 + 1 := by simp
  rw [e1] at k3
  rw [e2] at k4
  exact ⟨⟨((k1.alloc _).alloc _).alloc _, World.ownsRow_nil _ _ _ _, k3.alloc _, ⟨(k2.alloc _).alloc _, hr.more (by omega)⟩, hr, k4, Nat.le_refl _, by omega, by omega, by omega⟩, World.ownsRow_nil _ _ _ _, hbl, by simp⟩
theorem new_cells' (w : World) (cs : List Value) (t : TypeId) {g : Nat} (hg : g = w.heap.size) : ∀ j u, cs[j]? = some u → (w.alloc (.cells cs.toArray t)).cell? ⟨g, j, none⟩ = some u := by
  subst hg
  exact new_cells w cs t
/-- .. with the rows' blocks: the call's own. -/
def TokPost2 (l : List UInt8) (w : World) (e : Ending) (w' : World) : Prop := ∃ (A1 A2 : Option Addr) (c1 c2 : Nat),
  e = .returned (.tuple #[.slice A1 (lex l).1.length c1, .slice A2 (lex l).2.length c2, .int .i64 0]) ∧ w'.ownsRow w.heap.size 171 3 (.slice A1 (lex l).1.length c1) (lex l).1.length ((lex l).1.flatMap tokCells) ∧
  w'.ownsRow w.heap.size 166 2 (.slice A2 (lex l).2.length c2) (lex l).2.length ((lex l).2.flatMap probCells) ∧ Below w.heap.size w w'
theorem tok_post {w w5 : World} {Pb Ps g Pe n c a cb c1 : Nat} {A Ab A1 : Option Addr} {l : List UInt8} {E : Int} {P : List Prob} {T : List Tok} {m : Nat} (h : TC w.heap.size w w5 Pb Ps g Pe A n c l a E P Ab cb T A1 c1) (hl : lex l = (T, P)) (hm : m = T.length) :
    TokPost2 l w (.returned (.tuple #[.slice A1 m c1, .slice Ab P.length cb, .int .i64 0])) (w5.setCell ⟨Pb, 0, none⟩ (.slice Ab P.length cb)) := by
  subst hm
  have h1 := own_setCell h.tok (p := ⟨Pb, 0, none⟩) (fun k hk => (tok_ne h k hk).1) (.slice Ab P.length cb)
  have h2 := own_setCell h.st.row (p := ⟨Pb, 0, none⟩) (fun k hk => (row_ne h.st k hk).1) (.slice Ab P.length cb)
  refine ⟨A1, Ab, c1, cb, ?_, ?_, ?_, h.bel.setCell h.st.lb _⟩
  · rw [hl]
  · rw [hl]; exact h1
  · rw [hl]; exact h2
set_option maxHeartbeats 4000000 in
set_option maxRecDepth 100000 in
theorem tokens_own (A : Option Addr) (n c : Nat) (l : List UInt8) (w : World) (h : Rd w w.heap.size 1 A n c (l.map vb)) (hn : n ≤ 65536) :
    Calls Tryz.prog 128 #[.slice A n c] w (TokPost2 l w) := by
  have hlen := h.blen
  have hcap := h.cap
  have hbig := h.big
  subst hlen
  go_enter Tryz.func128, Tryz.ntmps128
  go_wp2
  go_step3
  go_wp2_with (first
    | (go_at_call 144; refine (classes_any _).mono ?_; rintro e w1 ⟨rfl, hb1⟩)
    | refine wpList_build2 rfl 205 0 2 (.tmp 13) (.tmp 14) rfl (.slice A l.length c) (.agg (mk cls)) rfl rfl _ (build_scn A l.length c _) ?_
    | refine wpList_box_row rfl 205 (.tmp 15) rfl (scnCells A l.length c 0) rfl ?_)
  go_step3
  go_wp2
  have HC : TC w.heap.size w (((w1.alloc (.cells (scnCells A l.length c 0) 205)).alloc (.cells #[.pointer (some ⟨w1.heap.size, 0, none⟩)] 203)).alloc (.cells #[.int .i64 (-1)] 3)) w.heap.size (w1.heap.size + 1) w1.heap.size (w1.heap.size + 1 + 1) A l.length c l 0 (-1) [] none 0 [] none 0 := tc_start w w1 A l.length c l h hb1
  generalize (((w1.alloc (.cells (scnCells A l.length c 0) 205)).alloc (.cells #[.pointer (some ⟨w1.heap.size, 0, none⟩)] 203)).alloc (.cells #[.int .i64 (-1)] 3)) = w2 at HC ⊢
  generalize w1.heap.size + 1 + 1 = Pe at HC ⊢
  generalize w1.heap.size + 1 = Ps at HC ⊢
  generalize w1.heap.size = g at HC ⊢
  clear hb1
  generalize hB : w.heap.size = B at HC ⊢
  have HBh := Lib.hid hB
  clear hB
  have HCh := Lib.hid HC
  clear HC h
  go_loopg [2] l.length (fun gk s2 wr => ∃ (a : Nat) (E : Int) (P : List Prob) (Ab : Option Addr) (cb : Nat) (T : List Tok) (At : Option Addr) (ct : Nat), gk + a = l.length ∧ T.length ≤ a ∧ s2 = .slice At T.length ct ∧ Hid (TC B w wr B Ps g Pe A l.length c l a E P Ab cb T At ct) ∧ Hid (fin T P E a (items (l.drop a)) = lex l))
  case atStart => exact ⟨0, -1, [], none, 0, [], none, 0, rfl, by simp, rfl, HCh.out, rfl⟩
  case round =>
    obtain ⟨a, E, P, Ab, cb, T, At, ct, hgk, hTa, rfl, HT, HF⟩ := hrel
    have hal : a ≤ l.length := by omega
    have Hgk := Lib.hid hgk
    clear hgk HCh
    have x1 : wr.cell? ⟨Ps, 0, none⟩ = some (.pointer (some ⟨g, 0, none⟩)) := HT.out.st.sv.cell 0
    have x2 := HT.out.st.scn.pos
    have x3 := HT.out.st.scn.src
    have x4 := HT.out.st.scn.free 1
    by_cases hlt : a < l.length
    · obtain ⟨b, off, rfl, hb, hc⟩ := HT.out.st.src.byte (k := a) hlt
      have hclt := cls_lt (bt l a)
      by_cases hbl : isBlankC (bt l a) = true
      · have e1 : clsAt l a = 1 := (clsAt_in hlt).trans (cls_blank.2 hbl)
        have HS := Lib.hid (skips_blank l a hlt hbl)
        clear hbl
        go_wp2
        go_quiet ((go_at_call 167; exact Calls.quiet_of (class_any g _ _ _ l a _ _ (HT.out.st.scn.drewN _) (by omega) (by omega))))
        go_wp2
        go_roundg (l.length - (a + 1))
        case measure => have := Hgk.out; omega
        case rel => exact ⟨a + 1, E, P, Ab, cb, T, At, ct, by omega, by omega, rfl, (HT.out.below (below_drewNg wr _)).moveTo (a + 1) (by omega), (HS.out.2.2 T P E).symm.trans HF.out⟩
      · have e1 : ((clsAt l a : Int) == 1) = false := nb (by rw [clsAt_in hlt]; intro e; exact hbl (cls_blank.1 (by omega)))
        have hnb : isBlankC (bt l a) = false := by simpa using hbl
        by_cases h35 : bt l a = 35
        · have e2 := yb (a := bt l a) (m := 35) (by omega)
          have Hnb := Lib.hid hnb
          have H35 := Lib.hid h35
          clear hbl hnb h35
          go_wp2
          go_quiet ((go_at_call 167; exact Calls.quiet_of (class_any g _ _ _ l a _ _ (HT.out.st.scn.drewN _) (by omega) (by omega))))
          go_wp2
          have HT2 := Lib.hid (HT.out.below (below_drewNg wr nq))
          clear x1 x2 x3 x4 hc
          generalize wr.drewN nq = wo at HT2 ⊢
          go_loopg [49] (l.length - a) (fun g2 _ wi => ∃ j : Nat, g2 + j = l.length ∧ a ≤ j ∧ Hid (TC B w wi B Ps g Pe (some ⟨b, off, none⟩) l.length c l j E P Ab cb T At ct) ∧ Hid (∀ q, a ≤ q → q < j → ¬ bt l q = 10))
          case atStart => exact ⟨a, by omega, Nat.le_refl _, HT2.out, fun q h1 h2 => absurd h1 (by omega)⟩
          case round =>
            obtain ⟨j, hgj, haj, HTj, Hj⟩ := hrel
            have Hgj := Lib.hid hgj
            have hjl : j ≤ l.length := by omega
            clear hgj HT2
            have x1 : wr.cell? ⟨Ps, 0, none⟩ = some (.pointer (some ⟨g, 0, none⟩)) := HTj.out.st.sv.cell 0
            have x2 := HTj.out.st.scn.pos
            have x4 := HTj.out.st.scn.free 1
            by_cases hjlt : j < l.length
            · obtain ⟨b', off', he, hb', hcj⟩ := HTj.out.st.src.byte (k := j) hjlt
              injection he with he
              injection he with he1 he2
              subst he1 he2
              by_cases h10 : bt l j = 10
              · have e3 := ynb (a := bt l j) (m := 10) (by omega)
                have haj2 : a < j := by
                  rcases Nat.lt_or_ge a j with h3 | h3
                  · exact h3
                  · have h4 := H35.out; rw [show j = a from by omega] at h10; omega
                have HS := Lib.hid (skips_line l a j hlt haj hjl Hnb.out H35.out Hj.out (.inr h10))
                clear h10
                go_wp2
                go_roundg (l.length - j)
                case measure => have := Hgk.out; omega
                case rel => exact ⟨j, E, P, Ab, cb, T, At, ct, by omega, by omega, rfl, HTj.out, (HS.out.2.2 T P E).symm.trans HF.out⟩
              · have e3 := nnb (a := bt l j) (m := 10) (by omega)
                have Hn := Lib.hid (show ∀ q, a ≤ q → q < j + 1 → ¬ bt l q = 10 from fun q h1 h2 => by
                  rcases Nat.lt_or_ge q j with h3 | h3
                  · exact Hj.out q h1 h3
                  · rw [show q = j from by omega]; exact h10)
                clear h10
                go_wp2
                go_roundg (l.length - (j + 1))
                case measure => have := Hgj.out; omega
                case rel => exact ⟨j + 1, by omega, by omega, HTj.out.moveTo (j + 1) (by omega), Hn.out⟩
            · have HS := Lib.hid (skips_line l a j hlt haj hjl Hnb.out H35.out Hj.out (.inl (by omega)))
              go_wp2
              go_roundg (l.length - j)
              case measure => have := Hgk.out; omega
              case rel => exact ⟨j, E, P, Ab, cb, T, At, ct, by omega, by omega, rfl, HTj.out, (HS.out.2.2 T P E).symm.trans HF.out⟩
        · have e2 := nb (a := bt l a) (m := 35) (by omega)
          have Hsol := Lib.hid (show Solid (bt l a) from ⟨hnb, h35⟩)
          have hin := next_in hlt
          have hpos := nextItem_pos (l.drop a)
          clear hbl hnb h35
          by_cases hk : (nextItem (l.drop a)).kind = 0
          · have HN := Lib.hid (fin_bad (T := T) (P := P) (E := E) hlt Hsol.out hk)
            have HP := probs_le (P := P) (E := E) (a := a) HT.out.pl
            have hz : tokOf (nextItem (l.drop a)) a = ⟨0, [], 0⟩ := by simp [tokOf, hk]
            generalize hm : (nextItem (l.drop a)).len = m at *
            have Hz := Lib.hid hz
            have Hm := Lib.hid hm
            clear hk hz hm
            go_wp2
            go_quiet ((go_at_call 167; exact Calls.quiet_of (class_any g _ _ _ l a _ _ (HT.out.st.scn.drewN _) (by omega) (by omega))))
            go_wp2_with (go_at_call 168; refine (next_any g _ _ _ l a _ (HT.out.st.scn.drewN _) hlt (by omega)).mono ?_; unfold NRet; rw [Hz.out, Hm.out]; unfold tokVal; rintro e w3 ⟨rfl, hb3⟩)
            have HT3 := Lib.hid ((HT.out.below (below_drewNg wr nq)).below hb3)
            clear x1 x2 x3 x4 hc
            refine (invalid_any B B Ps g Pe _ _ _ l a E P Ab cb _ _ (HT3.out.below (by go_grown; try exact Below.refl _ _)).st HT.out.pl).mono ?_
            rintro e w4 ⟨rfl, Ab', cb', hs4, ho4⟩
            have HT4 := Lib.hid (TC.inv (HT3.out.below (by go_grown; try exact Below.refl _ _)) hs4 ho4 HP)
            clear hs4 ho4 hb3
            have x1 : w4.cell? ⟨Ps, 0, none⟩ = some (.pointer (some ⟨g, 0, none⟩)) := HT4.out.st.sv.cell 0
            have x2 := HT4.out.st.scn.pos
            have x4 := HT4.out.st.scn.free 1
            go_wp2
            go_roundg (l.length - (a + m))
            case measure => have := Hgk.out; omega
            case rel => exact ⟨a + m, _, probs' P E a, Ab', cb', T, At, ct, by omega, by omega, rfl, HT4.out.moveTo (a + m) rfl, (HN.out.symm.trans HF.out)⟩
          · have HN := Lib.hid (fin_tok (T := T) (P := P) (E := E) hlt Hsol.out hk)
            have hz : tokOf (nextItem (l.drop a)) a = ⟨((nextItem (l.drop a)).kind : Int), (nextItem (l.drop a)).text, a⟩ := by simp [tokOf, hk]
            have hkb : (((nextItem (l.drop a)).kind : Int) == 0) = false := nb (by omega)
            generalize hm : (nextItem (l.drop a)).len = m at *
            generalize hkk : (nextItem (l.drop a)).kind = kk at *
            generalize htx : (nextItem (l.drop a)).text = tx at *
            have Hz := Lib.hid hz
            have Hm := Lib.hid hm
            clear hk hz hm hkk htx
            rw [Hz.out] at HN
            go_wp2
            go_quiet ((go_at_call 167; exact Calls.quiet_of (class_any g _ _ _ l a _ _ (HT.out.st.scn.drewN _) (by omega) (by omega))))
            have HT2 := Lib.hid (HT.out.below (below_drewNg wr nq))
            go_wp2_with (first
              | (go_at_call 168; refine (next_any g _ _ _ l a _ (HT.out.st.scn.drewN _) hlt (by omega)).mono ?_; unfold NRet; rw [Hz.out, Hm.out]; unfold tokVal; rintro e w3 ⟨rfl, hb3⟩)
              | (at_builtin; go_must (refine wpList_push elemTok rfl (.tmp 84) (.tmp 86) rfl B At T.length ct (T.flatMap tokCells) rfl ((HT2.out.below hb3).below (by go_grown; try exact Below.refl _ _)).tok (w3.heap.size + 1) rfl (tokCells ⟨(kk : Int), tx, (a : Int)⟩) rfl (new_cells' _ _ _ (by simp)) (by intro u hu; simp [tokCells] at hu; rcases hu with rfl | rfl | rfl <;> rfl) (by omega) (by omega) ((HT2.out.below hb3).below (by go_grown; try exact Below.refl _ _)).st.hB ?_); intro A1 c1 w5 hown5 hb5 hg5; have HT5 := Lib.hid ((HT2.out.below hb3).push (by go_grown; try exact Below.refl _ _) hg5 ⟨(kk : Int), tx, (a : Int)⟩ hown5); have y1 : w5.cell? ⟨Ps, 0, none⟩ = some (.pointer (some ⟨g, 0, none⟩)) := HT5.out.st.sv.cell 0; have y2 := HT5.out.st.scn.pos; have y4 := HT5.out.st.scn.free 1))
            go_roundg (l.length - (a + m))
            case measure => have := Hgk.out; omega
            case rel => exact ⟨a + m, E, P, Ab, cb, T ++ [(⟨(kk : Int), tx, (a : Int)⟩ : Tok)], A1, c1, by omega, by simp; omega, slice_eq (by simp), HT5.out.moveTo (a + m) (v := (a : Int) + (m : Int)) (by omega), (HN.out.symm.trans HF.out)⟩
    · have hx : a = l.length := by omega
      have HL := Lib.hid (show lex l = (T ++ [⟨5, [], (a : Int)⟩], P) by
        rw [← HF.out, hx, drop_all l l.length (Nat.le_refl _), items_nil]
        rfl)
      have hax : (a : Int) = (l.length : Int) := by omega
      have Hax := Lib.hid hax
      clear hx hax
      have x5 : wr.cell? ⟨B, 0, none⟩ = some (.slice Ab P.length cb) := HT.out.st.bad.cell 0
      have x6 := HT.out.st.bad.frozen 0
      have x7 := HT.out.st.bad.lt
      go_wp2
      go_region_law (refine step_push elemTok rfl (.tmp 92) (.tmp 96) rfl B At T.length ct (T.flatMap tokCells) (by simp [Act.eval, Act.put]) (HT.out.below (by go_grown; try exact Below.refl _ _)).tok wr.heap.size (by simp [Act.eval, Act.put]) [.int .i64 5, .string ⟨#[]⟩, .int .i64 (l.length : Int)] rfl (by intro j u hj; exact new_cells _ _ _ j u hj) (by intro u hu; simp at hu; rcases hu with rfl | rfl | rfl <;> rfl) (by omega) (by omega) (HT.out.below (by go_grown; try exact Below.refl _ _)).st.hB ?_; intro A1 c1 w5 hown5 hb5 hg5; have HT5 := Lib.hid (HT.out.push (by go_grown; try exact Below.refl _ _) hg5 ⟨5, [], (l.length : Int)⟩ hown5); have y5 : w5.cell? ⟨B, 0, none⟩ = some (.slice Ab P.length cb) := HT5.out.st.bad.cell 0; have y6 := HT5.out.st.bad.frozen 0)
      all_goals
        clear x1 x2 x3 x4 x5 x6
        go_wp2
        try rw [Exit.noGoto_ret]
        refine bodyPost_ret (v := .tuple #[.slice A1 (T.length + 1) c1, .slice Ab P.length cb, .int .i64 0]) (by simp [results, Tryz.results128, go_sem, y5, y6]) rfl ?_
        have hT5 := HT5.out
        have hL5 := HL.out
        rw [Hax.out] at hL5
        rw [← HBh.out] at hT5 ⊢
        exact tok_post hT5 hL5 (by simp)
end Go.Proofs.YticpjdjdimpglaaGreatDoor
