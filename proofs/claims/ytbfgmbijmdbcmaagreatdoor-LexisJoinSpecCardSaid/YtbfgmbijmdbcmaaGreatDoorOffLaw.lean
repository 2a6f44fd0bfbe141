/- LexisOffsets: the walk of the law. -/
import Derived.Test.YtbfgmbijmdbcmaaGreatDoorSane
import Derived.Test.YtbfgmbijmdbcmaaGreatDoorOffPlain
import Derived.Maps.Own
import Derived.BigQuiet
import Derived.Maps.Views
namespace Go.Proofs.YtbfgmbijmdbcmaaGreatDoor
set_option linter.unusedVariables false
set_option linter.unusedSimpArgs false
open Go.RowKit Go.WideAt Go.Maps Go.ChangeMaps

theorem inv_at {l : List UInt8} {T : List Tok} {P : List Prob} (h : Inv l T P l.length) (k : Nat) (hk : k < T.length) : ∃ t t2 : Tok, ∃ a : Nat, t ∈ T ∧ (T ++ [⟨5, [], l.length⟩])[k]? = some t ∧ (T ++ [⟨5, [], l.length⟩])[k + 1]? = some t2 ∧
    t.at_ = a ∧ a < l.length ∧ (a : Int) < t2.at_ ∧ t.kind ≠ 5 ∧ (t.kind = 3 → bt l a = 34) ∧ (t.kind ≠ 3 → 0 < t.text.length ∧ a + t.text.length ≤ l.length ∧ (l.drop a).take t.text.length = t.text) := by
  obtain ⟨a, h1, h2, h3, h4, h5⟩ := (h.tok T[k] (List.getElem_mem hk)).1
  have hp : (T ++ [(⟨5, [], l.length⟩ : Tok)]).Pairwise fun x y => x.at_ < y.at_ := by
    rw [List.pairwise_append]
    refine ⟨h.tinc, List.pairwise_singleton _ _, fun x hx y hy => ?_⟩
    obtain rfl := List.mem_singleton.1 hy
    exact (h.tok x hx).2
  have hl : k + 1 < (T ++ [(⟨5, [], l.length⟩ : Tok)]).length := by simp; omega
  refine ⟨T[k], (T ++ [(⟨5, [], l.length⟩ : Tok)])[k + 1], a, List.getElem_mem hk, ?_, List.getElem?_eq_getElem hl, h1, h2, ?_, h3, h4, h5⟩
  · rw [List.getElem?_append_left hk, List.getElem?_eq_getElem hk]
  · have := List.pairwise_iff_getElem.1 hp k (k + 1) (by omega) hl (by omega)
    rw [List.getElem_append_left hk, h1] at this
    exact this
theorem inv_last (T : List Tok) (n : Nat) : (T ++ [(⟨5, [], n⟩ : Tok)])[T.length]? = some ⟨5, [], n⟩ := by simp
theorem inv_prob {l : List UInt8} {T : List Tok} {P : List Prob} (h : Inv l T P l.length) (k : Nat) (hk : k < P.length) : ∃ p : Prob, P[k]? = some p ∧ p.code = 60 ∧ 0 ≤ p.at_ ∧ p.at_ < l.length ∧ (∀ t ∈ T, t.at_ ≠ p.at_) ∧
    (0 < k → ∃ p0 : Prob, P[k - 1]? = some p0 ∧ p0.at_ < p.at_) := by
  obtain ⟨h1, h2, h3, _⟩ := h.prob P[k] (List.getElem_mem hk)
  refine ⟨P[k], List.getElem?_eq_getElem hk, h1, h2, h3, fun t ht => h.dis t ht _ (List.getElem_mem hk), fun h0 => ⟨P[k - 1], List.getElem?_eq_getElem (by omega), ?_⟩⟩
  exact List.pairwise_iff_getElem.1 h.pinc (k - 1) k (by omega) hk (by omega)

theorem plain_false {t : TypeId} {v : Value} {ps : List MemPlace} (ht : Tryz.prog.underlying t = some .bool) (h : plainElem Tryz.prog t v = some ((.lit (.bool false) : DataW Unit), ps)) : v = .bool false := by
  cases v <;> simp [plainElem, ht] at h
  simp [h.1]
theorem owns_heap {w w' : World} {k : TypeId} {R : Value → Option (DataW Unit × List MemPlace)} {b n : Nat} {D : DataW Unit} (h : w.ownsMap Tryz.prog k R b n D) (e : w'.heap = w.heap) : w'.ownsMap Tryz.prog k R b n D := by
  unfold World.ownsMap at h ⊢
  rw [e]
  exact h
theorem Rd.heap {w w' : World} {B size n c : Nat} {A : Option Addr} {xs : List Value} (h : Rd w B size A n c xs) (e : w'.heap = w.heap) : Rd w' B size A n c xs :=
  h.keep fun p _ => World.cell?_of_block (by rw [e])
theorem Rd.tokAt {w : World} {B b off n c : Nat} {T : List Tok} {k : Nat} {t : Tok} (h : Rd w B 3 (some ⟨b, off, none⟩) n c (T.flatMap tokCells)) (ht : T[k]? = some t) : b < B ∧ w.cell? ⟨b, off + k * 3, none⟩ = some (.int .i64 t.kind) ∧ w.cell? ⟨b, off + k * 3 + 1, none⟩ = some (.string (bs t.text)) ∧ w.cell? ⟨b, off + k * 3 + 2, none⟩ = some (.int .i64 t.at_) := by
  have hk : k < n := by
    have := h.tlen
    rcases Nat.lt_or_ge k T.length with h1 | h1
    · omega
    · rw [List.getElem?_eq_none h1] at ht; cases ht
  obtain ⟨b', off', t', e, hb, g0, g1, g2, g3⟩ := h.tok hk
  obtain ⟨e1, e2⟩ : b = b' ∧ off = off' := by simpa using e
  subst e1 e2
  rw [ht] at g0
  obtain rfl := Option.some.inj g0
  exact ⟨hb, g1, g2, g3⟩
theorem Rd.probAt {w : World} {B b off n c : Nat} {T : List Prob} {k : Nat} {t : Prob} (h : Rd w B 2 (some ⟨b, off, none⟩) n c (T.flatMap probCells)) (ht : T[k]? = some t) : b < B ∧ w.cell? ⟨b, off + k * 2, none⟩ = some (.int .i64 t.at_) ∧ w.cell? ⟨b, off + k * 2 + 1, none⟩ = some (.int .i64 t.code) := by
  have hk : k < n := by
    have := h.plen
    rcases Nat.lt_or_ge k T.length with h1 | h1
    · omega
    · rw [List.getElem?_eq_none h1] at ht; cases ht
  obtain ⟨b', off', t', e, hb, g0, g1, g2⟩ := h.prob hk
  obtain ⟨e1, e2⟩ : b = b' ∧ off = off' := by simpa using e
  subst e1 e2
  rw [ht] at g0
  obtain rfl := Option.some.inj g0
  exact ⟨hb, g1, g2⟩

def noKey : DataW Unit := .lit (.bool false)
def aKey : DataW Unit := .lit (.bool true)

set_option pp.deepTerms true in
set_option maxHeartbeats 4000000 in
set_option maxRecDepth 100000 in
theorem offsets_walk (A : Option Addr) (n c : Nat) (l : List UInt8) (m : Int) (w : World) (h : Rd w w.heap.size 1 A n c (l.map vb)) (hm : w.cell? ⟨0, 0, none⟩ = some (.int .i64 m)) :
    Calls Tryz.prog 8 #[.slice A n c] w fun e w' => e = .returned (.bool true) ∧ Below w.heap.size w w' := by
  have hlen := h.blen
  have hcap := h.cap
  have hbig := h.big
  have hmm := @run_makeMap Tryz.prog
  subst hlen
  by_cases hn : l.length > 3000
  · go_enter Tryz.func8, Tryz.ntmps8
    go_wp2_with (go_at_call 11; refine (sane_any _ m hm).mono ?_; rintro e w1 ⟨rfl, hb1⟩)
    go_ret
    exact ⟨rfl, hb1⟩
  · go_enter Tryz.func8, Tryz.ntmps8
    go_wp2_with (fail)
    refine (sane_any _ m hm).mono ?_
    rintro e w1 ⟨rfl, hb1'⟩
    have hb1 := Lib.hid hb1'
    clear hb1'
    have hr := Lib.hid ((h.below hb1.out).more hb1.out.size)
    go_wp2_with (fail)
    refine (tokens_any A l.length c l w1 hr.out (by omega)).mono ?_
    obtain ⟨T, P, hx, HI'⟩ := lex_inv l
    have HI := Lib.hid HI'
    clear HI'
    have hpl := HI.out.pl
    unfold TokPost
    rw [hx]
    dsimp only
    rintro e w2 ⟨A1, A2, c1, c2, rfl, h1', h2', hb2'⟩
    clear hx
    have h1 := Lib.hid h1'
    have h2 := Lib.hid h2'
    have hb2 := Lib.hid (chain hb1.out hb2')
    have hr2 := Lib.hid ((hr.out.below hb2').more hb2'.size)
    clear h1' h2' hb2' hr hb1
    have hl1 : (T ++ [(⟨5, [], l.length⟩ : Tok)]).length = T.length + 1 := by simp
    rw [hl1] at h1 ⊢
    have hc1 := h1.out.cap
    have hc2 := h1.out.big
    have hc3 := h2.out.cap
    have hc4 := h2.out.big
    obtain ⟨b, off, t, rfl, hb, g0, g1, _, g3⟩ := h1.out.tok (k := T.length) (by omega)
    rw [inv_last] at g0
    obtain rfl := Option.some.inj g0
    have e0 : ((T.length : Int) + 1 == 0) = false := by rw [beq_eq_false_iff_ne]; omega
    have hM : Hid ((w2.alloc (.map #[] 0)).ownsMap Tryz.prog 3 (plainElem Tryz.prog 4) w2.heap.size 0 (.map [] : DataW Unit)) := World.ownsMap_made _ _ _ _
    have hB : Hid (Below w2.heap.size w2 (w2.alloc (.map #[] 0))) := (Below.refl _ w2).alloc (Nat.le_refl _) _
    go_wp2_with (fail)
    clear g1 g3 hcap
    generalize hW : w2.alloc (.map #[] 0) = W at hM hB ⊢
    generalize hMb : w2.heap.size = M at hM hB ⊢
    go_loopw [7, 8] (fun s7 s8 wr => ∃ k : Nat, k ≤ T.length ∧ s7 = .int .i64 k ∧ ∃ D : DataW Unit, Hid (wr.ownsMap Tryz.prog 3 (plainElem Tryz.prog 4) M k D) ∧ Hid (∀ x, (∀ t ∈ T, t.at_ ≠ x) → D.atKey (.int .i64 x) noKey = noKey) ∧ Hid (Below M w2 wr)) (fun s7 _ _ => T.length - (intOf s7).toNat)
    case atStart => exact ⟨0, Nat.zero_le _, rfl, _, hM.out, fun _ _ => rfl, hB.out⟩
    case round =>
      obtain ⟨k, hk, rfl, D, hD1, hD2, hbw⟩ := hrel
      by_cases hlt : k < T.length
      · obtain ⟨t, t2, a, htm, ht0, ht1, hta, ha, hta2, hk5, hk3, hkn⟩ := inv_at HI.out k hlt
        have hT := Lib.hid (h1.out.below (hMb ▸ hbw.out))
        have hS := Lib.hid (hr2.out.below (hMb ▸ hbw.out))
        obtain ⟨_, g1, g2, g3⟩ := hT.out.tokAt ht0
        rw [hta] at g3
        have hg : wr.heap.size ≠ M := by have := hD1.out.lt; omega
        have hlen2 : M ≤ wr.heap.size := by have := hbw.out.size; omega
        go_wp2_with (fail)
        generalize hW1 : wr.alloc (.cells #[.int .i64 t.kind, .string (bs t.text), .int .i64 (a : Int)] 41) = W1
        have hsz : W1.heap.size = wr.heap.size + 1 := by rw [← hW1]; simp
        have k0 : W1.cell? ⟨wr.heap.size, 0, none⟩ = some (.int .i64 t.kind) := by rw [← hW1]; simp
        have k1 : W1.cell? ⟨wr.heap.size, 1, none⟩ = some (.string (bs t.text)) := by rw [← hW1]; simp
        have k2 : W1.cell? ⟨wr.heap.size, 2, none⟩ = some (.int .i64 (a : Int)) := by rw [← hW1]; simp
        have HB := Lib.hid (show Below M w2 W1 from hW1 ▸ hbw.out.alloc hlen2 _)
        have hm1 := Lib.hid (show W1.ownsMap Tryz.prog 3 (plainElem Tryz.prog 4) M k D from hW1 ▸ hD1.out.alloc _)
        have hT1 := Lib.hid (h1.out.below (hMb ▸ HB.out))
        obtain ⟨_, _, _, z3⟩ := hT1.out.tokAt ht1
        have d1 : decide ((a : Int) < 0) = false := decide_eq_false (by omega)
        have d2 : decide ((l.length : Int) ≤ (a : Int)) = false := decide_eq_false (by omega)
        have d3 : decide (t2.at_ ≤ (a : Int)) = false := decide_eq_false (by omega)
        have d4 : (t.kind == 5) = false := by simpa using hk5
        have d8 : (a : Int) < (l.length : Int) := by omega
        have d9 : (a : Int) < t2.at_ := by omega
        have d2' : decide (l.length ≤ a) = false := decide_eq_false (by omega)
        have d5 : (k : Int) + 1 < (T.length : Int) + 1 := by omega
        have d6 : k + 1 < T.length + 1 := by omega
        have d7 : (0 : Int) ≤ (k : Int) + 1 := by omega
        clear g1 g2 g3 hW1
        go_quiet (fail)
        have HQ := Lib.hid (show Below M w2 (W1.drewN nq) from HB.out.trans ((below_drewNg W1 nq).mono (by omega)))
        have hmq := Lib.hid (show (W1.drewN nq).ownsMap Tryz.prog 3 (plainElem Tryz.prog 4) M k D from hm1.out)
        have hkey := Lib.hid (keyOf_int_mk Tryz.underlying3 (WalkArith.wf_i64 (n := (a : Int)) ⟨by omega, by omega⟩))
        clear d1 d2 d2' d3 d4 d5 d6 d7 d9 z3
        go_wp2_with (first | (at_mapUpdate; go_must (refine wpList_mapUpdate_own _ rfl _ _ _ 42 rfl 3 4 (Maps.int_keyed Tryz.underlying3) Tryz.underlying42 _ M k D rfl hmq.out (by unfold maxLen; omega) _ _ _ rfl rfl hkey.out aKey [] (plainElem_bool Tryz.underlying4 true) ?_)) | fail)
        intro w5 hown5' hgr5
        have hown5 := Lib.hid hown5'
        have hO := Lib.hid (show Only (· = M) (W1.drewN nq) w5 from Only.of_grown hgr5 (fun k h => by cases h; rfl))
        have HB5 := Lib.hid (show Below M w2 w5 from hO.out.below HQ.out (by show M ≤ W1.heap.size; omega) (fun k e => Nat.le_of_eq e.symm))
        have hD5 := Lib.hid (show ∀ x, (∀ t ∈ T, t.at_ ≠ x) → (D.put (.int .i64 (a : Int)) aKey).atKey (.int .i64 x) noKey = noKey from fun x hx => by
          rw [Maps.atKey_put_other (fun e => by injection e with _ e; exact hx t htm (hta.trans e.symm))]
          exact hD2.out x hx)
        have hc5 : ∀ i v, W1.cell? ⟨wr.heap.size, i, none⟩ = some v → w5.cell? ⟨wr.heap.size, i, none⟩ = some v := fun i v hv =>
          (World.cell?_of_block (hO.out.block wr.heap.size (by show wr.heap.size < W1.heap.size; omega) hg)).trans hv
        have k0' := hc5 _ _ k0
        have k1' := hc5 _ _ k1
        have k2' := hc5 _ _ k2
        have hS5 := Lib.hid (hr2.out.below (hMb ▸ HB5.out))
        obtain ⟨bb, bo, rfl, hbb, hby⟩ := hS5.out.byte (k := a) ha
        clear hown5' hgr5 hc5 k0 k1 k2
        by_cases hkd : t.kind = 3
        · have e3 : (t.kind == 3) = true := by simpa using hkd
          have e4 := ynb (a := bt l a) (m := 34) (by have := hk3 hkd; omega)
          clear hkd hk3 hkn
          go_wp2
          go_roundw
          case rel => exact ⟨k + 1, by omega, by go_num, _, hown5.out, hD5.out, HB5.out⟩
          case measure => simp [intOf]; omega
        · have e3 : (t.kind == 3) = false := by simpa using hkd
          obtain ⟨hl0, hle, htk⟩ := hkn hkd
          have hcp := hS5.out.cap
          have hsub := hS5.out.sub (lo := a) (hi := a + t.text.length) (by omega) hle
          rw [show a + t.text.length - a = t.text.length from by omega, htk] at hsub
          have hcv := fun q => (hsub.drewN q).conv (P := Tryz.prog) (src := 22) (dst := 9) Tryz.underlying22 Tryz.underlying5 Tryz.underlying9 (c - a)
          have q1 : decide ((l.length : Int) < (a : Int) + (t.text.length : Int)) = false := decide_eq_false (by omega)
          have q2 : decide (l.length < a + t.text.length) = false := decide_eq_false (by omega)
          have q3 : (t.text == []) = false := by
            cases hx : t.text with
            | nil => rw [hx] at hl0; simp at hl0
            | cons _ _ => rfl
          have q4 : (a : Int) + (t.text.length : Int) ≤ (c : Int) := by omega
          have q5 : a + t.text.length ≤ c := by omega
          clear hkd hk3 hkn hsub
          go_wp2
          go_quiet (first | (rw [hcv]; exact ⟨rfl, rfl⟩) | (simp only [hcv]; exact ⟨rfl, rfl⟩) | (simp [hcv]; rfl))
          go_wp2
          go_roundw
          case rel => exact ⟨k + 1, by omega, by go_num, _, hown5.out, hD5.out, HB5.out.trans ((below_drewNg w5 nq).mono (by have := HB5.out.size; omega))⟩
          case measure => simp [intOf]; omega
      · obtain rfl : k = T.length := by omega
        have hrP := Lib.hid (h2.out.below (hMb ▸ hbw.out))
        go_wp2_with (fail)
        generalize hWr : wr = W3 at *
        clear hWr
        go_loopw [9] (fun s9 W4 => ∃ j : Nat, j ≤ P.length ∧ s9 = .int .i64 j ∧ Hid (W4.heap = W3.heap) ∧ Hid (Below W3.heap.size W3 W4)) (fun s9 _ => P.length - (intOf s9).toNat)
        case atStart => exact ⟨0, Nat.zero_le _, rfl, rfl, Below.refl _ _⟩
        case round =>
          obtain ⟨j, hj, rfl, hq, hbq⟩ := hrel
          by_cases hlt : j < P.length
          · obtain ⟨p, hp0, hp1, hp2, hp3, hp4, hp5⟩ := inv_prob HI.out j hlt
            obtain ⟨b3, o3, _, rfl, _⟩ := hrP.out.prob (k := j) hlt
            have hrW := Lib.hid (hrP.out.heap hq.out)
            obtain ⟨_, x1, x2⟩ := hrW.out.probAt hp0
            rw [hp1] at x2
            have hrun : ∀ q, (Instr.lookup 42 (.map (some M)) (.int .i64 p.at_) false).run Tryz.prog (wr.drewN q) = .ok (.bool false) (wr.drewN q) := fun q => by
              obtain ⟨v, ps, hrun, hv⟩ := (owns_heap (w' := wr.drewN q) hD1.out hq.out).lookup (Maps.int_keyed Tryz.underlying3) Tryz.underlying42 (z := .bool false) (zd := noKey) (zp := []) (by rfl) (plainElem_bool Tryz.underlying4 false) (keyOf_int_mk Tryz.underlying3 (WalkArith.wf_i64 (n := p.at_) ⟨by omega, by omega⟩))
              rw [hD2.out _ hp4] at hv
              rw [hrun, plain_false Tryz.underlying4 hv]
            have d1 : decide (p.at_ < 0) = false := decide_eq_false (by omega)
            have d2 : decide ((l.length : Int) ≤ p.at_) = false := decide_eq_false (by omega)
            clear hp0 hp1 hp2 hp3 hp4
            cases j with
            | zero =>
              clear hp5
              rw [show o3 + 0 * 2 = o3 from by omega] at x1
              rw [show o3 + 0 * 2 + 1 = o3 + 1 from by omega] at x2
              have d6 : (0 : Int) < (P.length : Int) := by omega
              have d7 : 0 < P.length := hlt
              go_wp2
              go_quiet (first | (rw [hrun]; exact ⟨rfl, rfl⟩))
              go_wp2
              go_roundw
              case rel => exact ⟨1, by omega, by go_num, hq.out, hbq.out.trans ((below_drewNg wr nq).mono hbq.out.size)⟩
              case measure => simp [intOf]; omega
            | succ j =>
              obtain ⟨p0, h0, h01⟩ := hp5 (by omega)
              rw [show j + 1 - 1 = j from rfl] at h0
              obtain ⟨_, y1, y2⟩ := hrW.out.probAt h0
              have d3 : decide (p.at_ ≤ p0.at_) = false := decide_eq_false (by omega)
              have d4 : (j : Int) < (P.length : Int) := by omega
              have d5 : (j : Int) + 1 < (P.length : Int) := by omega
              clear hp5 h0 h01
              go_wp2
              go_quiet (first | (rw [hrun]; exact ⟨rfl, rfl⟩))
              go_wp2
              go_roundw
              case rel => exact ⟨j + 1 + 1, by omega, by go_num, hq.out, hbq.out.trans ((below_drewNg wr nq).mono hbq.out.size)⟩
              case measure => simp [intOf]; omega
          · go_wp2
            go_ret
            exact ⟨rfl, hb2.out.trans ((show Below w2.heap.size w2 W3 from hMb ▸ hbw.out).mono hb2.out.size |>.trans (hbq.out.mono (by have := hb2.out.size; have := hbw.out.size; omega)))⟩
end Go.Proofs.YtbfgmbijmdbcmaaGreatDoor
