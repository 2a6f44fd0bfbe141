/- lexis.Join by its contract. -/
import Derived.Test.YtlgdmbdhffdenaaGreatDoorPG
import Derived.Test.YtlgdmbdhffdenaaGreatDoorKeyword
import Derived.Test.YtlgdmbdhffdenaaGreatDoorYJoinB
import Derived.BigQuiet
namespace Go.Proofs.YtlgdmbdhffdenaaGreatDoor
set_option linter.unusedVariables false
set_option linter.unusedSimpArgs false
open Go.RowKit

theorem str_q (l : List UInt8) : (({ data := #[34] } : ByteArray) ++ bs l ++ { data := #[34] }) = bs (34 :: (l ++ [34])) := by
  apply ByteArray.ext
  simp [bs]
def joinOk (T : List Tok) (e : Tok) : Bool := e.kind == 5 && e.text.isEmpty && T.all okTok
def JPost (T : List Tok) (e : Tok) (w : World) (E : Ending) (w' : World) : Prop := Below w.heap.size w w' ∧
  ((joinOk T e = true ∧ ∃ A c, E = .returned (.tuple #[.slice A (joinB T).length c, .int .i64 0]) ∧ Rd w' w'.heap.size 1 A (joinB T).length c ((joinB T).map vb)) ∨ (joinOk T e = false ∧ E = .returned (.tuple #[.slice none 0 0, .int .i64 1])))
theorem JPost.no {T : List Tok} {e : Tok} {w w' : World} (h : joinOk T e = false) (hb : Below w.heap.size w w') : JPost T e w (.returned (.tuple #[.slice none 0 0, .int .i64 1])) w' := ⟨hb, .inr ⟨h, rfl⟩⟩
theorem joinOk_bad {T : List Tok} {e t : Tok} {k : Nat} (h : T[k]? = some t) (hb : okTok t = false) : joinOk T e = false := by
  unfold joinOk
  have : T.all okTok = false := by
    rw [List.all_eq_false]
    exact ⟨t, List.mem_of_getElem? h, by simp [hb]⟩
  rw [this]; simp
theorem wide_take (T : List Tok) (k : Nat) : wide (T.take k) ≤ wide T := by
  have e : wide T = wide (T.take k) + wide (T.drop k) := by
    unfold wide
    rw [← List.sum_append, ← List.map_append, List.take_append_drop]
  omega
theorem wide_mem {T : List Tok} {t : Tok} {k : Nat} (h : T[k]? = some t) : (spell t).length + 1 ≤ wide T := by
  induction T generalizing k with
  | nil => simp at h
  | cons a r ih =>
    cases k with
    | zero =>
      obtain rfl := Option.some.inj h
      simp [wide]; try omega
    | succ k =>
      have := ih (k := k) h
      simp [wide] at this ⊢; omega
theorem escape_ge (s : List UInt8) : s.length ≤ (escape s).length := by rw [escape_len]; omega
theorem text_spell (t : Tok) : t.text.length ≤ (spell t).length := by
  unfold spell
  split
  · have := escape_ge t.text; simp; omega
  · exact Nat.le_refl _
theorem joinB_succ {T : List Tok} {t : Tok} {k : Nat} (h : T[k]? = some t) : joinB (T.take (k + 1)) = joinB (T.take k) ++ (if k = 0 then [] else [32]) ++ spell t := by
  have hlt : k < T.length := by
    rcases Nat.lt_or_ge k T.length with h1 | h1
    · exact h1
    · rw [List.getElem?_eq_none h1] at h; cases h
  have : T.take (k + 1) = T.take k ++ [t] := by rw [List.take_add_one, h]; rfl
  rw [this, joinB_push]
  congr 2
  cases k with
  | zero => simp
  | succ k =>
    have h1 : ¬ T.take (k + 1) = [] := fun e => by have := congrArg List.length e; rw [List.length_take] at this; simp only [List.length_nil] at this; omega
    rw [if_neg h1, if_neg (by omega)]
theorem all_succ {T : List Tok} {t : Tok} {k : Nat} (h : T[k]? = some t) (ha : (T.take k).all okTok = true) (ht : okTok t = true) : (T.take (k + 1)).all okTok = true := by
  have : T.take (k + 1) = T.take k ++ [t] := by rw [List.take_add_one, h]; rfl
  rw [this, List.all_append, ha]
  simp [ht]
/-- The bytes so far. -/
structure JSj (w0 w : World) (T : List Tok) (k : Nat) (A : Option Addr) (c : Nat) : Prop where
  own : w.ownsRow w0.heap.size 5 1 (.slice A (joinB (T.take k)).length c) (joinB (T.take k)).length ((joinB (T.take k)).map vb)
  bel : Below w0.heap.size w0 w
  ok : (T.take k).all okTok = true
theorem JSj.below {w0 w W : World} {T : List Tok} {k c : Nat} {A : Option Addr} (h : JSj w0 w T k A c) (hb : Below w.heap.size w W) : JSj w0 W T k A c := ⟨own_below_all h.own hb, h.bel.trans (hb.mono h.bel.size), h.ok⟩
theorem JSj.next {w0 w : World} {T : List Tok} {k c : Nat} {A : Option Addr} {t : Tok} {xs : List Value} {N : Nat} (hk : T[k]? = some t) (ht : okTok t = true) (ha : (T.take k).all okTok = true)
    (hown : w.ownsRow w0.heap.size 5 1 (.slice A N c) N xs) (hN : N = (joinB (T.take (k + 1))).length) (hx : xs = (joinB (T.take (k + 1))).map vb) (hb : Below w0.heap.size w0 w) : JSj w0 w T (k + 1) A c := by
  subst hN hx
  exact ⟨hown, hb, all_succ hk ha ht⟩

theorem six_new (w : World) : Six (w.alloc (.cells sixL.toArray 9)) w.heap.size 6 := by
  have h := new_cells w sixL 9
  exact ⟨Nat.le_refl _, by omega, h 0 _ rfl, h 1 _ rfl, h 2 _ rfl, h 3 _ rfl, h 4 _ rfl, h 5 _ rfl⟩

set_option pp.deepTerms true in
set_option maxHeartbeats 8000000 in
set_option maxRecDepth 100000 in
theorem join_any (A : Option Addr) (n c : Nat) (T : List Tok) (e : Tok) (m : Int) (w : World) (h : Rd w w.heap.size 3 A n c ((T ++ [e]).flatMap tokCells)) (hm : w.cell? ⟨0, 0, none⟩ = some (.int .i64 m)) (hW : wide T ≤ 60000) :
    Calls Tryz.prog 23 #[.slice A n c] w (JPost T e w) := by
  have hn : n = T.length + 1 := by have := h.tlen; simp at this; omega
  have hcap := h.cap
  have hbig := h.big
  have hnot : ∀ (x : Bool) (w : World), (Op.unary .not (.bool x)).run Tryz.prog w = .ok (.bool (!x)) w := fun _ _ => rfl
  obtain ⟨b, off, _, rfl, hb, -⟩ := h.tok (k := T.length) (by omega)
  obtain ⟨_, g1, g2, g3⟩ := h.tokAt (k := T.length) (t := e) (by simp)
  have H := Lib.hid h
  have Hm := Lib.hid hm
  subst hn
  clear h hm
  by_cases hk5 : e.kind = 5
  · by_cases ht0 : e.text = []
    · have q1 : (e.kind != 5) = false := by simpa using hk5
      have q2 : (e.text != []) = false := by simpa using ht0
      have q2' : e.text.isEmpty = true := by simpa using ht0
      have HE := Lib.hid (show (e.kind == 5 && e.text.isEmpty) = true by simp [hk5, ht0])
      clear hk5 ht0
      go_enter Tryz.func23, Tryz.ntmps23
      go_wp2_with (fail)
      clear g1 g2 g3
      go_loopw [2, 5, 6, 7, 8, 34] (fun s2 s5 s6 s7 s8 s34 wr => ∃ (k : Nat) (Ab : Option Addr) (cb : Nat), k ≤ T.length ∧ s34 = .int .i64 k ∧ s2 = .slice Ab (joinB (T.take k)).length cb ∧ Hid (JSj w wr T k Ab cb)) (fun _ _ _ _ _ s34 _ => T.length - (intOf s34).toNat)
      case atStart => exact ⟨0, none, 0, Nat.zero_le _, rfl, rfl, ⟨World.ownsRow_nil _ _ _ _, Below.refl _ _, rfl⟩⟩
      case round =>
        obtain ⟨k, Ab, cb, hk, rfl, rfl, hJ⟩ := hrel
        by_cases hlt : k < T.length
        · obtain ⟨t, ht⟩ : ∃ t, T[k]? = some t := ⟨T[k], List.getElem?_eq_getElem hlt⟩
          have hsz := hJ.out.bel.size
          have hT := Lib.hid (H.out.below hJ.out.bel)
          obtain ⟨_, g1, g2, g3⟩ := hT.out.tokAt (k := k) (t := t) (by rw [List.getElem?_append_left hlt]; exact ht)
          go_wp2_with (fail)
          generalize hW1 : wr.alloc (.cells #[.int .i64 t.kind, .string (bs t.text), .int .i64 t.at_] 53) = W1
          have k0 : W1.cell? ⟨wr.heap.size, 0, none⟩ = some (.int .i64 t.kind) := by rw [← hW1]; simp
          have k1 : W1.cell? ⟨wr.heap.size, 1, none⟩ = some (.string (bs t.text)) := by rw [← hW1]; simp
          have HB := Lib.hid (show Below wr.heap.size wr W1 from hW1 ▸ (Below.refl _ wr).alloc (Nat.le_refl _) _)
          have hJ1 := Lib.hid (hJ.out.below HB.out)
          have hw1 := wide_mem ht
          have hw2 := wide_take T k
          have hw3 := joinB_len (T.take k)
          have hw4 := text_spell t
          have HJS := Lib.hid (joinB_succ ht)
          have Ht := Lib.hid ht
          have hm1 := Lib.hid ((hJ1.out.bel.cell (World.block_lt_of_cell? w _ Hm.out)).trans Hm.out)
          clear g1 g2 g3 hW1 hT ht
          go_quiet (fail)
          have hJ2 := Lib.hid (show JSj w (W1.drewN nq) T k Ab cb from hJ1.out.below (below_drewNg W1 nq))
          have hm2 : (W1.drewN nq).cell? ⟨0, 0, none⟩ = some (.int .i64 m) := hm1.out
          have Hm2 := Lib.hid hm2
          clear hm2
          have k0' : (W1.drewN nq).cell? ⟨wr.heap.size, 0, none⟩ = some (.int .i64 t.kind) := k0
          clear k0 k1
          generalize W1.drewN nq = W2 at *
          clear hJ hJ1 hm1 HB
          generalize hjb : (joinB (T.take k)).length = jl at *
          have Hjb := Lib.hid hjb
          clear hjb
          -- ARMS-BEGIN
          by_cases h1 : t.kind = 1
          · have e1 : (t.kind == 1) = true := by rw [h1]; rfl
            have Hok := Lib.hid (show okTok t = wordB t.text by unfold okTok; rw [h1]; rfl)
            have Hsp := Lib.hid (show spell t = t.text by unfold spell; rw [if_neg (by omega)])
            clear h1
            go_wp2_with (fail)
            refine (isWord_any t.text _ (by omega)).mono ?_
            rintro E w5 ⟨rfl, hb5'⟩
            have hb5 := Lib.hid hb5'
            clear hb5'
            have hJ5 := Lib.hid (hJ2.out.below hb5.out)
            generalize hbb : wordB t.text = bb at Hok ⊢
            clear hbb
            cases bb with
            | false =>
              go_wp2
              go_ret2
              exact JPost.no (joinOk_bad Ht.out Hok.out) hJ5.out.bel
            | true =>
              by_cases hk0 : k = 0
              · subst hk0
                go_wp2_with (first
                  | (at_builtin; go_must (refine wpList_app_str (by kernel_rfl) Tryz.underlying22 Tryz.underlying9 rfl (.tmp 72) (.tmp 73) rfl w.heap.size Ab jl cb ((joinB (T.take 0)).map vb) rfl (by have := hJ5.out.own; rw [Hjb.out] at this; exact this) (t.text) rfl (by omega) hJ5.out.bel.size ?_; intro A6 c6 w6 hown6 hb6 hg6; have H6 := Lib.hid hown6; have B6 := Lib.hid (hJ5.out.bel.trans hb6); clear hown6 hb6 hg6)))
                go_roundw
                case rel => exact ⟨1, A6, c6, by omega, rfl, slice_eq (by rw [HJS.out, List.length_append, List.length_append, Hjb.out, Hsp.out]; simp), JSj.next Ht.out Hok.out hJ5.out.ok H6.out (by rw [HJS.out, List.length_append, List.length_append, Hjb.out, Hsp.out]; simp) (by rw [HJS.out, Hsp.out]; simp) B6.out⟩
                case measure => simp [intOf]; omega
              · have hk1 : (0 : Int) < (k : Int) := by omega
                have hkb : decide (0 < k) = true := decide_eq_true (by omega)
                have HJK := Lib.hid (show (if k = 0 then ([] : List UInt8) else [32]) = [32] from if_neg hk0)
                go_wp2_with (first
                  | (at_builtin; refine wpList_push elemByte rfl (.tmp 69) (.tmp 70) rfl w.heap.size Ab jl cb ((joinB (T.take k)).map vb) rfl (World.ownsRow.alloc (by have := hJ5.out.own; rw [Hjb.out] at this; exact this) _) _ rfl [.int .u8 32] rfl (new_cells w5 _ _) (by intro u hu; simp at hu; subst hu; rfl) (by omega) (by omega) (Nat.le_trans hJ5.out.bel.size (by simp)) ?_; intro A8 c8 w8 hown8 hb8 hg8; have H8 := Lib.hid hown8; have B8 := Lib.hid ((hJ5.out.bel.alloc hJ5.out.bel.size _).trans hb8); clear hown8 hb8 hg8)
                  | (at_builtin; go_must (refine wpList_app_str (by kernel_rfl) Tryz.underlying22 Tryz.underlying9 rfl (.tmp 72) (.tmp 73) rfl w.heap.size A8 (jl + 1) c8 _ rfl H8.out (t.text) rfl (by omega) B8.out.size ?_; intro A6 c6 w6 hown6 hb6 hg6; have H6 := Lib.hid hown6; have B6 := Lib.hid (B8.out.trans hb6); clear hown6 hb6 hg6)))
                go_roundw
                case rel => exact ⟨k + 1, A6, c6, by omega, by go_num, slice_eq (by rw [HJS.out, List.length_append, List.length_append, Hjb.out, Hsp.out]; simp [HJK.out]), JSj.next Ht.out Hok.out hJ5.out.ok H6.out (by rw [HJS.out, List.length_append, List.length_append, Hjb.out, Hsp.out]; simp [HJK.out]) (by rw [HJS.out, Hsp.out]; simp [HJK.out, vb]) B6.out⟩
                case measure => simp [intOf]; omega
          by_cases h2 : t.kind = 2
          · have e1 : (t.kind == 1) = false := by rw [h2]; rfl
            have e2 : (t.kind == 2) = true := by rw [h2]; rfl
            have Hok := Lib.hid (show okTok t = intB t.text by unfold okTok; rw [h2]; rfl)
            have Hsp := Lib.hid (show spell t = t.text by unfold spell; rw [if_neg (by omega)])
            clear h2 h1
            go_wp2_with (fail)
            refine (isInteger_any t.text _ (by omega)).mono ?_
            rintro E w5 ⟨rfl, hb5'⟩
            have hb5 := Lib.hid hb5'
            clear hb5'
            have hJ5 := Lib.hid (hJ2.out.below hb5.out)
            generalize hbb : intB t.text = bb at Hok ⊢
            clear hbb
            cases bb with
            | false =>
              go_wp2
              go_ret2
              exact JPost.no (joinOk_bad Ht.out Hok.out) hJ5.out.bel
            | true =>
              by_cases hk0 : k = 0
              · subst hk0
                go_wp2_with (first
                  | (at_builtin; go_must (refine wpList_app_str (by kernel_rfl) Tryz.underlying22 Tryz.underlying9 rfl (.tmp 72) (.tmp 73) rfl w.heap.size Ab jl cb ((joinB (T.take 0)).map vb) rfl (by have := hJ5.out.own; rw [Hjb.out] at this; exact this) (t.text) rfl (by omega) hJ5.out.bel.size ?_; intro A6 c6 w6 hown6 hb6 hg6; have H6 := Lib.hid hown6; have B6 := Lib.hid (hJ5.out.bel.trans hb6); clear hown6 hb6 hg6)))
                go_roundw
                case rel => exact ⟨1, A6, c6, by omega, rfl, slice_eq (by rw [HJS.out, List.length_append, List.length_append, Hjb.out, Hsp.out]; simp), JSj.next Ht.out Hok.out hJ5.out.ok H6.out (by rw [HJS.out, List.length_append, List.length_append, Hjb.out, Hsp.out]; simp) (by rw [HJS.out, Hsp.out]; simp) B6.out⟩
                case measure => simp [intOf]; omega
              · have hk1 : (0 : Int) < (k : Int) := by omega
                have hkb : decide (0 < k) = true := decide_eq_true (by omega)
                have HJK := Lib.hid (show (if k = 0 then ([] : List UInt8) else [32]) = [32] from if_neg hk0)
                go_wp2_with (first
                  | (at_builtin; refine wpList_push elemByte rfl (.tmp 69) (.tmp 70) rfl w.heap.size Ab jl cb ((joinB (T.take k)).map vb) rfl (World.ownsRow.alloc (by have := hJ5.out.own; rw [Hjb.out] at this; exact this) _) _ rfl [.int .u8 32] rfl (new_cells w5 _ _) (by intro u hu; simp at hu; subst hu; rfl) (by omega) (by omega) (Nat.le_trans hJ5.out.bel.size (by simp)) ?_; intro A8 c8 w8 hown8 hb8 hg8; have H8 := Lib.hid hown8; have B8 := Lib.hid ((hJ5.out.bel.alloc hJ5.out.bel.size _).trans hb8); clear hown8 hb8 hg8)
                  | (at_builtin; go_must (refine wpList_app_str (by kernel_rfl) Tryz.underlying22 Tryz.underlying9 rfl (.tmp 72) (.tmp 73) rfl w.heap.size A8 (jl + 1) c8 _ rfl H8.out (t.text) rfl (by omega) B8.out.size ?_; intro A6 c6 w6 hown6 hb6 hg6; have H6 := Lib.hid hown6; have B6 := Lib.hid (B8.out.trans hb6); clear hown6 hb6 hg6)))
                go_roundw
                case rel => exact ⟨k + 1, A6, c6, by omega, by go_num, slice_eq (by rw [HJS.out, List.length_append, List.length_append, Hjb.out, Hsp.out]; simp [HJK.out]), JSj.next Ht.out Hok.out hJ5.out.ok H6.out (by rw [HJS.out, List.length_append, List.length_append, Hjb.out, Hsp.out]; simp [HJK.out]) (by rw [HJS.out, Hsp.out]; simp [HJK.out, vb]) B6.out⟩
                case measure => simp [intOf]; omega
          by_cases h4 : t.kind = 4
          · have e1 : (t.kind == 1) = false := by rw [h4]; rfl
            have e2 : (t.kind == 2) = false := by rw [h4]; rfl
            have e4 : (t.kind == 4) = true := by rw [h4]; rfl
            have Hok := Lib.hid (show okTok t = signB t.text by unfold okTok; rw [h4]; rfl)
            have Hsp := Lib.hid (show spell t = t.text by unfold spell; rw [if_neg (by omega)])
            clear h4 h1 h2
            go_wp2_with (fail)
            refine (isSign_any t.text m _ Hm2.out).mono ?_
            rintro E w5 ⟨rfl, rfl⟩
            have hb5 := Lib.hid (Below.refl W2.heap.size W2)
            have hJ5 := Lib.hid (hJ2.out.below hb5.out)
            generalize hbb : signB t.text = bb at Hok ⊢
            clear hbb
            cases bb with
            | false =>
              go_wp2
              go_ret2
              exact JPost.no (joinOk_bad Ht.out Hok.out) hJ5.out.bel
            | true =>
              by_cases hk0 : k = 0
              · subst hk0
                go_wp2_with (first
                  | (at_builtin; go_must (refine wpList_app_str (by kernel_rfl) Tryz.underlying22 Tryz.underlying9 rfl (.tmp 72) (.tmp 73) rfl w.heap.size Ab jl cb ((joinB (T.take 0)).map vb) rfl (by have := hJ5.out.own; rw [Hjb.out] at this; exact this) (t.text) rfl (by omega) hJ5.out.bel.size ?_; intro A6 c6 w6 hown6 hb6 hg6; have H6 := Lib.hid hown6; have B6 := Lib.hid (hJ5.out.bel.trans hb6); clear hown6 hb6 hg6)))
                go_roundw
                case rel => exact ⟨1, A6, c6, by omega, rfl, slice_eq (by rw [HJS.out, List.length_append, List.length_append, Hjb.out, Hsp.out]; simp), JSj.next Ht.out Hok.out hJ5.out.ok H6.out (by rw [HJS.out, List.length_append, List.length_append, Hjb.out, Hsp.out]; simp) (by rw [HJS.out, Hsp.out]; simp) B6.out⟩
                case measure => simp [intOf]; omega
              · have hk1 : (0 : Int) < (k : Int) := by omega
                have hkb : decide (0 < k) = true := decide_eq_true (by omega)
                have HJK := Lib.hid (show (if k = 0 then ([] : List UInt8) else [32]) = [32] from if_neg hk0)
                go_wp2_with (first
                  | (at_builtin; refine wpList_push elemByte rfl (.tmp 69) (.tmp 70) rfl w.heap.size Ab jl cb ((joinB (T.take k)).map vb) rfl (World.ownsRow.alloc (by have := hJ5.out.own; rw [Hjb.out] at this; exact this) _) _ rfl [.int .u8 32] rfl (new_cells W2 _ _) (by intro u hu; simp at hu; subst hu; rfl) (by omega) (by omega) (Nat.le_trans hJ5.out.bel.size (by simp)) ?_; intro A8 c8 w8 hown8 hb8 hg8; have H8 := Lib.hid hown8; have B8 := Lib.hid ((hJ5.out.bel.alloc hJ5.out.bel.size _).trans hb8); clear hown8 hb8 hg8)
                  | (at_builtin; go_must (refine wpList_app_str (by kernel_rfl) Tryz.underlying22 Tryz.underlying9 rfl (.tmp 72) (.tmp 73) rfl w.heap.size A8 (jl + 1) c8 _ rfl H8.out (t.text) rfl (by omega) B8.out.size ?_; intro A6 c6 w6 hown6 hb6 hg6; have H6 := Lib.hid hown6; have B6 := Lib.hid (B8.out.trans hb6); clear hown6 hb6 hg6)))
                go_roundw
                case rel => exact ⟨k + 1, A6, c6, by omega, by go_num, slice_eq (by rw [HJS.out, List.length_append, List.length_append, Hjb.out, Hsp.out]; simp [HJK.out]), JSj.next Ht.out Hok.out hJ5.out.ok H6.out (by rw [HJS.out, List.length_append, List.length_append, Hjb.out, Hsp.out]; simp [HJK.out]) (by rw [HJS.out, Hsp.out]; simp [HJK.out, vb]) B6.out⟩
                case measure => simp [intOf]; omega
          by_cases h3 : t.kind = 3
          · have e1 : (t.kind == 1) = false := by rw [h3]; rfl
            have e2 : (t.kind == 2) = false := by rw [h3]; rfl
            have e4 : (t.kind == 4) = false := by rw [h3]; rfl
            have e3 : (t.kind == 3) = true := by rw [h3]; rfl
            have Hok := Lib.hid (show okTok t = textB t.text by unfold okTok; rw [h3]; rfl)
            have Hsp := Lib.hid (show spell t = 34 :: (escape t.text ++ [34]) by unfold spell; rw [if_pos h3])
            have hel : (escape t.text).length + 2 = (spell t).length := by rw [Hsp.out]; simp
            clear h3 h1 h2 h4
            go_wp2_with (fail)
            refine (isText_any t.text _).mono ?_
            rintro E w5 ⟨rfl, hb5'⟩
            have hb5 := Lib.hid hb5'
            clear hb5'
            have hJ5 := Lib.hid (hJ2.out.below hb5.out)
            generalize hbb : textB t.text = bb at Hok ⊢
            clear hbb
            go_wp2_with (fail)
            refine (newReplacer_any w5.heap.size _ (six_new w5)).mono ?_
            rintro E w6 ⟨r, o, oc, rfl, hb6', hr6, hblk6', hsix6'⟩
            have hb6 := Lib.hid hb6'
            have hblk6 := Lib.hid hblk6'
            have hsix6 := Lib.hid hsix6'
            clear hb6' hblk6' hsix6'
            go_wp2_with (fail)
            refine (replace_any t.text r o oc w6 hblk6.out hsix6.out (by omega)).mono ?_
            rintro E w7 ⟨rfl, hO7'⟩
            have hb56 : Below w5.heap.size w5 w6 := ((Below.refl _ w5).alloc (Nat.le_refl _) _).trans (hb6.out.mono (by simp))
            have hb7 := Lib.hid (hO7'.below hb56 hb56.size (fun k hk => by subst hk; exact Nat.le_trans (by simp) hr6))
            have hJ7 := Lib.hid (hJ5.out.below hb7.out)
            clear hb56 hO7' hr6
            cases bb with
            | false =>
              go_wp2
              go_ret2
              exact JPost.no (joinOk_bad Ht.out Hok.out) hJ7.out.bel
            | true =>
              by_cases hk0 : k = 0
              · subst hk0
                go_wp2_with (first
                  | (at_builtin; go_must (refine wpList_app_str (by kernel_rfl) Tryz.underlying22 Tryz.underlying9 rfl (.tmp 72) (.tmp 73) rfl w.heap.size Ab jl cb ((joinB (T.take 0)).map vb) rfl (by have := hJ7.out.own; rw [Hjb.out] at this; exact this) (34 :: (escape t.text ++ [34])) (congrArg Value.string (str_q _)) (by simp; omega) hJ7.out.bel.size ?_; intro A6 c6 w6 hown6 hb6 hg6; have H6 := Lib.hid hown6; have B6 := Lib.hid (hJ7.out.bel.trans hb6); clear hown6 hb6 hg6)))
                go_roundw
                case rel => exact ⟨1, A6, c6, by omega, rfl, slice_eq (by rw [HJS.out, List.length_append, List.length_append, Hjb.out, Hsp.out]; simp), JSj.next Ht.out Hok.out hJ7.out.ok H6.out (by rw [HJS.out, List.length_append, List.length_append, Hjb.out, Hsp.out]; simp) (by rw [HJS.out, Hsp.out]; simp) B6.out⟩
                case measure => simp [intOf]; omega
              · have hk1 : (0 : Int) < (k : Int) := by omega
                have hkb : decide (0 < k) = true := decide_eq_true (by omega)
                have HJK := Lib.hid (show (if k = 0 then ([] : List UInt8) else [32]) = [32] from if_neg hk0)
                go_wp2_with (first
                  | (at_builtin; refine wpList_push elemByte rfl (.tmp 69) (.tmp 70) rfl w.heap.size Ab jl cb ((joinB (T.take k)).map vb) rfl (World.ownsRow.alloc (by have := hJ7.out.own; rw [Hjb.out] at this; exact this) _) _ rfl [.int .u8 32] rfl (new_cells w7 _ _) (by intro u hu; simp at hu; subst hu; rfl) (by omega) (by omega) (Nat.le_trans hJ7.out.bel.size (by simp)) ?_; intro A8 c8 w8 hown8 hb8 hg8; have H8 := Lib.hid hown8; have B8 := Lib.hid ((hJ7.out.bel.alloc hJ7.out.bel.size _).trans hb8); clear hown8 hb8 hg8)
                  | (at_builtin; go_must (refine wpList_app_str (by kernel_rfl) Tryz.underlying22 Tryz.underlying9 rfl (.tmp 72) (.tmp 73) rfl w.heap.size A8 (jl + 1) c8 _ rfl H8.out (34 :: (escape t.text ++ [34])) (congrArg Value.string (str_q _)) (by simp; omega) B8.out.size ?_; intro A6 c6 w6 hown6 hb6 hg6; have H6 := Lib.hid hown6; have B6 := Lib.hid (B8.out.trans hb6); clear hown6 hb6 hg6)))
                go_roundw
                case rel => exact ⟨k + 1, A6, c6, by omega, by go_num, slice_eq (by rw [HJS.out, List.length_append, List.length_append, Hjb.out, Hsp.out]; simp [HJK.out]), JSj.next Ht.out Hok.out hJ7.out.ok H6.out (by rw [HJS.out, List.length_append, List.length_append, Hjb.out, Hsp.out]; simp [HJK.out]) (by rw [HJS.out, Hsp.out]; simp [HJK.out, vb]) B6.out⟩
                case measure => simp [intOf]; omega
          have e1 : (t.kind == 1) = false := by simpa using h1
          have e2 : (t.kind == 2) = false := by simpa using h2
          have e4 : (t.kind == 4) = false := by simpa using h4
          have e3 : (t.kind == 3) = false := by simpa using h3
          have Hok := Lib.hid (show okTok t = false by unfold okTok; rw [if_neg h1, if_neg h2, if_neg h4, if_neg h3])
          clear h1 h2 h3 h4
          go_wp2
          go_ret2
          exact JPost.no (joinOk_bad Ht.out Hok.out) hJ2.out.bel
          -- ARMS-END
        · obtain rfl : k = T.length := by omega
          have hJE := hJ.out
          have hown := hJE.own
          have hok := hJE.ok
          have hbl := Lib.hid hJE.bel
          rw [List.take_length] at hown hok ⊢
          have hlen := joinB_len T
          have HJ := Lib.hid (show joinOk T e = true by unfold joinOk; rw [HE.out, hok]; rfl)
          have Hrd := Lib.hid (own_rd hown)
          clear hJ hJE hown hok
          generalize hN : (joinB T).length = N at *
          have HN := Lib.hid hN
          have d1 : decide ((65536 : Int) < (N : Int)) = false := decide_eq_false (by omega)
          clear hN
          go_wp2
          go_ret2
          refine ⟨hbl.out, .inl ⟨HJ.out, Ab, cb, ?_, ?_⟩⟩
          · rw [HN.out]; rfl
          · rw [HN.out]; exact Hrd.out
    · have q1 : (e.kind != 5) = false := by simpa using hk5
      have q2' : e.text.isEmpty = false := by simpa using ht0
      have HE := Lib.hid (show joinOk T e = false by unfold joinOk; rw [q2']; simp)
      clear hk5 ht0
      go_enter Tryz.func23, Tryz.ntmps23
      go_wp2
      go_ret2
      exact JPost.no HE.out (Below.refl _ _)
  · have q1 : (e.kind != 5) = true := by simpa using hk5
    have HE := Lib.hid (show joinOk T e = false by unfold joinOk; rw [show (e.kind == 5) = false from by simpa using hk5]; simp)
    clear hk5
    go_enter Tryz.func23, Tryz.ntmps23
    go_wp2
    go_ret2
    exact JPost.no HE.out (Below.refl _ _)
end Go.Proofs.YtlgdmbdhffdenaaGreatDoor
