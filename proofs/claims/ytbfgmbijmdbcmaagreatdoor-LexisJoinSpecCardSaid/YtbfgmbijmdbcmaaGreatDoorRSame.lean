/- The reference's Same and SameProblems by their contracts. -/
import Derived.Test.YtbfgmbijmdbcmaaGreatDoorProg
import Derived.Test.YtbfgmbijmdbcmaaGreatDoorLexSpec
import Derived.Test.YtbfgmbijmdbcmaaGreatDoorTokSt
namespace Go.Proofs.YtbfgmbijmdbcmaaGreatDoor
set_option linter.unusedVariables false
set_option linter.unusedSimpArgs false
open Go.RowKit

theorem flat_get {α : Type} (f : α → List Value) (m : Nat) (hf : ∀ x, (f x).length = m) (l : List α) (k j : Nat) (hk : k < l.length) (hj : j < m) : (l.flatMap f)[k * m + j]? = (f l[k])[j]? := by
  induction l generalizing k with
  | nil => simp at hk
  | cons a l ih =>
    rw [List.flatMap_cons]
    cases k with
    | zero => rw [Nat.zero_mul, Nat.zero_add, List.getElem?_append_left (by rw [hf]; exact hj)]; rfl
    | succ k =>
      rw [List.getElem?_append_right (by rw [hf, Nat.succ_mul]; omega), hf, show (k + 1) * m + j - m = k * m + j by rw [Nat.succ_mul]; omega, ih k (by simpa using hk)]
      rfl
theorem tok_len (t : Tok) : (tokCells t).length = 3 := rfl
theorem prob_len (t : Prob) : (probCells t).length = 2 := rfl
section
variable {w : World} {B n c : Nat} {A : Option Addr}
theorem Rd.tlen {T : List Tok} (h : Rd w B 3 A n c (T.flatMap tokCells)) : T.length = n := by
  have := h.len; rw [flatMap_len tokCells 3 tok_len] at this; omega
theorem Rd.plen {T : List Prob} (h : Rd w B 2 A n c (T.flatMap probCells)) : T.length = n := by
  have := h.len; rw [flatMap_len probCells 2 prob_len] at this; omega
/-- Token k of a slice. -/
theorem Rd.tok {T : List Tok} {k : Nat} (h : Rd w B 3 A n c (T.flatMap tokCells)) (hk : k < n) : ∃ b off t, A = some ⟨b, off, none⟩ ∧ b < B ∧ T[k]? = some t ∧ w.cell? ⟨b, off + k * 3, none⟩ = some (.int .i64 t.kind) ∧ w.cell? ⟨b, off + k * 3 + 1, none⟩ = some (.string (bs t.text)) ∧ w.cell? ⟨b, off + k * 3 + 2, none⟩ = some (.int .i64 t.at_) := by
  have hT := h.tlen
  obtain ⟨b, off, e, hb, hc⟩ := h.cells (by omega)
  have hk' : k < T.length := by omega
  refine ⟨b, off, T[k], e, hb, List.getElem?_eq_getElem hk', ?_, ?_, ?_⟩
  · have := hc (k * 3 + 0) (.int .i64 T[k].kind) (by rw [flat_get tokCells 3 tok_len T k 0 hk' (by omega)]; rfl)
    simpa using this
  · have := hc (k * 3 + 1) (.string (bs T[k].text)) (by rw [flat_get tokCells 3 tok_len T k 1 hk' (by omega)]; rfl)
    rwa [← Nat.add_assoc] at this
  · have := hc (k * 3 + 2) (.int .i64 T[k].at_) (by rw [flat_get tokCells 3 tok_len T k 2 hk' (by omega)]; rfl)
    rwa [← Nat.add_assoc] at this
theorem Rd.prob {T : List Prob} {k : Nat} (h : Rd w B 2 A n c (T.flatMap probCells)) (hk : k < n) : ∃ b off t, A = some ⟨b, off, none⟩ ∧ b < B ∧ T[k]? = some t ∧ w.cell? ⟨b, off + k * 2, none⟩ = some (.int .i64 t.at_) ∧ w.cell? ⟨b, off + k * 2 + 1, none⟩ = some (.int .i64 t.code) := by
  have hT := h.plen
  obtain ⟨b, off, e, hb, hc⟩ := h.cells (by omega)
  have hk' : k < T.length := by omega
  refine ⟨b, off, T[k], e, hb, List.getElem?_eq_getElem hk', ?_, ?_⟩
  · have := hc (k * 2 + 0) (.int .i64 T[k].at_) (by rw [flat_get probCells 2 prob_len T k 0 hk' (by omega)]; rfl)
    simpa using this
  · have := hc (k * 2 + 1) (.int .i64 T[k].code) (by rw [flat_get probCells 2 prob_len T k 1 hk' (by omega)]; rfl)
    rwa [← Nat.add_assoc] at this
end
instance tokEq : DecidableEq Tok := fun a b => decidable_of_iff (a.kind = b.kind ∧ a.text = b.text ∧ a.at_ = b.at_) (by cases a; cases b; simp)
instance probEq : DecidableEq Prob := fun a b => decidable_of_iff (a.at_ = b.at_ ∧ a.code = b.code) (by cases a; cases b; simp)
/-- Two lists agree up to k. -/
theorem take_eq_succ {α : Type} {a b : List α} {k : Nat} {x : α} (h : a.take k = b.take k) (ha : a[k]? = some x) (hb : b[k]? = some x) : a.take (k + 1) = b.take (k + 1) := by
  rw [List.take_add_one, List.take_add_one, h, ha, hb]
theorem ne_of_get {α : Type} {a b : List α} {k : Nat} {x y : α} (ha : a[k]? = some x) (hb : b[k]? = some y) (hne : x ≠ y) : a ≠ b := by
  rintro rfl
  rw [ha] at hb
  exact hne (Option.some.inj hb)

set_option maxHeartbeats 400000 in
theorem same_any (A A' : Option Addr) (n n' c c' B : Nat) (T T' : List Tok) (w : World) (h : Rd w B 3 A n c (T.flatMap tokCells)) (h' : Rd w B 3 A' n' c' (T'.flatMap tokCells)) :
    Calls Tryz.prog 14 #[.slice A n c, .slice A' n' c'] w fun e w' => e = .returned (.bool (decide (T = T'))) ∧ Below w.heap.size w w' := by
  have hT := h.tlen
  have hT' := h'.tlen
  have hcap := h.cap
  have hbig := h.big
  have hcap' := h'.cap
  have hbig' := h'.big
  have p1 : Tryz.prog.stoodInHeld 41 = false := by kernel_rfl
  have p2 : Tryz.prog.eqGuardType Tryz.prog.depth 41 = false := by kernel_rfl
  have p3 := Tryz.underlying41
  by_cases hn : n = n'
  · subst hn
    go_enter Tryz.func14, Tryz.ntmps14
    go_wp2
    go_loopw [5] (fun i wr => ∃ k : Nat, k ≤ n ∧ i = .int .i64 k ∧ T.take k = T'.take k ∧ Below w.heap.size w wr ∧ Rd wr B 3 A n c (T.flatMap tokCells) ∧ Rd wr B 3 A' n c' (T'.flatMap tokCells)) (fun i _ => n - (intOf i).toNat)
    case atStart => exact ⟨0, Nat.zero_le _, rfl, rfl, Below.refl _ _, h, h'⟩
    case round =>
      obtain ⟨k, hk, rfl, ht, hbw, hr, hr'⟩ := hrel
      by_cases hlt : k < n
      · obtain ⟨b, off, t, rfl, hb, g0, g1, g2, g3⟩ := hr.tok hlt
        obtain ⟨b', off', t', rfl, hb', g0', g1', g2', g3'⟩ := hr'.tok hlt
        by_cases hk1 : t.kind = t'.kind
        · by_cases hk2 : t.text = t'.text
          · by_cases hk3 : t.at_ = t'.at_
            · have q1 : (t.kind == t'.kind) = true := by simpa using hk1
              have q2 : (t.text == t'.text) = true := by simpa using hk2
              have q3 : (t.at_ == t'.at_) = true := by simpa using hk3
              have htt : t = t' := by cases t; cases t'; simp_all
              have HK := Lib.hid (take_eq_succ ht g0 (htt ▸ g0'))
              clear hk1 hk2 hk3 htt
              go_wp2
              go_quiet (fail)
              go_wp2
              go_round
              case rel => exact ⟨k + 1, by omega, by go_num, HK.out, hbw.trans ((below_drewNg wr nq).mono hbw.size), hr.drewN nq, hr'.drewN nq⟩
              case measure => simp [intOf]; omega
            · have q1 : (t.kind == t'.kind) = true := by simpa using hk1
              have q2 : (t.text == t'.text) = true := by simpa using hk2
              have q3 : (t.at_ == t'.at_) = false := by simpa using hk3
              have HN := Lib.hid (ne_of_get g0 g0' (fun e => hk3 (by rw [e])))
              clear hk1 hk2 hk3
              go_wp2
              go_quiet (fail)
              go_wp2
              go_ret
              exact ⟨ret_bool (by simp [HN.out]), hbw.trans ((below_drewNg wr nq).mono hbw.size)⟩
          · have q1 : (t.kind == t'.kind) = true := by simpa using hk1
            have q2 : (t.text == t'.text) = false := by simpa using hk2
            have HN := Lib.hid (ne_of_get g0 g0' (fun e => hk2 (by rw [e])))
            clear hk1 hk2
            go_wp2
            go_quiet (fail)
            go_wp2
            go_ret
            exact ⟨ret_bool (by simp [HN.out]), hbw.trans ((below_drewNg wr nq).mono hbw.size)⟩
        · have q1 : (t.kind == t'.kind) = false := by simpa using hk1
          have HN := Lib.hid (ne_of_get g0 g0' (fun e => hk1 (by rw [e])))
          clear hk1
          go_wp2
          go_quiet (fail)
          go_wp2
          go_ret
          exact ⟨ret_bool (by simp [HN.out]), hbw.trans ((below_drewNg wr nq).mono hbw.size)⟩
      · have hkn : k = n := by omega
        subst hkn
        have HE := Lib.hid (show T = T' by rw [List.take_of_length_le (by omega), List.take_of_length_le (by omega)] at ht; exact ht)
        go_wp2
        go_ret
        exact ⟨ret_bool (by simp [HE.out]), hbw⟩
  · have HE := Lib.hid (show T ≠ T' from fun e => hn (by rw [← hT, ← hT', e]))
    have e1 := nnb (a := n) (m := n') (by omega)
    clear hn
    go_enter Tryz.func14, Tryz.ntmps14
    go_wp2
    go_ret
    exact ⟨ret_bool (by simp [HE.out]), Below.refl _ _⟩
set_option maxHeartbeats 400000 in
theorem sameP_any (A A' : Option Addr) (n n' c c' B : Nat) (T T' : List Prob) (w : World) (h : Rd w B 2 A n c (T.flatMap probCells)) (h' : Rd w B 2 A' n' c' (T'.flatMap probCells)) :
    Calls Tryz.prog 15 #[.slice A n c, .slice A' n' c'] w fun e w' => e = .returned (.bool (decide (T = T'))) ∧ Below w.heap.size w w' := by
  have hT := h.plen
  have hT' := h'.plen
  have hcap := h.cap
  have hbig := h.big
  have hcap' := h'.cap
  have hbig' := h'.big
  have p1 : Tryz.prog.stoodInHeld 44 = false := by kernel_rfl
  have p2 : Tryz.prog.eqGuardType Tryz.prog.depth 44 = false := by kernel_rfl
  have p3 := Tryz.underlying44
  by_cases hn : n = n'
  · subst hn
    go_enter Tryz.func15, Tryz.ntmps15
    go_wp2
    go_loopw [5] (fun i wr => ∃ k : Nat, k ≤ n ∧ i = .int .i64 k ∧ T.take k = T'.take k ∧ Below w.heap.size w wr ∧ Rd wr B 2 A n c (T.flatMap probCells) ∧ Rd wr B 2 A' n c' (T'.flatMap probCells)) (fun i _ => n - (intOf i).toNat)
    case atStart => exact ⟨0, Nat.zero_le _, rfl, rfl, Below.refl _ _, h, h'⟩
    case round =>
      obtain ⟨k, hk, rfl, ht, hbw, hr, hr'⟩ := hrel
      by_cases hlt : k < n
      · obtain ⟨b, off, t, rfl, hb, g0, g1, g2⟩ := hr.prob hlt
        obtain ⟨b', off', t', rfl, hb', g0', g1', g2'⟩ := hr'.prob hlt
        by_cases hk1 : t.at_ = t'.at_
        · by_cases hk2 : t.code = t'.code
          · have q1 : (t.at_ == t'.at_) = true := by simpa using hk1
            have q2 : (t.code == t'.code) = true := by simpa using hk2
            have htt : t = t' := by cases t; cases t'; simp_all
            have HK := Lib.hid (take_eq_succ ht g0 (htt ▸ g0'))
            clear hk1 hk2 htt
            go_wp2
            go_quiet (fail)
            go_wp2
            go_round
            case rel => exact ⟨k + 1, by omega, by go_num, HK.out, hbw.trans ((below_drewNg wr nq).mono hbw.size), hr.drewN nq, hr'.drewN nq⟩
            case measure => simp [intOf]; omega
          · have q1 : (t.at_ == t'.at_) = true := by simpa using hk1
            have q2 : (t.code == t'.code) = false := by simpa using hk2
            have HN := Lib.hid (ne_of_get g0 g0' (fun e => hk2 (by rw [e])))
            clear hk1 hk2
            go_wp2
            go_quiet (fail)
            go_wp2
            go_ret
            exact ⟨ret_bool (by simp [HN.out]), hbw.trans ((below_drewNg wr nq).mono hbw.size)⟩
        · have q1 : (t.at_ == t'.at_) = false := by simpa using hk1
          have HN := Lib.hid (ne_of_get g0 g0' (fun e => hk1 (by rw [e])))
          clear hk1
          go_wp2
          go_quiet (fail)
          go_wp2
          go_ret
          exact ⟨ret_bool (by simp [HN.out]), hbw.trans ((below_drewNg wr nq).mono hbw.size)⟩
      · have hkn : k = n := by omega
        subst hkn
        have HE := Lib.hid (show T = T' by rw [List.take_of_length_le (by omega), List.take_of_length_le (by omega)] at ht; exact ht)
        go_wp2
        go_ret
        exact ⟨ret_bool (by simp [HE.out]), hbw⟩
  · have HE := Lib.hid (show T ≠ T' from fun e => hn (by rw [← hT, ← hT', e]))
    have e1 := nnb (a := n) (m := n') (by omega)
    clear hn
    go_enter Tryz.func15, Tryz.ntmps15
    go_wp2
    go_ret
    exact ⟨ret_bool (by simp [HE.out]), Below.refl _ _⟩
end Go.Proofs.YtbfgmbijmdbcmaaGreatDoor
