/- The reference's Alike by its contract. -/
import Derived.Test.YtbfgmbijmdbcmaaGreatDoorRSame
import Derived.Test.YtbfgmbijmdbcmaaGreatDoorComPlain
import Derived.BigQuiet
namespace Go.Proofs.YtbfgmbijmdbcmaaGreatDoor
set_option linter.unusedVariables false
set_option linter.unusedSimpArgs false
open Go.RowKit

instance lookEq : DecidableEq (List (Int × List UInt8)) := inferInstance
theorem look_take_succ {a b : List Tok} {k : Nat} {x y : Tok} (h : (a.take k).map look = (b.take k).map look) (ha : a[k]? = some x) (hb : b[k]? = some y) (hxy : look x = look y) : (a.take (k + 1)).map look = (b.take (k + 1)).map look := by
  rw [List.take_add_one, List.take_add_one, ha, hb, List.map_append, List.map_append, h]
  simp [hxy]
theorem look_ne {a b : List Tok} {k : Nat} {x y : Tok} (ha : a[k]? = some x) (hb : b[k]? = some y) (hne : look x ≠ look y) : a.map look ≠ b.map look := by
  intro e
  have e1 : (a.map look)[k]? = some (look x) := by rw [List.getElem?_map, ha]; rfl
  have e2 : (b.map look)[k]? = some (look y) := by rw [List.getElem?_map, hb]; rfl
  rw [e, e2] at e1
  exact hne (Option.some.inj e1).symm

set_option maxHeartbeats 1000000 in
set_option maxRecDepth 100000 in
theorem alike_any (A A' : Option Addr) (n n' c c' B : Nat) (T T' : List Tok) (w : World) (h : Rd w B 3 A n c (T.flatMap tokCells)) (h' : Rd w B 3 A' n' c' (T'.flatMap tokCells)) :
    Calls Tryz.prog 23 #[.slice A n c, .slice A' n' c'] w fun e w' => e = .returned (.bool (decide (T.map look = T'.map look))) ∧ Below w.heap.size w w' := by
  have hT := h.tlen
  have hT' := h'.tlen
  have hcap := h.cap
  have hbig := h.big
  have hcap' := h'.cap
  have hbig' := h'.big
  by_cases hn : n = n'
  · subst hn
    go_enter Tryz.func23, Tryz.ntmps23
    go_wp2
    go_loopw [5] (fun i wr => ∃ k : Nat, k ≤ n ∧ i = .int .i64 k ∧ Hid ((T.take k).map look = (T'.take k).map look) ∧ Hid (Below w.heap.size w wr) ∧ Hid (Rd wr B 3 A n c (T.flatMap tokCells)) ∧ Hid (Rd wr B 3 A' n c' (T'.flatMap tokCells))) (fun i _ => n - (intOf i).toNat)
    case atStart => exact ⟨0, Nat.zero_le _, rfl, rfl, Below.refl _ _, h, h'⟩
    case round =>
      obtain ⟨k, hk, rfl, ht, hbw, hr, hr'⟩ := hrel
      by_cases hlt : k < n
      · obtain ⟨b, off, t, rfl, hb, g0, g1, g2, g3⟩ := hr.out.tok hlt
        obtain ⟨b', off', t', rfl, hb', g0', g1', g2', g3'⟩ := hr'.out.tok hlt
        by_cases hk1 : t.kind = t'.kind
        · have q1 : (t.kind != t'.kind) = false := by simpa using hk1
          have q1' : (t.kind == t'.kind) = true := by simpa using hk1
          by_cases hk2 : t.text = t'.text
          · have q2 : (t.text == t'.text) = true := by simpa using hk2
            have HK := Lib.hid (look_take_succ ht.out g0 g0' (by simp [look, hk1, hk2]))
            clear hk1 hk2 g0 g0'
            go_wp2
            go_quiet (fail)
            go_wp2
            go_roundw
            case rel => exact ⟨k + 1, by omega, by go_num, HK.out, hbw.out.trans ((below_drewNg wr nq).mono hbw.out.size), hr.out.drewN nq, hr'.out.drewN nq⟩
            case measure => simp [intOf]; omega
          · have q2 : (t.text == t'.text) = false := by simpa using hk2
            have HN := Lib.hid (look_ne g0 g0' (fun e => hk2 (congrArg Prod.snd e)))
            clear hk1 hk2 g0 g0'
            go_wp2
            go_quiet (fail)
            go_wp2
            go_ret
            exact ⟨ret_bool (by simp [HN.out]), hbw.out.trans ((below_drewNg wr nq).mono hbw.out.size)⟩
        · have q1 : (t.kind != t'.kind) = true := by simpa using hk1
          have q1' : (t.kind == t'.kind) = false := by simpa using hk1
          have HN := Lib.hid (look_ne g0 g0' (fun e => hk1 (congrArg Prod.fst e)))
          clear hk1 g0 g0'
          go_wp2
          go_quiet (fail)
          go_wp2
          go_ret
          exact ⟨ret_bool (by simp [HN.out]), hbw.out.trans ((below_drewNg wr nq).mono hbw.out.size)⟩
      · have hkn : k = n := by omega
        subst hkn
        have HE := Lib.hid (show T.map look = T'.map look by have := ht.out; rw [List.take_of_length_le (by omega), List.take_of_length_le (by omega)] at this; exact this)
        go_wp2
        go_ret
        exact ⟨ret_bool (by simp [HE.out]), hbw.out⟩
  · have HE := Lib.hid (show T.map look ≠ T'.map look from fun e => hn (by rw [← hT, ← hT', ← List.length_map (f := look), e, List.length_map]))
    have e1 := nnb (a := n) (m := n') (by omega)
    have e2 := nb (a := n) (m := n') (by omega)
    clear hn
    go_enter Tryz.func23, Tryz.ntmps23
    go_wp2
    go_ret
    exact ⟨ret_bool (by simp [HE.out]), Below.refl _ _⟩
end Go.Proofs.YtbfgmbijmdbcmaaGreatDoor
