/- The reference's has; the known criteria as a row; append of a row in a region that draws. -/
import Derived.Test.YticpjdjdimpglaaGreatDoorCTisMFla
import Derived.Test.YticpjdjdimpglaaGreatDoorCTisMCor
import Derived.Deep.RegionLaw
namespace Go.Proofs.YticpjdjdimpglaaGreatDoor
set_option linter.unusedVariables false
set_option linter.unusedSimpArgs false
open Go.RowKit
section
variable {P : Program} {ops : Array Oper} {o : Oper} {a : Act} {w : World} {Q : Exit → Act → World → Prop}
theorem step_app_apart {K : Act → World → Prop} {F : Prop} {t e : TypeId} {size bytes : Nat} (E : Elem P t e size bytes) (hgd : o.guard = none) (s x : Operand)
    (ho : o.op = .call { callee := .builtin .append, args := #[s, x], argTypes := #[t, t] })
    (B : Nat) (A : Option Addr) (n c : Nat) (xs : List Value) (hs : a.eval s = .slice A n c) (hown : w.ownsRow B e size (.slice A n c) n xs)
    (B' : Nat) (X : Option Addr) (m c' : Nat) (hx : a.eval x = .slice X m c') (news : List Value) (hr : Rd w B' size X m c' news) (h1 : ∀ u ∈ news, u.oneCell' = true)
    (hbytes : (n + m) * bytes ≤ 140737488355328) (h63 : n + m ≤ 9223372036854775807) (hbase : B ≤ w.heap.size)
    (h : ∀ A' c' w', w'.ownsRow B e size (.slice A' (n + m) c') (n + m) (xs ++ news) → Below B w w' → w.grownBy w' (Value.slice A n c).ownBlock → (∀ k, (Value.slice A' (n + m) c').ownBlock = some k → (Value.slice A n c).ownBlock = some k ∨ w.heap.size ≤ k) → K (a.put o.dst (.slice A' (n + m) c')) w') :
    if Region.wanted o (yielded ops a.tmps) = true then Oper.wp P o a w K Q else F := by
  have hw : Region.wanted o (yielded ops a.tmps) = true := by simp [Region.wanted, hgd]
  rw [if_pos hw]
  obtain ⟨i, z, hi, hz, hsize, hby, hzs⟩ := E.info
  rcases X with _ | ad
  · have hm : m = 0 := by
      rcases Nat.eq_zero_or_pos m with h0 | h0
      · exact h0
      · obtain ⟨b, off, e, _⟩ := hr.cells h0
        cases e
    subst hm
    have hn : news = [] := List.eq_nil_of_length_eq_zero (by have := hr.len; simpa using this)
    subst hn
    have hrun := run_app_none (P := P) B t o.type e i size E.ht hi _ n c' xs hown
    unfold Oper.wp execOp
    simp only [ho, resolve, invoke, builtin, Sem.run_bind, Sem.run_pure, Result.andThen_ok, List.map_toArray, List.map_cons, List.map_nil, hs, hx, hrun]
    exact h A c w (by simpa using hown) (Below.refl _ _) ⟨rfl, rfl, rfl, Nat.le_refl _, fun _ _ _ => rfl⟩ (fun k hk => .inl hk)
  · obtain ⟨v', w', hrun, r1, r2, r3⟩ := run_push_apart (P := P) (w := w) E o.type B (.slice A n c) n xs hown ad m c' news hr.len (fun j u hj => by
      have h0 : 0 < m := by
        rcases Nat.eq_zero_or_pos m with h0 | h0
        · subst h0
          have hn : news = [] := List.eq_nil_of_length_eq_zero (by have := hr.len; simpa using this)
          subst hn
          simp at hj
        · exact h0
      obtain ⟨b, off, e, hb, hc⟩ := hr.cells h0
      injection e with e
      subst e
      have hadd : (⟨b, off, none⟩ : Addr).add j = ⟨b, off + j, none⟩ := by unfold Addr.add; split <;> simp_all
      rw [hadd]
      exact hc j u hj) h1 (by unfold maxLen; omega) hbytes hbase
    obtain ⟨A', c'', rfl⟩ := own_shape r1
    unfold Oper.wp execOp
    simp only [ho, resolve, invoke, builtin, Sem.run_bind, Sem.run_pure, Result.andThen_ok, List.map_toArray, List.map_cons, List.map_nil, hs, hx, hrun]
    exact h A' c'' w' r1 ((Below.refl B w).grown r2 hbase (fun k hk => (hown.lt k hk).1)) r2 r3
end
set_option maxHeartbeats 4000000 in
set_option maxRecDepth 100000 in
/-- The reference's has. -/
theorem phas_any (ks : List Int) (A : Option Addr) (n c : Nat) (x : Int) (w : World) {B : Nat} (hr : Rd w B 1 A n c (ks.map vi)) : Calls Tryz.prog 117 #[.slice A n c, .int .i64 x] w fun e w' => e = .returned (.bool (ks.contains x)) ∧ w = w' := by
  have HR := Lib.hid hr
  have hcap := hr.cap
  have hbig := hr.big
  have HL := Lib.hid (show n = ks.length by have := hr.len; simpa using this.symm)
  have HC := Lib.hid (show ∀ b, ks.contains x = b ↔ (b = true ↔ x ∈ ks) from fun b => by
    cases b <;> simp)
  generalize ks.contains x = r at HC ⊢
  clear hr
  go_enter Tryz.func117, Tryz.ntmps117
  go_wp2_with (fail)
  go_loop [5] (fun s => ∃ i : Nat, i ≤ n ∧ s = .int .i64 i ∧ Hid (∀ y ∈ ks.take i, y ≠ x)) (fun s => n - (intOf s).toNat)
  case atStart => exact ⟨0, Nat.zero_le _, rfl, Lib.hid (fun y hy => by simp at hy)⟩
  case round =>
    obtain ⟨i, him, rfl, HA⟩ := hrel
    by_cases hlt : i < n
    · obtain ⟨b, off, rfl, hb, hc⟩ := HR.out.cells (by omega)
      have hil : i < ks.length := by rw [← HL.out]; exact hlt
      have hci := hc i (vi ks[i]) (by rw [List.getElem?_map, List.getElem?_eq_getElem hil]; rfl)
      have HTK := Lib.hid (show ks.take (i + 1) = ks.take i ++ [ks[i]] by rw [List.take_succ_eq_append_getElem hil])
      have HM := Lib.hid (List.getElem_mem hil)
      unfold vi at hci
      generalize ks[i] = y at hci HTK HM
      have hi2 : (i : Int) < (n : Int) := by omega
      clear hc hil
      by_cases hy : y = x
      · have hyb : (y == x) = true := by rw [hy]; simp
        have HF := Lib.hid (show r = true from (HC.out r).1 rfl |>.2 (by rw [← hy]; exact HM.out))
        clear hy
        go_wp2_with (fail)
        go_ret
        exact ⟨congrArg (fun b => Ending.returned (.bool b)) HF.out.symm, rfl⟩
      · have hyb : (y == x) = false := beq_eq_false_iff_ne.2 hy
        have HA2 := Lib.hid (show ∀ z ∈ ks.take (i + 1), z ≠ x from fun z hz => by
          rw [HTK.out] at hz
          rcases List.mem_append.1 hz with hz | hz
          · exact HA.out z hz
          · rw [List.mem_singleton.1 hz]; exact hy)
        clear hy
        go_wp2_with (fail)
        go_round
        case rel => exact ⟨i + 1, hlt, by go_num, HA2.out⟩
        case measure => simp [intOf]; omega
    · have HF := Lib.hid (show r = false by
        have h1 := HA.out
        rw [List.take_of_length_le (by rw [← HL.out]; omega)] at h1
        cases hr : r with
        | false => rfl
        | true => exact absurd rfl (h1 x ((HC.out r).1 rfl |>.1 hr)))
      go_wp2_with (fail)
      go_ret
      exact ⟨congrArg (fun b => Ending.returned (.bool b)) HF.out.symm, rfl⟩
end Go.Proofs.YticpjdjdimpglaaGreatDoor
