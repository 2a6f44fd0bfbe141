/- The reference's Name, points, place, variable, criterion, number by their contracts. -/
import Derived.Test.YticpjdjdimpglaaGreatDoorCTxsMWText3
import Derived.Test.YticpjdjdimpglaaGreatDoorCTxsMKeyword
namespace Go.Proofs.YticpjdjdimpglaaGreatDoor
set_option linter.unusedVariables false
set_option linter.unusedSimpArgs false
open Go.RowKit
set_option maxHeartbeats 4000000 in
set_option maxRecDepth 100000 in
theorem qname_any (l : List UInt8) (w : World) (hl : l.length ≤ 1000000) : Calls Tryz.prog 101 #[.string (bs l)] w fun e w' => e = .returned (.bool (nameB l)) ∧ w = w' := by
  have HE := Lib.hid (nameB_iff l)
  generalize nameB l = r at HE ⊢
  by_cases h : (0 < l.length ∧ l.length ≤ 24) ∧ 97 ≤ bt l 0 ∧ bt l 0 ≤ 122
  · obtain ⟨⟨h0, h24⟩, ha, hz⟩ := h
    have h1 : ¬ ((l.length : Int) < 1) := by omega
    have H24 := Lib.hid (show (0 < l.length ∧ l.length ≤ 24) ∧ 97 ≤ bt l 0 ∧ bt l 0 ≤ 122 from ⟨⟨h0, h24⟩, ha, hz⟩)
    go_enter Tryz.func101, Tryz.ntmps101
    go_wp2_with (fail)
    go_loop [3] (fun s => ∃ i : Nat, i ≤ l.length ∧ s = .int .i64 i ∧ Hid (∀ q, q < i → chB (bt l q))) (fun s => l.length - (intOf s).toNat)
    case atStart => exact ⟨1, H24.out.1.1, rfl, fun q hq => .inl (by rw [show q = 0 by omega]; exact H24.out.2)⟩
    case round =>
      obtain ⟨i, hi, rfl, HA⟩ := hrel
      by_cases hlt : i < l.length
      · by_cases hc : chB (bt l i)
        · have HA2 := Lib.hid (show ∀ q, q < i + 1 → chB (bt l q) from fun q hq => by
            by_cases e : q = i
            · rw [e]; exact hc
            · exact HA.out q (by omega))
          obtain ⟨x, HX⟩ : ∃ x, Hid (x = bt l i) := ⟨_, Lib.hid rfl⟩
          have hx5 := bs_get l i (by rw [bs_size]; exact hlt)
          rw [← HX.out] at hc hx5
          rcases hc with hc | hc | hc
          · obtain ⟨c1, c2⟩ := hc
            go_wp2_with (fail)
            all_goals
              go_round
              case rel => exact ⟨i + 1, hlt, by go_num, HA2.out⟩
              case measure => simp [intOf]; omega
          · obtain ⟨c1, c2⟩ := hc
            have c3 : x < 97 := by omega
            go_wp2_with (fail)
            all_goals
              go_round
              case rel => exact ⟨i + 1, hlt, by go_num, HA2.out⟩
              case measure => simp [intOf]; omega
          · subst hc
            go_wp2_with (fail)
            all_goals
              go_round
              case rel => exact ⟨i + 1, hlt, by go_num, HA2.out⟩
              case measure => simp [intOf]; omega
        · have HF := Lib.hid (show r = false by
            cases r with
            | false => rfl
            | true => exact absurd ((HE.out.1 rfl).2.2.2.2 i hlt) hc)
          obtain ⟨x, HX⟩ : ∃ x, Hid (x = bt l i) := ⟨_, Lib.hid rfl⟩
          have hx5 := bs_get l i (by rw [bs_size]; exact hlt)
          rw [← HX.out] at hc hx5
          have h95 : ((x : Int) != 95) = true := by
            rw [bne_iff_ne]; intro e; exact hc (.inr (.inr (by omega)))
          have hcc : (x < 97 ∨ 122 < x) ∧ (x < 48 ∨ 57 < x) := by
            refine ⟨?_, ?_⟩
            · rcases Nat.lt_or_ge x 97 with h | h
              · exact .inl h
              · rcases Nat.lt_or_ge 122 x with h2 | h2
                · exact .inr h2
                · exact absurd (.inl ⟨h, h2⟩) hc
            · rcases Nat.lt_or_ge x 48 with h | h
              · exact .inl h
              · rcases Nat.lt_or_ge 57 x with h2 | h2
                · exact .inr h2
                · exact absurd (.inr (.inl ⟨h, h2⟩)) hc
          clear hc
          obtain ⟨h1 | h1, h2 | h2⟩ := hcc
          all_goals first
            | (exfalso; omega)
            | (go_wp2_with (fail)
               go_ret
               exact ⟨ret_bool HF.out.symm, rfl⟩)
      · have HF := Lib.hid (show r = true from HE.out.2 ⟨H24.out.1.1, H24.out.1.2, H24.out.2.1, H24.out.2.2, fun q hq => HA.out q (by omega)⟩)
        go_wp2_with (fail)
        go_ret
        exact ⟨ret_bool HF.out.symm, rfl⟩
  · have HF := Lib.hid (show r = false by
      cases r with
      | false => rfl
      | true =>
        obtain ⟨h1, h2, h3, h4, _⟩ := HE.out.1 rfl
        exact absurd ⟨⟨h1, h2⟩, h3, h4⟩ h)
    clear HE
    by_cases h0 : 0 < l.length
    · by_cases h24 : l.length ≤ 24
      · have hx5 := bs_get l 0 (by rw [bs_size]; exact h0)
        have hcc : bt l 0 < 97 ∨ 122 < bt l 0 := by
          rcases Nat.lt_or_ge (bt l 0) 97 with h1 | h1
          · exact .inl h1
          · rcases Nat.lt_or_ge 122 (bt l 0) with h2 | h2
            · exact .inr h2
            · exact absurd ⟨⟨h0, h24⟩, h1, h2⟩ h
        clear h
        rcases hcc with h1 | h1
        all_goals
          go_enter Tryz.func101, Tryz.ntmps101
          go_wp2_with (fail)
          go_ret
          exact ⟨ret_bool HF.out.symm, rfl⟩
      · clear h
        go_enter Tryz.func101, Tryz.ntmps101
        go_wp2_with (fail)
        go_ret
        exact ⟨ret_bool HF.out.symm, rfl⟩
    · clear h
      have h1 : l.length < 1 := by omega
      go_enter Tryz.func101, Tryz.ntmps101
      go_wp2_with (fail)
      go_ret
      exact ⟨ret_bool HF.out.symm, rfl⟩
set_option maxRecDepth 100000 in
theorem qpoints_any (n : Int) (w : World) : Calls Tryz.prog 102 #[.int .i64 n] w fun e w' => e = .returned (.bool (decide (-99 ≤ n ∧ n ≤ 99))) ∧ w = w' := by
  by_cases h1 : n < -99
  · have HR := Lib.hid (show decide (-99 ≤ n ∧ n ≤ 99) = false from decide_eq_false (by omega))
    generalize decide (-99 ≤ n ∧ n ≤ 99) = r at HR ⊢
    go_enter Tryz.func102, Tryz.ntmps102
    go_wp2_with (fail)
    go_ret
    exact ⟨ret_bool HR.out.symm, rfl⟩
  · by_cases h2 : 99 < n
    · have HR := Lib.hid (show decide (-99 ≤ n ∧ n ≤ 99) = false from decide_eq_false (by omega))
      generalize decide (-99 ≤ n ∧ n ≤ 99) = r at HR ⊢
      go_enter Tryz.func102, Tryz.ntmps102
      go_wp2_with (fail)
      go_ret
      exact ⟨ret_bool (by rw [HR.out] <;> (simp; try omega)), rfl⟩
    · have HR := Lib.hid (show decide (-99 ≤ n ∧ n ≤ 99) = true from decide_eq_true (by omega))
      generalize decide (-99 ≤ n ∧ n ≤ 99) = r at HR ⊢
      go_enter Tryz.func102, Tryz.ntmps102
      go_wp2_with (fail)
      go_ret
      exact ⟨ret_bool (by rw [HR.out] <;> (simp; try omega)), rfl⟩
set_option maxRecDepth 100000 in
theorem qplace_any (n : Int) (w : World) : Calls Tryz.prog 103 #[.int .i64 n] w fun e w' => e = .returned (.bool (plB n)) ∧ w = w' := by
  have hc : n < -24 ∨ (-24 ≤ n ∧ n ≤ -1) ∨ n = 0 ∨ (1 ≤ n ∧ n ≤ 24) ∨ 24 < n := by omega
  rcases hc with h | ⟨h, h2⟩ | h | ⟨h, h2⟩ | h
  · have HR := Lib.hid (show plB n = false from decide_eq_false (by omega))
    generalize plB n = r at HR ⊢
    have h3 : ¬ 1 ≤ n := by omega
    go_enter Tryz.func103, Tryz.ntmps103
    go_wp2_with (fail)
    go_ret
    exact ⟨ret_bool (by rw [HR.out] <;> (simp; try omega)), rfl⟩
  · have HR := Lib.hid (show plB n = true from decide_eq_true (by omega))
    generalize plB n = r at HR ⊢
    have h3 : ¬ 1 ≤ n := by omega
    go_enter Tryz.func103, Tryz.ntmps103
    go_wp2_with (fail)
    go_ret
    exact ⟨ret_bool (by rw [HR.out] <;> (simp; try omega)), rfl⟩
  · have HR := Lib.hid (show plB n = false from decide_eq_false (by omega))
    generalize plB n = r at HR ⊢
    subst h
    go_enter Tryz.func103, Tryz.ntmps103
    go_wp2_with (fail)
    go_ret
    exact ⟨ret_bool (by rw [HR.out]; try simp; try omega), rfl⟩
  · have HR := Lib.hid (show plB n = true from decide_eq_true (by omega))
    generalize plB n = r at HR ⊢
    go_enter Tryz.func103, Tryz.ntmps103
    go_wp2_with (fail)
    go_ret
    exact ⟨ret_bool (by rw [HR.out] <;> (simp; try omega)), rfl⟩
  · have HR := Lib.hid (show plB n = false from decide_eq_false (by omega))
    generalize plB n = r at HR ⊢
    have h3 : ¬ n ≤ 24 := by omega
    go_enter Tryz.func103, Tryz.ntmps103
    go_wp2_with (fail)
    go_ret
    exact ⟨ret_bool (by rw [HR.out] <;> (simp; try omega)), rfl⟩
set_option maxRecDepth 100000 in
theorem pvar_any {v : Int} (h : 1 ≤ v ∧ v ≤ 4) (w : World) : Calls Tryz.prog 89 #[.int .i64 v] w fun e w' => e = .returned (.string (bs (varW v))) ∧ w = w' := by
  have hc : v = 1 ∨ v = 2 ∨ v = 3 ∨ v = 4 := by omega
  clear h
  rcases hc with rfl | rfl | rfl | rfl
  all_goals
    go_enter Tryz.func89, Tryz.ntmps89
    go_wp2_with (fail)
    go_ret
    exact ⟨rfl, rfl⟩
set_option maxRecDepth 100000 in
theorem pcrit_any {b : Int} (h : 1 ≤ b ∧ b ≤ 12) (w : World) : Calls Tryz.prog 104 #[.int .i64 b] w fun e w' => e = .returned (.string (bs (critW b))) ∧ w = w' := by
  have hc : b = 1 ∨ b = 2 ∨ b = 3 ∨ b = 4 ∨ b = 5 ∨ b = 6 ∨ b = 7 ∨ b = 8 ∨ b = 9 ∨ b = 10 ∨ b = 11 ∨ b = 12 := by omega
  clear h
  rcases hc with rfl | rfl | rfl | rfl | rfl | rfl | rfl | rfl | rfl | rfl | rfl | rfl
  all_goals
    go_enter Tryz.func104, Tryz.ntmps104
    go_wp2_with (fail)
    go_ret
    exact ⟨rfl, rfl⟩
theorem dec_pos1 : ∀ n : Nat, n < 10 → dec (n : Int) = [UInt8.ofNat (48 + n)] := by decide +kernel
theorem dec_pos2 : ∀ n : Nat, n < 100 → 10 ≤ n → dec (n : Int) = dec ((n / 10 : Nat) : Int) ++ [UInt8.ofNat (48 + n % 10)] := by decide +kernel
theorem dec_neg {n : Int} (h : n < 0) : dec n = 45 :: dec (-n) := by
  unfold dec
  rw [if_pos h, if_neg (by omega), Int.natAbs_neg]
section
variable {ops : Array Oper} {rest : List Oper} {o : Oper} {a : Act} {Q : Exit → Act → World → Prop} {w : World}
set_option maxRecDepth 100000 in
/-- Bytes as a string. -/
theorem wpList_convS {x : Operand} (l : List UInt8) (hgd : o.guard = none) (ho : o.op = Op.convert 35 9 x) {A : Option Addr} {n c B : Nat}
    (hx : a.eval x = .slice A n c) (hr : Rd w B 1 A n c (l.map vb)) (h : wpList Tryz.prog ops Q rest (a.put o.dst (.string (bs l))) w) : wpList Tryz.prog ops Q (o :: rest) a w := by
  refine wpList_by hgd (v := .string (bs l)) (w' := w) ?_ h
  unfold execOp
  simp only [ho, hx, Sem.run_bind, hr.conv Tryz.underlying35 Tryz.underlying5 Tryz.underlying9 c]
  rfl
end
end Go.Proofs.YticpjdjdimpglaaGreatDoor
