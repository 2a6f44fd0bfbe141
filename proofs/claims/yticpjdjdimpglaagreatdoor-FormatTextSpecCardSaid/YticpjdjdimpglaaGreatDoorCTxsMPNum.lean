/- The reference's number by its contract. -/
import Derived.Test.YticpjdjdimpglaaGreatDoorCTxsMPSm
import Derived.Test.YticpjdjdimpglaaGreatDoorCTxsMWText3
namespace Go.Proofs.YticpjdjdimpglaaGreatDoor
set_option linter.unusedVariables false
set_option linter.unusedSimpArgs false
open Go.RowKit
theorem dig_nat : ∀ n : Nat, n < 10 → (UInt8.ofNat (48 + n)).toNat = 48 + n := by decide +kernel
theorem vb_dig (n : Nat) (h : n < 10) : vb (UInt8.ofNat (48 + n)) = .int .u8 (48 + (n : Int)) := by
  unfold vb
  rw [dig_nat n h]
  simp
set_option maxRecDepth 100000 in
theorem conv_dig (n : Nat) (hn : n < 10) (X : List UInt8) (hX : [UInt8.ofNat (48 + n)] = X) (W : World) (g : Nat) (h : W.cell? ⟨g, 0, none⟩ = some (.int .u8 (48 + (n : Int)))) : (convert 35 9 (.slice (some ⟨g, 0, none⟩) 1 1)).run Tryz.prog W = .ok (.string (bs X)) W := by
  subst hX
  have hr : Rd W W.heap.size 1 (some ⟨g, 0, none⟩) 1 1 ([UInt8.ofNat (48 + n)].map vb) := by
    refine ⟨rfl, Nat.le_refl _, by simp [maxLen], fun _ => ⟨g, 0, rfl, World.block_lt_of_cell? W _ h, fun j u hj => ?_⟩⟩
    rw [List.map_cons, List.map_nil, vb_dig n hn] at hj
    match j with
    | 0 => rw [Nat.zero_add, h]; simpa using hj
    | j + 1 => simp at hj
  exact hr.conv Tryz.underlying35 Tryz.underlying5 Tryz.underlying9 1
theorem rd_dig (n : Nat) (hn : n < 10) (w : World) : ∃ B, Rd (w.alloc (.cells #[.int .u8 (48 + (n : Int))] 5)) B 1 (some ⟨w.heap.size, 0, none⟩) 1 1 ([UInt8.ofNat (48 + n)].map vb) := by
  refine ⟨_, own_rd (own_of_blk2 (base := 0) (m := 1) (size := 1) (xs := [UInt8.ofNat (48 + n)].map vb) (t := 5) ?_ rfl (Nat.zero_le _) (by omega))⟩
  rw [List.map_cons, List.map_nil, vb_dig n hn]
  exact Blk.new _ _ _
theorem conv_digA (n : Nat) (hn : n < 10) (X : List UInt8) (hX : [UInt8.ofNat (48 + n)] = X) (W : World) : (convert 35 9 (.slice (some ⟨W.heap.size, 0, none⟩) 1 1)).run Tryz.prog (W.alloc (.cells #[.int .u8 (48 + (n : Int))] 5)) = .ok (.string (bs X)) (W.alloc (.cells #[.int .u8 (48 + (n : Int))] 5)) :=
  conv_dig n hn X hX _ _ ((Blk.new W 5 #[.int .u8 (48 + (n : Int))]).cell 0)
theorem below_ad (w : World) (o : Obj) : Below w.heap.size w (w.alloc o).drew := ((Below.refl _ _).alloc (Nat.le_refl _) o).trans ⟨rfl, rfl, rfl, Nat.le_refl _, fun _ _ => rfl⟩
theorem below_ad2 {w wn : World} {o : Obj} (h : Below (w.alloc o).drew.heap.size (w.alloc o).drew wn) : Below w.heap.size w wn := (below_ad w o).trans (h.mono (below_ad w o).size)
theorem cell_ad {w wn : World} {v : Value} {t : TypeId} (h : Below (w.alloc (.cells #[v] t)).drew.heap.size (w.alloc (.cells #[v] t)).drew wn) : wn.cell? ⟨w.heap.size, 0, none⟩ = some v :=
  (h.cell (p := ⟨w.heap.size, 0, none⟩) (by show w.heap.size < (w.alloc (.cells #[v] t)).heap.size; simp)).trans ((Blk.new w t #[v]).cell 0)
set_option maxHeartbeats 4000000 in
set_option maxRecDepth 100000 in
theorem pnum1 (n : Nat) (hn : n < 10) (w : World) : Calls Tryz.prog 58 #[.int .i64 (n : Int)] w fun e w' => e = .returned (.string (bs (dec (n : Int)))) ∧ Below w.heap.size w w' := by
  have HD := Lib.hid (dec_pos1 n hn)
  have HN := Lib.hid hn
  generalize dec (n : Int) = s at HD ⊢
  have h0 : ¬ (n : Int) < 0 := by omega
  have h1 : (n : Int) < 10 := by omega
  go_enter Tryz.func58, Tryz.ntmps58
  go_wp2_with (with_reducible refine at_op (Op.convert 35 9 (.tmp 14)) rfl ?_; refine Hid.out ?_)
  refine Lib.hid ?_
  obtain ⟨B, hB⟩ := rd_dig n HN.out w
  refine wpList_convS [UInt8.ofNat (48 + n)] rfl rfl rfl hB ?_
  clear hB
  rw [← HD.out]
  go_wp2_with (fail)
  first | (refine calls_named ?_; intro W hW) | (refine body_named ?_; intro W hW) | (refine wpList_named ?_; intro W hW) | (refine wp_named ?_; intro W hW)
  have hb : Below w.heap.size w W := by rw [← hW]; exact (Below.refl _ _).alloc (Nat.le_refl _) _
  clear hW
  go_ret
  exact ⟨rfl, hb⟩
set_option maxHeartbeats 800000 in
set_option maxRecDepth 100000 in
theorem pnum2 (n : Nat) (hn : n < 100) (h10 : 10 ≤ n) (w : World) : Calls Tryz.prog 58 #[.int .i64 (n : Int)] w fun e w' => e = .returned (.string (bs (dec (n : Int)))) ∧ Below w.heap.size w w' := by
  have HD := Lib.hid (dec_pos2 n hn h10)
  generalize dec (n : Int) = s at HD ⊢
  obtain ⟨q, hq⟩ : ∃ q, n / 10 = q := ⟨_, rfl⟩
  obtain ⟨d, hd⟩ : ∃ d, n % 10 = d := ⟨_, rfl⟩
  have hd10 : d < 10 := by omega
  have hq10 : q < 10 := by omega
  rw [hq, hd] at HD
  obtain ⟨X, hX⟩ : ∃ X, [UInt8.ofNat (48 + d)] = X := ⟨_, rfl⟩
  have hXl : X.length = 1 := by rw [← hX]; rfl
  rw [hX] at HD
  have HX := Lib.hid hX
  clear hX
  have HQ := Lib.hid (fun W => pnum1 q hq10 W)
  have hl := (dec_len (n := (q : Int)) (by omega))
  generalize dec (q : Int) = t at HD HQ hl
  have HD10 := Lib.hid hd10
  have h0 : ¬ (n : Int) < 0 := by omega
  have h1 : ¬ (n : Int) < 10 := by omega
  have e1 : (n : Int) / 10 = (q : Int) := by omega
  have e2 : (n : Int) % 10 = (d : Int) := by omega
  have e3 : Int.tdiv (n : Int) 10 = (q : Int) := by rw [Int.tdiv_eq_ediv_of_nonneg (by omega)]; omega
  have e4 : Int.tmod (n : Int) 10 = (d : Int) := by rw [Int.tmod_eq_emod_of_nonneg (by omega)]; omega
  have hdi : (d : Int) < 10 := by omega
  have hs : ¬ (9223372036854775807 < t.length + 1) := by omega
  clear hn h10 hq hd
  go_enter Tryz.func58, Tryz.ntmps58
  go_wp2_with (fail)
  have ht1 : IntKind.i64.wrap (q : Int) = (q : Int) := wrapI (by omega)
  have ht2 : IntKind.i64.wrap (d : Int) = (d : Int) := wrapI (by omega)
  have ht3 : IntKind.u8.wrap (d : Int) = (d : Int) := by simp [IntKind.wrap, IntKind.bits, IntKind.signed]; omega
  have ht4 : IntKind.u8.wrap (48 + (d : Int)) = 48 + (d : Int) := by simp [IntKind.wrap, IntKind.bits, IntKind.signed]; omega
  clear hdi
  have hcv1 := conv_digA d HD10.out X HX.out w
  have hcv2 : (convert 35 9 (.slice (some ⟨w.heap.size, 0, none⟩) 1 1)).run Tryz.prog (w.alloc (.cells #[.int .u8 (48 + (d : Int))] 5)).drew = .ok (.string (bs X)) (w.alloc (.cells #[.int .u8 (48 + (d : Int))] 5)).drew := conv_dig d HD10.out X HX.out _ _ ((Blk.new w 5 #[.int .u8 (48 + (d : Int))]).cell 0)
  go_region_with (first
    | (go_at_call 58; (with_reducible refine (HQ.out w.drew).mono ?_); rintro e wn ⟨rfl, hbn⟩; have hcv := conv_digA d HD10.out X HX.out wn; have HB := Lib.hid ((show Below w.heap.size w w.drew from ⟨rfl, rfl, rfl, Nat.le_refl _, fun _ _ => rfl⟩).trans hbn); clear hbn)
    | (go_at_call 58; (with_reducible refine (HQ.out (w.alloc (.cells #[.int .u8 (48 + (d : Int))] 5)).drew).mono ?_); rintro e wn ⟨rfl, hbn⟩; have hcv := conv_dig d HD10.out X HX.out wn w.heap.size (cell_ad hbn); have HB := Lib.hid (below_ad2 hbn); clear hbn)
    | (go_at_call 58; trace_state; fail))
  · clear hcv hcv1 hcv2
    go_wp2_with (fail)
    first | (refine calls_named ?_; intro W hW) | (refine body_named ?_; intro W hW) | (refine wpList_named ?_; intro W hW) | (refine wp_named ?_; intro W hW)
    have hb : Below w.heap.size w W := by rw [← hW]; exact HB.out.alloc HB.out.size _
    clear hW
    go_ret
    exact ⟨congrArg (fun l => Ending.returned (.string l)) (by rw [HD.out, bs_add]), hb⟩
  all_goals
    clear hcv1 hcv2
    go_wp2_with (fail)
    go_ret
    exact ⟨congrArg (fun l => Ending.returned (.string l)) (by rw [HD.out, bs_add]), HB.out⟩
set_option maxHeartbeats 4000000 in
set_option maxRecDepth 100000 in
/-- The reference's number, at small numbers. -/
theorem pnum_any {n : Int} (h : -99 ≤ n ∧ n ≤ 99) (w : World) : Calls Tryz.prog 58 #[.int .i64 n] w fun e w' => e = .returned (.string (bs (dec n))) ∧ Below w.heap.size w w' := by
  have hpos : ∀ m : Nat, m < 100 → ∀ W, Calls Tryz.prog 58 #[.int .i64 (m : Int)] W fun e w' => e = .returned (.string (bs (dec (m : Int)))) ∧ Below W.heap.size W w' := fun m hm W => by
    by_cases h10 : 10 ≤ m
    · exact pnum2 m hm h10 W
    · exact pnum1 m (by omega) W
  by_cases hn : n < 0
  · obtain ⟨m, hm⟩ : ∃ m : Nat, (m : Int) = -n := ⟨n.natAbs, by omega⟩
    have HD := Lib.hid (dec_neg hn)
    rw [← hm] at HD
    have hl := dec_len (n := (m : Int)) (by omega)
    have HP := Lib.hid (hpos m (by omega))
    generalize dec n = s at HD ⊢
    generalize dec (m : Int) = t at HD HP hl
    have hs : ¬ (9223372036854775807 < 1 + t.length) := by omega
    have en : -n = (m : Int) := hm.symm
    clear hm hpos
    go_enter Tryz.func58, Tryz.ntmps58
    go_wp2_with (fail)
    refine (HP.out w).mono ?_
    rintro e w1 ⟨rfl, hb⟩
    have HB := Lib.hid hb
    clear hb
    go_wp2_with (fail)
    go_ret
    exact ⟨congrArg (fun l => Ending.returned (.string l)) (by rw [HD.out, show ({ data := #[45] } : ByteArray) = bs [45] from rfl, bs_add]; rfl), HB.out⟩
  · obtain ⟨m, rfl⟩ : ∃ m : Nat, n = (m : Int) := ⟨n.natAbs, by omega⟩
    exact hpos m (by omega) w
end Go.Proofs.YticpjdjdimpglaaGreatDoor
