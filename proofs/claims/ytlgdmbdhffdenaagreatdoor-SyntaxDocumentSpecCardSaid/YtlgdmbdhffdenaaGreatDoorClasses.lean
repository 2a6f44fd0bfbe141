/- lexis.classes by its contract. -/
import Derived.Test.YtlgdmbdhffdenaaGreatDoorProg
import Derived.Test.YtlgdmbdhffdenaaGreatDoorPA
import Derived.Test.YtlgdmbdhffdenaaGreatDoorWide
import Derived.Lib.SlBytesConst
import Derived.Deep.Cut
import Derived.Deep.DeepMust
namespace Go.Proofs.YtlgdmbdhffdenaaGreatDoor
set_option linter.unusedVariables false
set_option linter.unusedSimpArgs false
open Go.RowKit

theorem zero256 (w : World) : (zeroValue 81).run Tryz.prog w = .ok (.agg (mk fun _ => 0)) w := by kernel_rfl
theorem info256 : (Tryz.prog.info? 81).map (·.size) = some 256 := by kernel_rfl

/-- The block of the table, as far as it is filled. -/
def TabAt (B : Nat) (w wr : World) (g : Nat → Nat) : Prop := ∃ f, Blk wr B 81 (mk f) ∧ (∀ x, x < 256 → f x = g x) ∧ Below B w wr
def tabA (k x : Nat) : Nat := if (97 ≤ x ∧ x < k) ∨ (65 ≤ x ∧ x + 32 < k) then 2 else 0

def tabB (k x : Nat) : Nat := if 48 ≤ x ∧ x < k then 3 else tabA 123 x
def sgn : List Nat := [123, 125, 40, 41, 91, 93, 59, 44, 58, 47, 61, 60, 62]
def tabC (k x : Nat) : Nat := if x ∈ sgn.take k then 4 else tabB 58 x
def blk4 : List Nat := [32, 9, 10, 13]
def tabD (k x : Nat) : Nat := if x ∈ blk4.take k then 1 else tabC 13 x

section
variable {B : Nat} {w wr : World} {g : Nat → Nat}
theorem TabAt.congr {g' : Nat → Nat} (h : TabAt B w wr g) (he : ∀ x, x < 256 → g x = g' x) : TabAt B w wr g' := by
  obtain ⟨f, h1, h2, h3⟩ := h
  exact ⟨f, h1, fun x hx => (h2 x hx).trans (he x hx), h3⟩
theorem TabAt.set (h : TabAt B w wr g) (i v : Nat) : TabAt B w (wr.setCell ⟨B, i, none⟩ (.int .u8 (v : Int))) (fun x => if x = i then v else g x) := by
  obtain ⟨f, h1, h2, h3⟩ := h
  refine ⟨fun x => if x = i then v else f x, ?_, fun x hx => by simp only [h2 x hx], h3.setCell (Nat.le_refl _) _⟩
  have := h1.set i (.int .u8 (v : Int))
  rwa [mk_set] at this
theorem TabAt.cell (h : TabAt B w wr g) {x : Nat} (hx : x < 256) : wr.cell? ⟨B, x, none⟩ = some (.int .u8 (g x : Int)) := by
  obtain ⟨f, h1, h2, _⟩ := h
  rw [h1.cell, mk_get f x hx, h2 x hx]
theorem TabAt.free (h : TabAt B w wr g) (x : Nat) : wr.frozen? ⟨B, x, none⟩ = false := by
  obtain ⟨f, h1, _, _⟩ := h
  exact h1.frozen x
end
theorem tabA_step {k : Nat} (h : 97 ≤ k) (x : Nat) : (if x = k - 32 then 2 else if x = k then 2 else tabA k x) = tabA (k + 1) x := by
  unfold tabA
  (repeat' split) <;> omega
theorem tabB_step {k : Nat} (h : 48 ≤ k) (x : Nat) : (if x = k then 3 else tabB k x) = tabB (k + 1) x := by
  unfold tabB
  by_cases h1 : x = k
  · simp [h1]; omega
  · by_cases h2 : 48 ≤ x ∧ x < k
    · rw [if_neg h1, if_pos h2, if_pos (by omega)]
    · rw [if_neg h1, if_neg h2, if_neg (by omega)]
theorem tab_end : ∀ x, x < 256 → tabD 4 x = cls x := by decide +kernel

theorem TabAt.below {B B' : Nat} {w wr wr' : World} {g : Nat → Nat} (h : TabAt B w wr g) (hb : Below B' wr wr') (hB : B < B') : TabAt B w wr' g := by
  obtain ⟨f, h1, h2, h3⟩ := h
  exact ⟨f, h1.below hb hB, h2, h3.trans (hb.mono (by omega))⟩
theorem TabAt.lt {B : Nat} {w wr : World} {g : Nat → Nat} (h : TabAt B w wr g) : B < wr.heap.size := by
  obtain ⟨f, h1, _, _⟩ := h
  exact h1.lt
def sg (k : Nat) : Nat := sgn.getD k 0
def bl (k : Nat) : Nat := blk4.getD k 0
theorem sg_lt (k : Nat) : sg k < 256 := by
  rcases Nat.lt_or_ge k 13 with h | h
  · have : ∀ k, k < 13 → sg k < 256 := by decide
    exact this k h
  · have : sgn.length ≤ k := h
    simp [sg, List.getD, this]
theorem bl_lt (k : Nat) : bl k < 256 := by
  rcases Nat.lt_or_ge k 4 with h | h
  · have : ∀ k, k < 4 → bl k < 256 := by decide
    exact this k h
  · have : blk4.length ≤ k := h
    simp [bl, List.getD, this]
theorem take_get {l : List Nat} {k : Nat} (h : k < l.length) : l.take (k + 1) = l.take k ++ [l.getD k 0] := by
  rw [List.take_succ_eq_append_getElem h]
  simp [h]
theorem tabC_step {k : Nat} (h : k < 13) (x : Nat) : (if x = sg k then 4 else tabC k x) = tabC (k + 1) x := by
  unfold tabC sg
  rw [take_get (l := sgn) h]
  by_cases h1 : x = sgn.getD k 0
  · rw [if_pos h1, if_pos (by simp [h1])]
  · rw [if_neg h1]
    by_cases h2 : x ∈ sgn.take k
    · rw [if_pos h2, if_pos (by simp [h2])]
    · rw [if_neg h2, if_neg (by rw [List.mem_append, List.mem_singleton]; simp [h2]; simpa using h1)]
theorem tabD_step {k : Nat} (h : k < 4) (x : Nat) : (if x = bl k then 1 else tabD k x) = tabD (k + 1) x := by
  unfold tabD bl
  rw [take_get (l := blk4) h]
  by_cases h1 : x = blk4.getD k 0
  · rw [if_pos h1, if_pos (by simp [h1])]
  · rw [if_neg h1]
    by_cases h2 : x ∈ blk4.take k
    · rw [if_pos h2, if_pos (by simp [h2])]
    · rw [if_neg h2, if_neg (by rw [List.mem_append, List.mem_singleton]; simp [h2]; simpa using h1)]
def vals (l : List Nat) : Array Value := (l.map fun (c : Nat) => (.int .u8 (c : Int) : Value)).toArray
theorem vals_get {l : List Nat} {k : Nat} (h : k < l.length) : (vals l)[k]? = some (.int .u8 ((l.getD k 0 : Nat) : Int)) := by simp [vals, h]

def RowF (w : World) (g : Nat) (t : TypeId) (cs : Array Value) (fr : Nat × Nat) : Prop := w.heap[g]? = some (.cells cs t fr)
theorem RowF.cell {w : World} {g : Nat} {t : TypeId} {cs : Array Value} {fr : Nat × Nat} (h : RowF w g t cs fr) (i : Nat) : w.cell? ⟨g, i, none⟩ = cs[i]? := cell_of_row w g i cs t fr h
theorem RowF.far {w : World} {g : Nat} {t : TypeId} {cs : Array Value} {fr : Nat × Nat} (h : RowF w g t cs fr) {p : Addr} (hp : g ≠ p.block) (u : Value) : RowF (w.setCell p u) g t cs fr := (Below.heap_setCell w p u g hp).trans h

set_option maxHeartbeats 1000000 in
set_option maxRecDepth 100000 in
theorem classes_any (w : World) : Calls Tryz.prog 44 #[] w fun e w' => e = .returned (.agg (mk cls)) ∧ Below w.heap.size w w' := by
  have hbl := (Below.refl w.heap.size w).alloc (Nat.le_refl _) (.cells (mk fun _ => 0) 81)
  have hbk := Blk.new w 81 (mk fun _ => 0)
  have HT : TabAt w.heap.size w (w.alloc (.cells (mk fun _ => 0) 81)) (tabA 97) := ⟨_, hbk, fun x hx => by unfold tabA; split <;> omega, hbl⟩
  clear hbl hbk
  have kc := fun (w : World) (C : Array Value) (n c : Nat) => Lib.run_convert_bytes_const (P := Tryz.prog) w 22 5 C n c Tryz.underlying22 Tryz.underlying5
  go_enter Tryz.func44, Tryz.ntmps44
  go_wp2_with (with_reducible refine wpList_alloc_row rfl _ rfl _ _ zero256 rfl ?_)
  generalize hw1 : w.alloc (.cells (mk fun _ => 0) 81) = w1 at HT ⊢
  clear hw1
  generalize hB : w.heap.size = B at HT ⊢
  go_loopw [1] (fun b wr => ∃ k : Nat, b = .int .u8 k ∧ 97 ≤ k ∧ k ≤ 123 ∧ TabAt B w wr (tabA k)) (fun b _ => 123 - (intOf b).toNat)
  case atStart => exact ⟨97, rfl, by omega, by omega, HT⟩
  case round =>
    obtain ⟨k, rfl, hk1, hk2, HTk⟩ := hrel
    by_cases hlt : k ≤ 122
    · have c1 := HTk.cell (x := k) (by omega)
      have f1 := HTk.free k
      have c2 := HTk.cell (x := k - 32) (by omega)
      have f2 := HTk.free (k - 32)
      have HN := Lib.hid (((HTk.set k 2).set (k - 32) 2).congr fun x _ => tabA_step hk1 x)
      clear HTk
      go_wp2
      go_roundw
      case rel => exact ⟨k + 1, by go_num, by omega, by omega, HN.out⟩
      case measure => simp [intOf]; omega
    · have HT1 := Lib.hid (HTk.congr fun x _ => show tabA k x = tabB 48 x by rw [show k = 123 from by omega]; unfold tabB; rw [if_neg (by omega)])
      clear HTk HT
      go_wp2
      generalize wr = w2 at *
      go_loopw [2] (fun b wr => ∃ k : Nat, b = .int .u8 k ∧ 48 ≤ k ∧ k ≤ 58 ∧ TabAt B w wr (tabB k)) (fun b _ => 58 - (intOf b).toNat)
      case atStart => exact ⟨48, rfl, by omega, by omega, HT1.out⟩
      case round =>
        obtain ⟨k, rfl, hk1, hk2, HTk⟩ := hrel
        by_cases hlt : k ≤ 57
        · have c1 := HTk.cell (x := k) (by omega)
          have f1 := HTk.free k
          have HN := Lib.hid ((HTk.set k 3).congr fun x _ => tabB_step hk1 x)
          clear HTk
          go_wp2
          go_roundw
          case rel => exact ⟨k + 1, by go_num, by omega, by omega, HN.out⟩
          case measure => simp [intOf]; omega
        · have HT2 := Lib.hid (HTk.congr fun x _ => show tabB k x = tabC 0 x by rw [show k = 58 from by omega]; simp [tabC])
          clear HTk HT1
          go_wp2
          have hS : RowF (wr.alloc (.cells #[.int .u8 123, .int .u8 125, .int .u8 40, .int .u8 41, .int .u8 91, .int .u8 93, .int .u8 59, .int .u8 44, .int .u8 58, .int .u8 47, .int .u8 61, .int .u8 60, .int .u8 62] 5 (13, 14))) wr.heap.size 5 (vals sgn) (13, 14) := heap_alloc_new wr _
          have HT3 := HT2.out.below ((Below.refl wr.heap.size wr).alloc (Nat.le_refl _) (.cells #[.int .u8 123, .int .u8 125, .int .u8 40, .int .u8 41, .int .u8 91, .int .u8 93, .int .u8 59, .int .u8 44, .int .u8 58, .int .u8 47, .int .u8 61, .int .u8 60, .int .u8 62] 5 (13, 14))) HT2.out.lt
          have hBS := HT2.out.lt
          generalize wr.alloc (.cells #[.int .u8 123, .int .u8 125, .int .u8 40, .int .u8 41, .int .u8 91, .int .u8 93, .int .u8 59, .int .u8 44, .int .u8 58, .int .u8 47, .int .u8 61, .int .u8 60, .int .u8 62] 5 (13, 14)) = w3 at hS HT3 ⊢
          generalize wr.heap.size = S at hS hBS ⊢
          clear HT2
          go_loopw [4, 25] (fun _ i wx => ∃ k : Nat, i = .int .i64 k ∧ k ≤ 13 ∧ TabAt B w wx (tabC k) ∧ RowF wx S 5 (vals sgn) (13, 14)) (fun _ i _ => 13 - (intOf i).toNat)
          case atStart => exact ⟨0, rfl, by omega, HT3, hS⟩
          case round =>
            obtain ⟨k, rfl, hk2, HTk, hSk⟩ := hrel
            by_cases hlt : k < 13
            · have c0 : wr.cell? ⟨S, k, none⟩ = some (.int .u8 (sg k : Int)) := (hSk.cell k).trans (vals_get (l := sgn) hlt)
              have b0 : (0 : Int) ≤ (sg k : Int) := by omega
              have b1 : (sg k : Int) < 256 := by have := sg_lt k; omega
              have c1 := HTk.cell (sg_lt k)
              have f1 := HTk.free (sg k)
              have HN := Lib.hid ((HTk.set (sg k) 4).congr fun x _ => tabC_step hlt x)
              have HS := Lib.hid (hSk.far (p := ⟨B, sg k, none⟩) (by show S ≠ B; omega) (.int .u8 4))
              clear HTk hSk
              go_wp2
              go_roundw
              case rel => exact ⟨k + 1, by go_num, by omega, HN.out, HS.out⟩
              case measure => simp [intOf]; omega
            · have HT4 := Lib.hid (HTk.congr fun x _ => show tabC k x = tabD 0 x by rw [show k = 13 from by omega]; simp [tabD])
              clear HTk hSk HT3
              go_wp2
              have hS : RowF (wr.alloc (.cells #[.int .u8 32, .int .u8 9, .int .u8 10, .int .u8 13] 5)) wr.heap.size 5 (vals blk4) (0, 0) := heap_alloc_new wr _
              have HT5 := HT4.out.below ((Below.refl wr.heap.size wr).alloc (Nat.le_refl _) (.cells #[.int .u8 32, .int .u8 9, .int .u8 10, .int .u8 13] 5)) HT4.out.lt
              have hBS := HT4.out.lt
              generalize wr.alloc (.cells #[.int .u8 32, .int .u8 9, .int .u8 10, .int .u8 13] 5) = w4 at hS HT5 ⊢
              generalize wr.heap.size = S4 at hS hBS ⊢
              clear HT4
              go_loopw [6, 34] (fun _ i wx => ∃ k : Nat, i = .int .i64 k ∧ k ≤ 4 ∧ TabAt B w wx (tabD k) ∧ RowF wx S4 5 (vals blk4) (0, 0)) (fun _ i _ => 4 - (intOf i).toNat)
              case atStart => exact ⟨0, rfl, by omega, HT5, hS⟩
              case round =>
                obtain ⟨k, rfl, hk2, HTk, hSk⟩ := hrel
                by_cases hlt : k < 4
                · have c0 : wr.cell? ⟨S4, k, none⟩ = some (.int .u8 (bl k : Int)) := (hSk.cell k).trans (vals_get (l := blk4) hlt)
                  have b0 : (0 : Int) ≤ (bl k : Int) := by omega
                  have b1 : (bl k : Int) < 256 := by have := bl_lt k; omega
                  have c1 := HTk.cell (bl_lt k)
                  have f1 := HTk.free (bl k)
                  have HN := Lib.hid ((HTk.set (bl k) 1).congr fun x _ => tabD_step hlt x)
                  have HS := Lib.hid (hSk.far (p := ⟨B, bl k, none⟩) (by show S4 ≠ B; omega) (.int .u8 1))
                  clear HTk hSk
                  go_wp2
                  go_roundw
                  case rel => exact ⟨k + 1, by go_num, by omega, HN.out, HS.out⟩
                  case measure => simp [intOf]; omega
                · obtain ⟨f, hf1, hf2, hf3⟩ := HTk.congr fun x hx => (show tabD k x = tabD 4 x by rw [show k = 4 from by omega]).trans (tab_end x hx)
                  rw [mk_congr hf2] at hf1
                  have HB := Lib.hid hf1
                  have HL := Lib.hid hf3
                  clear HTk hSk hf1 hf2 hf3
                  go_upto_region 19 with (fail)
                  go_wp2_with (first
                    | refine wpList_load_row rfl 81 (.tmp 0) rfl B rfl 81 (mk cls) (0, 0) _ HB.out Tryz.underlying81 rfl (by rw [mk_size]; exact info256) ?_
                    | refine wpList_store_row rfl 81 (.tmp 0) (.tmp 41) rfl B rfl (mk cls) (mk cls) rfl 81 HB.out rfl (by rw [mk_size]; exact info256) (mk_one cls) ?_)
                  refine bodyPost_ret (results_cell_row rfl _ _ B 81 (mk cls) (0, 0) _ rfl (HB.out.setRow (mk cls)) Tryz.underlying81 rfl (by rw [mk_size]; exact info256)) rfl ⟨rfl, ?_⟩
                  rw [hB]; exact Below.setRow HL.out (Nat.le_refl _) _
end Go.Proofs.YtlgdmbdhffdenaaGreatDoor
