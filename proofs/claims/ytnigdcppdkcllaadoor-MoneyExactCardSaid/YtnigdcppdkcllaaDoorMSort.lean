/- slices.SortFunc at the parts of an amount, by its contract in words of my own. -/
import Derived.Test.YtnigdcppdkcllaaDoorMBef2
import Derived.Test.YtnigdcppdkcllaaDoorSortS
import Derived.Test.YtnigdcppdkcllaaDoorSplitPlain
import Derived.Test.YtnigdcppdkcllaaDoorApp
import Derived.Shelf.SlSortFuncK.HeapSortK
namespace Go.Proofs.YtnigdcppdkcllaaDoor
set_option linter.unusedVariables false
set_option linter.unusedSimpArgs false
open Go.RowKit Go.Sort Go.Shelf

instance ptInh : Inhabited Pt := ⟨⟨0, 0, 0⟩⟩
theorem bef_lt (p q : Pt) : ltOf befI p q = decide (q.re < p.re ∨ (q.re = p.re ∧ p.ix < q.ix)) := by
  unfold ltOf befI orI cmpI
  rw [decide_eq_decide]
  have key : ∀ a b c d : Int, ((if (if b < a then (-1 : Int) else if a < b then 1 else 0) = 0 then (if c < d then (-1 : Int) else if d < c then 1 else 0) else (if b < a then (-1 : Int) else if a < b then 1 else 0)) < 0 ↔ (b < a ∨ (b = a ∧ c < d))) := by
    intro a b c d
    by_cases h1 : b < a
    · have h2 : ¬ a < b := by omega
      simp [h1]
    · by_cases h2 : a < b
      · simp [h1, h2]; omega
      · have h3 : b = a := by omega
        subst h3
        by_cases h4 : c < d
        · simp [h4]
        · by_cases h5 : d < c <;> simp [h4, h5]
  exact key p.re q.re p.ix q.ix
theorem bef_swo : SWO (ltOf befI) where
  irrefl x := by rw [bef_lt]; exact decide_eq_false (by omega)
  trans x y z h1 h2 := by rw [bef_lt] at *; simp at *; omega
  ntrans x y z h1 h2 := by rw [bef_lt] at *; simp at *; omega

theorem encP_len (p : Pt) : (encP p).length = 3 := rfl
theorem flatP_len (d : List Pt) : (d.flatMap encP).length = d.length * 3 := by
  induction d with
  | nil => rfl
  | cons p d ih => rw [List.flatMap_cons, List.length_append, ih, encP_len, List.length_cons]; omega
theorem flatP_get : ∀ (d : List Pt) (k j : Nat) (hk : k < d.length), j < 3 → (d.flatMap encP)[k * 3 + j]? = (encP d[k])[j]?
  | [], k, j, hk, _ => by simp at hk
  | p :: d, 0, j, _, hj => by rw [List.flatMap_cons, Nat.zero_mul, Nat.zero_add, List.getElem?_append_left (by rw [encP_len]; exact hj)]; rfl
  | p :: d, k + 1, j, hk, hj => by
    rw [List.flatMap_cons, List.getElem?_append_right (by rw [encP_len]; omega), encP_len, show (k + 1) * 3 + j - 3 = k * 3 + j by omega, flatP_get d k j (by simpa using hk) hj]
    rfl

/-- The cells of the parts d from block g on. -/
def PtsAt (W : World) (g : Nat) (d : List Pt) : Prop := ∀ k p, d[k]? = some p → W.cell? ⟨g, k * 3, none⟩ = some (.int .i64 p.ix) ∧ W.cell? ⟨g, k * 3 + 1, none⟩ = some (.int .i64 p.ce) ∧ W.cell? ⟨g, k * 3 + 2, none⟩ = some (.int .i64 p.re)

theorem grown_sortW (W : World) (g off m : Nat) (d : Array Pt) (os : Array Obj) : W.grownBy (sortWorldK encP 3 W g off m d os) (some g) := by
  unfold sortWorldK putRowK putRow mapBlock
  refine ⟨rfl, rfl, rfl, ?_, fun k hk hne => ?_⟩
  · show W.heap.size ≤ ((Array.modify W.heap g _) ++ os).size
    simp
  · show ((Array.modify W.heap g _) ++ os)[k]? = W.heap[k]?
    rw [Array.getElem?_append_left (by simpa using hk), Array.getElem?_modify]
    have : g ≠ k := fun e => hne (by rw [e])
    simp [this]

theorem aggPart (w : World) : (isAgg 45).run Tryd.prog w = .ok true w := by kernel_rfl
theorem sizePart (w : World) : (Go.sizeOf 45).run Tryd.prog w = .ok 3 w := by kernel_rfl
set_option maxHeartbeats 400000 in
theorem sort_any (W : World) (base g n cap : Nat) (d : List Pt) (hn : d.length = n) (h0 : 0 < n) (hs : n ≤ 1000) (hrow : W.ownsRow base 45 3 (.slice (some ⟨g, 0, none⟩) n cap) n (d.flatMap encP)) :
    Calls Tryd.prog 25 #[.slice (some ⟨g, 0, none⟩) n cap, .func (.func 26) #[] #[]] W fun e w' => e = .returned (.tuple #[]) ∧
      ∃ d' : List Pt, d'.Perm d ∧ d'.Pairwise (fun p q => ¬ (p.re < q.re ∨ (p.re = q.re ∧ q.ix < p.ix))) ∧ PtsAt w' g d' ∧ W.grownBy w' (some g) := by
  have hcells := hrow.cells (g := g) rfl
  have hadd : ∀ j, (⟨g, 0, none⟩ : Addr).add j = ⟨g, j, none⟩ := fun j => by unfold Addr.add; split <;> simp_all
  have hfz : ∀ j, W.frozen? ⟨g, j, none⟩ = false := fun j => by
    rcases hrow.2 with ⟨e1, _⟩ | ⟨g', cap', cur, e1, _, hh, _⟩
    · cases e1
    · injection e1 with e1
      injection e1 with e1
      injection e1 with e1
      subst e1
      simp [World.frozen?, hh]
  have hblk : g < W.heap.size := by
    rcases hrow.2 with ⟨e1, _⟩ | ⟨g', cap', cur, e1, _, hh, _⟩
    · cases e1
    · injection e1 with e1
      injection e1 with e1
      injection e1 with e1
      subst e1
      exact (Array.getElem?_eq_some_iff.1 hh).1
  have hsz : d.toArray.size = n := by simpa using hn
  have hH : HoldsK encP 3 W g 0 d.toArray := by
    intro t ht
    rw [size_flatK] at ht
    refine ⟨?_, by rw [Nat.zero_add]; exact hfz t⟩
    rw [get_flatK _ _ _ _ ht]
    have hk : t / 3 < d.length := by rw [hsz] at ht; omega
    have hj : t % 3 < 3 := Nat.mod_lt _ (by omega)
    have e : t / 3 * 3 + t % 3 = t := by omega
    have h1 := flatP_get d (t / 3) (t % 3) hk hj
    rw [e] at h1
    have hlt : t % 3 < (encP d[t / 3]).length := by rw [encP_len]; exact hj
    rw [List.getElem?_eq_getElem hlt] at h1
    have h2 := hcells t _ h1
    rw [hadd] at h2
    rw [Nat.zero_add, h2]
    congr 1
    have hk' : t / 3 < d.toArray.size := by simpa using hk
    rw [getElem!_pos d.toArray (t / 3) hk', getElem!_pos _ (t % 3) (by rw [encP_len]; exact hj)]
    simp
  have eg : ∀ args w, (callFunc 26 args).run Tryd.prog w = .ok (.enter 26 args) w := enters_of Tryd.func26 (by kernel_rfl) rfl
  have hcmp : CmpLays Tryd.prog 26 #[] encP 3 befI g 0 d.toArray.size W := fun _ _ _ _ x y => before_any x y _
  have hcon := AnyQ.slices_SortFunc Tryd.laysSort 3 aggPart sizePart encP encP_len (fun x v hv => by simp [encP] at hv; rcases hv with rfl | rfl | rfl <;> rfl) befI bef_swo 26 #[] g 0 cap d.toArray W eg hcmp hH hblk (by rw [hsz]; omega)
  rw [hsz] at hcon
  change Calls Tryd.prog 25 _ _ _ at hcon
  refine hcon.mono fun e w' ⟨he, d', nn, os, hp, hs', hw⟩ => ⟨he, d'.toList, ?_, ?_, ?_, hw ▸ grown_sortW W g 0 nn d' os⟩
  · have h1 := hp.2.2
    have h2 : d'.size = n := hp.1.trans hsz
    rw [show d'.extract 0 n = d' from by rw [← h2]; exact Array.extract_size, show d.toArray.extract 0 n = d.toArray from by rw [← hsz]; exact Array.extract_size] at h1
    exact h1
  · rw [List.pairwise_iff_getElem]
    intro i j hi hj hij
    have h2 : d'.size = n := hp.1.trans hsz
    have hj' : j < d'.size := by simpa using hj
    have hi' : i < d'.size := by simpa using hi
    have h3 := hs' i j (Nat.zero_le _) hij (by omega)
    rw [bef_lt, getElem!_pos d' i hi', getElem!_pos d' j hj'] at h3
    simpa using h3
  · intro k p hkp
    have h2 : d'.size = d.toArray.size := hp.1
    have hk : k < d'.size := by
      have := (List.getElem?_eq_some_iff.1 hkp).1
      simpa using this
    have hHs := holdsK_sortWorldK_c encP 3 W g 0 d.toArray d' nn os hH hblk h2
    rw [← hw] at hHs
    have hpk : d'[k]! = p := by
      rw [getElem!_pos d' k hk]
      have := (List.getElem?_eq_some_iff.1 hkp).2
      simpa using this
    have c0 := hHs.cell hk (show 0 < 3 by omega)
    have c1 := hHs.cell hk (show 1 < 3 by omega)
    have c2 := hHs.cell hk (show 2 < 3 by omega)
    rw [hpk] at c0 c1 c2
    simp only [Nat.zero_add, Nat.add_zero] at c0 c1 c2
    exact ⟨c0.1, c1.1, c2.1⟩
end Go.Proofs.YtnigdcppdkcllaaDoor
