/- What the sorted parts say: plain laws between the sort and Split's answer. No program. -/
import Derived.Test.YtnigdcppdkcllaaDoorMIter
namespace Go.Proofs.YtnigdcppdkcllaaDoor
set_option linter.unusedVariables false
set_option linter.unusedSimpArgs false
open Go.RowKit

theorem pairwise_and {α : Type} {R S : α → α → Prop} : ∀ {l : List α}, l.Pairwise R → l.Pairwise S → l.Pairwise (fun x y => R x y ∧ S x y)
  | [], _, _ => .nil
  | _ :: _, .cons h1 h2, .cons h3 h4 => .cons (fun y hy => ⟨h1 y hy, h3 y hy⟩) (pairwise_and h2 h4)
theorem sorted_parts {a s : Int} {ws : List Int} {n : Nat} {d : List Pt} (hp : d.Perm (upto a s ws n)) (hs : d.Pairwise (fun p q => ¬ (p.re < q.re ∨ (p.re = q.re ∧ q.ix < p.ix)))) :
    ∃ L : List Nat, d = L.map (ptAt a s ws) ∧ L.Perm (List.range n) ∧ L.Pairwise (ahead (rst a s ws)) := by
  have hmem : ∀ p ∈ d, ptAt a s ws p.ix.toNat = p := fun p hpd => by
    have := hp.mem_iff.1 hpd
    unfold upto at this
    obtain ⟨k, _, rfl⟩ := List.mem_map.1 this
    simp [ptAt]
  have e1 : d = (d.map fun p => p.ix.toNat).map (ptAt a s ws) := by
    rw [List.map_map]
    conv => lhs; rw [← List.map_id d]
    exact List.map_congr_left fun p hp' => (hmem p hp').symm
  have e2 : (d.map fun p => p.ix.toNat).Perm (List.range n) := by
    have h := hp.map (fun p => p.ix.toNat)
    have e : (upto a s ws n).map (fun p => p.ix.toNat) = List.range n := by
      unfold upto
      rw [List.map_map]
      conv => rhs; rw [← List.map_id (List.range n)]
      exact List.map_congr_left fun k _ => by simp [ptAt]
    rwa [e] at h
  generalize (d.map fun p => p.ix.toNat) = L at e1 e2
  subst e1
  refine ⟨L, rfl, e2, ?_⟩
  rw [List.pairwise_map] at hs
  have hnd : L.Nodup := e2.nodup_iff.2 List.nodup_range
  refine (pairwise_and hs hnd).imp fun {i j} ⟨h1, h2⟩ => ?_
  unfold ahead
  simp only [ptAt] at h1
  omega
/-- The cents when k rounds are over. -/
def FilB (L : List Nat) (lf : Nat) (k x : Nat) : Bool := decide (x ∈ L.take (min k lf))
def Fil (sg : Int) (ce : Nat → Int) (L : List Nat) (lf : Nat) (k : Nat) (x : Nat) : Int := if x ∈ L.take k then sg * ce x + (if x ∈ L.take (min k lf) then sg else 0) else 0
theorem fil_zero (sg : Int) (ce : Nat → Int) (L : List Nat) (lf : Nat) : Fil sg ce L lf 0 = fun _ => 0 := by funext x; simp [Fil]
theorem take_snoc' {L : List Nat} {k y : Nat} (h : L[k]? = some y) : L.take (k + 1) = L.take k ++ [y] := by
  rw [List.take_add_one, h]; rfl
theorem not_taken {L : List Nat} (hn : L.Nodup) {k y : Nat} (h : L[k]? = some y) : y ∉ L.take k := by
  intro hy
  rw [← List.take_append_drop k L, List.nodup_append] at hn
  have hd : y ∈ L.drop k := List.mem_of_getElem? (i := 0) (by rw [List.getElem?_drop]; exact h)
  exact hn.2.2 y hy y hd rfl
theorem fil_more {sg : Int} {ce : Nat → Int} {L : List Nat} {lf k y : Nat} (hn : L.Nodup) (h : L[k]? = some y) (hk : k < lf) :
    (fun x => if x = y then sg * ce y + sg else if x = y then sg * ce y else Fil sg ce L lf k x) = Fil sg ce L lf (k + 1) := by
  funext x
  have h1 := not_taken hn h
  unfold Fil
  rw [show min (k + 1) lf = k + 1 from by omega, show min k lf = k from by omega, take_snoc' h]
  by_cases hx : x = y
  · subst hx; simp
  · simp [hx]
theorem fil_less {sg : Int} {ce : Nat → Int} {L : List Nat} {lf k y : Nat} (hn : L.Nodup) (h : L[k]? = some y) (hk : lf ≤ k) :
    (fun x => if x = y then sg * ce y else Fil sg ce L lf k x) = Fil sg ce L lf (k + 1) := by
  funext x
  have h1 := not_taken hn h
  have h2 : y ∉ L.take lf := fun hy => h1 (List.mem_of_mem_take (show y ∈ (L.take k).take lf by rw [List.take_take, show min lf k = lf from by omega]; exact hy))
  unfold Fil
  rw [show min (k + 1) lf = lf from by omega, show min k lf = lf from by omega, take_snoc' h]
  by_cases hx : x = y
  · subst hx; simp [h2]
  · simp [hx]
/-- What the block holds at the end is Split's answer. -/
theorem fil_split {m : Int} {ws : List Int} {L : List Nat} (hW : WOk ws) (hp : L.Perm (List.range ws.length)) (hs : L.Pairwise (ahead (rst (absI m) (wsum ws) ws))) :
    IsSplit m ws ((List.range ws.length).map (Fil (sgn m) (cen (absI m) (wsum ws) ws) L (lft (absI m) (wsum ws) ws).toNat ws.length)) := by
  have hle := left_le (a := absI m) (ws := ws) rfl hW.pos
  have hl : L.length = ws.length := by rw [hp.length_eq, List.length_range]
  refine ⟨by simp, _, First.sorted hp hs hle, fun i hi => ?_⟩
  rw [gi_get _ i (by simpa using hi)]
  simp only [List.getElem_map, List.getElem_range]
  have hmem : i ∈ L := hp.mem_iff.2 (List.mem_range.2 hi)
  unfold Fil
  rw [List.take_of_length_le (by omega), if_pos hmem, show min ws.length (lft (absI m) (wsum ws) ws).toNat = (lft (absI m) (wsum ws) ws).toNat from by omega]
  by_cases h : i ∈ L.take (lft (absI m) (wsum ws) ws).toNat
  · simp [h, Int.mul_add]
  · simp [h]
/-- What is left behind the rounds of the iterator. -/
def leftW (a : Int) (pre : List Pt) : Int := pre.foldl (fun s p => wrap64 (s - p.ce)) a
theorem leftW_snoc (a : Int) (pre : List Pt) (p : Pt) : leftW a (pre ++ [p]) = wrap64 (leftW a pre - p.ce) := by simp [leftW]
theorem cen_sum_le {a s : Int} {ws : List Int} (hs : s = wsum ws) (h0 : 0 < s) (ha : 0 ≤ a) (hw : okW ws) : ∀ k, k ≤ ws.length → 0 ≤ sumTo (cen a s ws) k ∧ sumTo (cen a s ws) k ≤ a := by
  intro k hk
  refine ⟨sumTo_nonneg k (fun i hi => cen_nonneg ha h0 hw (by omega)), ?_⟩
  have h1 := sumTo_mono (f := cen a s ws) k ws.length hk (fun i hi => cen_nonneg ha h0 hw hi)
  have h2 := (left_lt (a := a) hs h0).1
  unfold lft at h2
  omega
theorem leftW_upto {a s : Int} {ws : List Int} (hs : s = wsum ws) (h0 : 0 < s) (ha : 0 ≤ a) (hb : a ≤ 1125899906842624) (hw : okW ws) : ∀ k, k ≤ ws.length → leftW a (upto a s ws k) = a - sumTo (cen a s ws) k
  | 0, _ => by simp [leftW, upto, sumTo]
  | k + 1, hk => by
    rw [upto_succ, leftW_snoc, leftW_upto hs h0 ha hb hw k (by omega), sumTo]
    obtain ⟨h1, h2⟩ := cen_sum_le hs h0 ha hw (k + 1) hk
    rw [sumTo] at h1 h2
    show wrap64 (a - sumTo (cen a s ws) k - cen a s ws k) = _
    unfold wrap64
    omega
end Go.Proofs.YtnigdcppdkcllaaDoor
