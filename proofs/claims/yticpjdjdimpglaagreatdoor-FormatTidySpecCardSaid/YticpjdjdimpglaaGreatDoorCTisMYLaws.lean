/- Plain laws: elements put in one by one: what stays are those that no other makes superfluous, in order. No program. -/
import Derived.Test.YticpjdjdimpglaaGreatDoorCTisMCmp2
import Derived.RegionTactic
import Derived.ChangeAlike
import Derived.Deep.RegionHeld3
import Derived.Test.YticpjdjdimpglaaGreatDoorCTisSortS
import Derived.Shelf.SlSortFuncK.HeapSortK
import Derived.Test.YticpjdjdimpglaaGreatDoorCTisMJoinPlain
namespace Go.Proofs.YticpjdjdimpglaaGreatDoor
set_option linter.unusedVariables false
set_option linter.unusedSimpArgs false
/-- An element of a normal form: an AtLeastC, the NotC of one, or a joint. -/
def Nrm (x : CT) : Prop := (x.k = 1 ∧ x.ps = .nil) ∨ (x.k = 4 ∧ x.v = 0 ∧ x.n = 0 ∧ ∃ v n, x.ps = .cons 1 v n .nil .nil) ∨ x.k = 2 ∨ x.k = 3
theorem lit_one {x : CT} (h : x.k = 1) : litO x = some (x.v, x.n) := by unfold litO; rw [if_pos h]
theorem lit_not {x : CT} {v n : Int} (h : x.k = 4) (hp : x.ps = .cons 1 v n .nil .nil) : litO x = some (v, n) := by
  unfold litO
  rw [if_neg (by omega), if_pos h, hp]
  rfl
theorem lit_none {x : CT} (h : x.k = 2 ∨ x.k = 3) : litO x = none := by
  unfold litO
  rw [if_neg (by omega), if_neg (by omega)]
theorem lit_inj {a b : CT} (ha : Nrm a) (hb : Nrm b) (hk : a.k = b.k) {p : Int × Int} (h1 : litO a = some p) (h2 : litO b = some p) : a = b := by
  obtain ⟨k, v, n, ps⟩ := a
  obtain ⟨k', v', n', ps'⟩ := b
  simp only at hk
  subst hk
  rcases ha with ⟨a1, a2⟩ | ⟨a1, a2, a3, w, m, a4⟩ | a1
  · rw [lit_one a1] at h1
    rw [lit_one (x := ⟨k, v', n', ps'⟩) a1] at h2
    rcases hb with ⟨b1, b2⟩ | ⟨b1, _⟩ | b1
    · simp only at a2 b2 h1 h2
      subst a2; subst b2
      injection h1 with h1
      injection h2 with h2
      rw [← h2] at h1
      injection h1 with e1 e2
      rw [e1, e2]
    · simp only at a1 b1; omega
    · simp only at a1 b1; omega
  · rcases hb with ⟨b1, _⟩ | ⟨b1, b2, b3, w', m', b4⟩ | b1
    · simp only at a1 b1; omega
    · rw [lit_not a1 a4] at h1
      rw [lit_not b1 b4] at h2
      simp only at a2 a3 a4 b2 b3 b4
      injection h1 with h1
      injection h2 with h2
      rw [← h2] at h1
      injection h1 with e1 e2
      subst a2; subst a3; subst b2; subst b3; subst a4; subst b4; subst e1; subst e2
      rfl
    · simp only at a1 b1; omega
  · rw [lit_none a1] at h1; cases h1
/-- Which element covers which. -/
theorem cov_spec {kind : Int} {a b : CT} : covers kind a b = true ↔ (a = b ∨ ∃ v n n', litO a = some (v, n) ∧ litO b = some (v, n') ∧ a.k = b.k ∧ (if (kind = 2) = (a.k = 1) then n' ≤ n else n ≤ n')) := by
  unfold covers
  cases h1 : litO a with
  | none =>
    simp only [beq_iff_eq, CT.cmp_zero]
    constructor
    · exact fun e => .inl e
    · rintro (e | ⟨v, n, n', e, _⟩)
      · exact e
      · cases e
  | some p =>
    obtain ⟨v, n⟩ := p
    cases h2 : litO b with
    | none =>
      simp only [beq_iff_eq, CT.cmp_zero]
      constructor
      · exact fun e => .inl e
      · rintro (e | ⟨v, n, n', _, e, _⟩)
        · exact e
        · cases e
    | some q =>
      obtain ⟨v', n'⟩ := q
      simp only
      by_cases hk : a.k = b.k ∧ v = v'
      · rw [if_pos hk]
        obtain ⟨hk1, rfl⟩ := hk
        constructor
        · intro h
          refine .inr ⟨v, n, n', rfl, rfl, hk1, ?_⟩
          split at h
          · next hc => rw [if_pos hc]; simpa using h
          · next hc => rw [if_neg hc]; simpa using h
        · rintro (e | ⟨w, m, m', e1, e2, _, h⟩)
          · subst e
            rw [h1] at h2
            injection h2 with h2
            injection h2 with _ h2
            subst h2
            split <;> simp
          · injection e1 with e1
            injection e1 with e1 e3
            injection e2 with e2
            injection e2 with _ e4
            subst e3; subst e4
            split at h
            · next hc => rw [if_pos hc]; simpa using h
            · next hc => rw [if_neg hc]; simpa using h
      · rw [if_neg hk]
        simp only [beq_iff_eq, CT.cmp_zero]
        constructor
        · exact fun e => .inl e
        · rintro (e | ⟨w, m, m', e1, e2, e3, _⟩)
          · exact e
          · injection e1 with e1
            injection e1 with e1 _
            injection e2 with e2
            injection e2 with e2 _
            exact absurd ⟨e3, by rw [e1, e2]⟩ hk
theorem cov_refl (kind : Int) (a : CT) : covers kind a a = true := cov_spec.2 (.inl rfl)
theorem cov_trans {kind : Int} {a b c : CT} (h : covers kind a b = true) (h' : covers kind b c = true) : covers kind a c = true := by
  rcases cov_spec.1 h with rfl | ⟨v, n, n', e1, e2, ek, hn⟩
  · exact h'
  · rcases cov_spec.1 h' with rfl | ⟨w, m, m', g1, g2, gk, hm⟩
    · exact h
    · rw [e2] at g1
      injection g1 with g1
      injection g1 with g3 g4
      subst g3; subst g4
      refine cov_spec.2 (.inr ⟨v, n, m', e1, g2, ek.trans gk, ?_⟩)
      rw [← ek] at hm
      split at hn
      · next hc => rw [if_pos hc] at hm; rw [if_pos hc]; omega
      · next hc => rw [if_neg hc] at hm; rw [if_neg hc]; omega
theorem cov_anti {kind : Int} {a b : CT} (ha : Nrm a) (hb : Nrm b) (h : covers kind a b = true) (h' : covers kind b a = true) : a = b := by
  rcases cov_spec.1 h with e | ⟨v, n, n', e1, e2, ek, hn⟩
  · exact e
  · rcases cov_spec.1 h' with e | ⟨w, m, m', g1, g2, gk, hm⟩
    · exact e.symm
    · rw [e2] at g1
      rw [e1] at g2
      injection g1 with g1
      injection g1 with g3 g4
      injection g2 with g2
      injection g2 with _ g5
      subst g4; subst g5
      have : n = n' := by
        rw [← ek] at hm
        split at hn
        · next hc => rw [if_pos hc] at hm; omega
        · next hc => rw [if_neg hc] at hm; omega
      subst this
      exact lit_inj ha hb ek e1 e2
/-- An element that no other one makes superfluous. -/
def Top (kind : Int) (xs : List CT) (x : CT) : Prop := x ∈ xs ∧ ∀ y ∈ xs, covers kind y x = true → y = x
/-- Elements put in one by one. -/
theorem ins_fold {kind : Int} : ∀ (n : Nat) (xs : List CT), xs.length = n → (∀ x ∈ xs, Nrm x) → Rise (xs.foldl (insC kind) []) ∧ (∀ x, x ∈ xs.foldl (insC kind) [] ↔ Top kind xs x) ∧ ∀ y ∈ xs, ∃ z ∈ xs.foldl (insC kind) [], covers kind z y = true
  | 0, xs, hl, _ => by
    obtain rfl := List.eq_nil_of_length_eq_zero hl
    exact ⟨List.Pairwise.nil, (fun x => ⟨(fun h => by cases h), (fun h => absurd h.1 (by simp))⟩), (fun y hy => by cases hy)⟩
  | n + 1, xs, hl, hn => by
    obtain ⟨ys, c, rfl⟩ : ∃ ys c, xs = ys ++ [c] := ⟨xs.dropLast, xs.getLast (by rintro rfl; cases hl), (List.dropLast_concat_getLast _).symm⟩
    have hnc : Nrm c := hn c (by simp)
    have hny : ∀ x ∈ ys, Nrm x := fun x hx => hn x (by simp [hx])
    obtain ⟨h1, h2, h3⟩ := ins_fold n ys (by simpa using hl) hny
    rw [List.foldl_append, List.foldl_cons, List.foldl_nil]
    obtain ⟨R, hR⟩ : ∃ R, R = ys.foldl (insC kind) [] := ⟨_, rfl⟩
    rw [← hR] at h1 h2 h3 ⊢
    have hRy : ∀ x ∈ R, x ∈ ys := fun x hx => ((h2 x).1 hx).1
    unfold insC
    by_cases hc : R.any (fun y => covers kind y c) = true
    · rw [if_pos hc]
      obtain ⟨y, hy, hyc⟩ := List.any_eq_true.1 hc
      refine ⟨h1, fun x => ?_, fun z hz => ?_⟩
      · rw [h2 x]
        constructor
        · rintro ⟨hx, hm⟩
          refine ⟨by simp [hx], fun z hz hzx => ?_⟩
          rcases List.mem_append.1 hz with hz | hz
          · exact hm z hz hzx
          · obtain rfl := List.mem_singleton.1 hz
            have e := hm y (hRy y hy) (cov_trans hyc hzx)
            subst e
            exact cov_anti hnc (hny y (hRy y hy)) hzx hyc
        · rintro ⟨hx, hm⟩
          refine ⟨?_, fun z hz hzx => hm z (by simp [hz]) hzx⟩
          rcases List.mem_append.1 hx with hx | hx
          · exact hx
          · obtain rfl := List.mem_singleton.1 hx
            have e := hm y (by simp [hRy y hy]) hyc
            rw [← e]; exact hRy y hy
      · rcases List.mem_append.1 hz with hz | hz
        · exact h3 z hz
        · obtain rfl := List.mem_singleton.1 hz
          exact ⟨y, hy, hyc⟩
    · rw [if_neg hc]
      have hno : ∀ y ∈ R, covers kind y c = false := fun y hy => by
        cases e : covers kind y c
        · rfl
        · exact absurd (List.any_eq_true.2 ⟨y, hy, e⟩) hc
      have hmem : ∀ x, x ∈ (R.filter fun y => !covers kind c y && decide (y.cmp c < 0)) ++ c :: (R.filter fun y => !covers kind c y && !decide (y.cmp c < 0)) ↔ (x = c ∨ (x ∈ R ∧ covers kind c x = false)) := fun x => by
        simp only [List.mem_append, List.mem_filter, List.mem_cons, Bool.and_eq_true, Bool.not_eq_true', decide_eq_true_eq, decide_eq_false_iff_not]
        constructor
        · rintro (h | h | h)
          · exact .inr ⟨h.1, h.2.1⟩
          · exact .inl h
          · exact .inr ⟨h.1, h.2.1⟩
        · rintro (h | h)
          · exact .inr (.inl h)
          · by_cases hx : x.cmp c < 0
            · exact .inl ⟨h.1, h.2, hx⟩
            · exact .inr (.inr ⟨h.1, h.2, hx⟩)
      refine ⟨?_, fun x => ?_, fun z hz => ?_⟩
      · unfold Rise
        rw [List.pairwise_append, List.pairwise_cons]
        have gt : ∀ y ∈ R, ¬ y.cmp c < 0 → c.cmp y < 0 := fun y hy hyc => by
          have h5 := CT.cmp_swap y c
          have h6 : y.cmp c ≠ 0 := fun e => by
            have e2 := CT.cmp_zero.1 e
            have := hno y hy
            rw [e2, cov_refl] at this
            cases this
          omega
        refine ⟨h1.sublist List.filter_sublist, ⟨fun y hy => ?_, h1.sublist List.filter_sublist⟩, fun x hx y hy => ?_⟩
        · obtain ⟨hy1, hy2⟩ := List.mem_filter.1 hy
          simp only [Bool.and_eq_true, Bool.not_eq_true', decide_eq_false_iff_not] at hy2
          exact gt y hy1 hy2.2
        · obtain ⟨hx1, hx2⟩ := List.mem_filter.1 hx
          simp only [Bool.and_eq_true, decide_eq_true_eq] at hx2
          rcases List.mem_cons.1 hy with rfl | hy
          · exact hx2.2
          · obtain ⟨hy1, hy2⟩ := List.mem_filter.1 hy
            simp only [Bool.and_eq_true, Bool.not_eq_true', decide_eq_false_iff_not] at hy2
            exact CT.cmp_trans hx2.2 (gt y hy1 hy2.2)
      · rw [hmem x]
        constructor
        · rintro (rfl | ⟨hx, hcx⟩)
          · refine ⟨by simp, fun z hz hzx => ?_⟩
            rcases List.mem_append.1 hz with hz | hz
            · obtain ⟨u, hu, huz⟩ := h3 z hz
              have := hno u hu
              rw [cov_trans huz hzx] at this
              cases this
            · exact List.mem_singleton.1 hz
          · obtain ⟨hx1, hm⟩ := (h2 x).1 hx
            refine ⟨by simp [hx1], fun z hz hzx => ?_⟩
            rcases List.mem_append.1 hz with hz | hz
            · exact hm z hz hzx
            · obtain rfl := List.mem_singleton.1 hz
              rw [hcx] at hzx; cases hzx
        · rintro ⟨hx, hm⟩
          rcases List.mem_append.1 hx with hx | hx
          · by_cases e : covers kind c x = true
            · exact .inl (hm c (by simp) e).symm
            · exact .inr ⟨(h2 x).2 ⟨hx, fun z hz hzx => hm z (by simp [hz]) hzx⟩, by simpa using e⟩
          · exact .inl (List.mem_singleton.1 hx)
      · rcases List.mem_append.1 hz with hz | hz
        · obtain ⟨u, hu, huz⟩ := h3 z hz
          by_cases e : covers kind c u = true
          · exact ⟨c, (hmem c).2 (.inl rfl), cov_trans e huz⟩
          · exact ⟨u, (hmem u).2 (.inr ⟨hu, by simpa using e⟩), huz⟩
        · obtain rfl := List.mem_singleton.1 hz
          exact ⟨z, (hmem z).2 (.inl rfl), cov_refl _ _⟩
end Go.Proofs.YticpjdjdimpglaaGreatDoor
/- Plain laws: the elements that no other makes superfluous, sorted, are the elements put in one by one. No program. -/
namespace Go.Proofs.YticpjdjdimpglaaGreatDoor
set_option linter.unusedVariables false
set_option linter.unusedSimpArgs false
def getC (xs : List CT) (i : Nat) : CT := xs.getD i .zero
/-- Element i is kept: no other one, or an equal one before it, makes it superfluous. -/
def keepAt (kind : Int) (xs : List CT) (i : Nat) : Bool := (List.range xs.length).all fun k => !(decide (k ≠ i) && covers kind (getC xs k) (getC xs i) && (decide (k < i) || !covers kind (getC xs i) (getC xs k)))
def unl (kind : Int) (xs : List CT) : List CT := ((List.range xs.length).filter (keepAt kind xs)).map (getC xs)
theorem getC_mem {xs : List CT} {i : Nat} (h : i < xs.length) : getC xs i ∈ xs := by
  unfold getC
  rw [List.getD_eq_getElem?_getD, List.getElem?_eq_getElem h]
  exact List.getElem_mem h
theorem getC_of {xs : List CT} {x : CT} (h : x ∈ xs) : ∃ i, i < xs.length ∧ getC xs i = x := by
  obtain ⟨i, hi, rfl⟩ := List.mem_iff_getElem.1 h
  exact ⟨i, hi, by unfold getC; rw [List.getD_eq_getElem?_getD, List.getElem?_eq_getElem hi]; rfl⟩
theorem keep_iff {kind : Int} {xs : List CT} {i : Nat} : keepAt kind xs i = true ↔ ∀ k, k < xs.length → k ≠ i → covers kind (getC xs k) (getC xs i) = true → ¬ k < i ∧ covers kind (getC xs i) (getC xs k) = true := by
  unfold keepAt
  rw [List.all_eq_true]
  constructor
  · intro h k hk hne hc
    have := h k (List.mem_range.2 hk)
    simp only [Bool.not_eq_true', Bool.and_eq_false_iff, Bool.or_eq_false_iff, decide_eq_false_iff_not, Bool.not_eq_false'] at this
    rcases this with (h1 | h1) | h1
    · exact absurd hne h1
    · rw [hc] at h1; cases h1
    · exact h1
  · intro h k hk
    simp only [Bool.not_eq_true', Bool.and_eq_false_iff, Bool.or_eq_false_iff, decide_eq_false_iff_not, Bool.not_eq_false']
    by_cases hne : k = i
    · exact .inl (.inl (by simpa using hne))
    · cases hc : covers kind (getC xs k) (getC xs i)
      · exact .inl (.inr rfl)
      · exact .inr (h k (List.mem_range.1 hk) hne hc)
/-- A first one among the indices. -/
theorem first_idx {p : Nat → Prop} : ∀ (n : Nat), p n → ∃ i, i ≤ n ∧ p i ∧ ∀ k, k < i → ¬ p k := by
  intro n
  induction n using Nat.strongRecOn with
  | _ n ih =>
    intro h
    by_cases hk : ∃ k, k < n ∧ p k
    · obtain ⟨k, hk, hp⟩ := hk
      obtain ⟨i, h1, h2, h3⟩ := ih k hk hp
      exact ⟨i, by omega, h2, h3⟩
    · exact ⟨n, Nat.le_refl _, h, fun k hk' hp => hk ⟨k, hk', hp⟩⟩
theorem unl_mem {kind : Int} {xs : List CT} (hn : ∀ x ∈ xs, Nrm x) (x : CT) : x ∈ unl kind xs ↔ Top kind xs x := by
  unfold unl
  constructor
  · intro h
    obtain ⟨i, hi, rfl⟩ := List.mem_map.1 h
    obtain ⟨hi1, hi2⟩ := List.mem_filter.1 hi
    have hil := List.mem_range.1 hi1
    refine ⟨getC_mem hil, fun y hy hc => ?_⟩
    obtain ⟨k, hk, rfl⟩ := getC_of hy
    by_cases e : k = i
    · rw [e]
    · exact cov_anti (hn _ hy) (hn _ (getC_mem hil)) hc (keep_iff.1 hi2 k hk e hc).2
  · rintro ⟨hx, hm⟩
    obtain ⟨j, hj, hjx⟩ := getC_of hx
    obtain ⟨i, h1, ⟨h2, h3⟩, h4⟩ := first_idx (p := fun i => i < xs.length ∧ getC xs i = x) j ⟨hj, hjx⟩
    refine List.mem_map.2 ⟨i, List.mem_filter.2 ⟨List.mem_range.2 h2, keep_iff.2 fun k hk hne hc => ?_⟩, h3⟩
    rw [h3] at hc ⊢
    have e := hm _ (getC_mem hk) hc
    exact ⟨fun hlt => h4 k hlt ⟨hk, e⟩, by rw [e]; exact cov_refl _ _⟩
theorem unl_nodup {kind : Int} {xs : List CT} : (unl kind xs).Nodup := by
  unfold unl
  unfold List.Nodup
  rw [List.pairwise_map]
  have h1 : ((List.range xs.length).filter (keepAt kind xs)).Pairwise (· < ·) := List.pairwise_lt_range.sublist List.filter_sublist
  refine h1.imp_of_mem fun {i j} hi hj hij e => ?_
  obtain ⟨hi1, _⟩ := List.mem_filter.1 hi
  obtain ⟨_, hj2⟩ := List.mem_filter.1 hj
  have := (keep_iff.1 hj2 i (List.mem_range.1 hi1) (by omega) (by rw [e]; exact cov_refl _ _)).1
  exact this hij
/-- Sorted, they are the elements put in one by one. -/
theorem unl_sorted {kind : Int} {xs R : List CT} (hn : ∀ x ∈ xs, Nrm x) (hp : R.Perm (unl kind xs)) (hs : R.Pairwise fun a b => a.cmp b ≤ 0) : R = xs.foldl (insC kind) [] := by
  obtain ⟨h1, h2, _⟩ := ins_fold (kind := kind) xs.length xs rfl hn
  have hnd : R.Nodup := hp.nodup_iff.2 unl_nodup
  refine rise_unique R _ ?_ h1 fun x => ?_
  · unfold Rise
    refine (hs.and hnd).imp fun {a b} h => ?_
    have : a.cmp b ≠ 0 := fun e => h.2 (CT.cmp_zero.1 e)
    omega
  · rw [hp.mem_iff, unl_mem hn, h2]
end Go.Proofs.YticpjdjdimpglaaGreatDoor
/- format.literal, the closure of format.normal by their contracts. -/
namespace Go.Proofs.YticpjdjdimpglaaGreatDoor
set_option linter.unusedVariables false
set_option linter.unusedSimpArgs false
open Go.RowKit
/-- The AtLeastC of a condition that is one, or of the NotC of one. -/
def lx (c : CT) : CT := if c.k = 4 then (match c.ps.toL with | p :: _ => p | [] => .zero) else c
theorem lit_lx {c : CT} (h : Nrm c) : litO c = if (lx c).k = 1 then some ((lx c).v, (lx c).n) else none := by
  obtain ⟨k, v, n, ps⟩ := c
  rcases h with ⟨h1, h2⟩ | ⟨h1, _, _, v', n', h4⟩ | h1 | h1
  · simp only at h1; subst h1; rfl
  · simp only at h1 h4; subst h1; subst h4; rfl
  · simp only at h1; subst h1; rfl
  · simp only at h1; subst h1; rfl
theorem cov_lx {kind : Int} {x y : CT} (hx : Nrm x) (hy : Nrm y) : covers kind y x = if (lx x).k = 1 ∧ (lx y).k = 1 ∧ x.k = y.k ∧ (lx x).v = (lx y).v then (if (kind == 2) = (x.k == 1) then decide ((lx x).n ≤ (lx y).n) else decide ((lx x).n ≥ (lx y).n)) else (x.cmp y == 0) := by
  have hs : (y.cmp x == 0) = (x.cmp y == 0) := by
    have := CT.cmp_swap x y
    rw [Bool.eq_iff_iff, beq_iff_eq, beq_iff_eq]
    omega
  have hb : ((kind = 2) = (y.k = 1)) ↔ ((kind == 2) = (y.k == 1)) := by
    rw [eq_iff_iff, Bool.eq_iff_iff, beq_iff_eq, beq_iff_eq]
  unfold covers
  rw [lit_lx hx, lit_lx hy]
  by_cases hP : (lx x).k = 1 ∧ (lx y).k = 1 ∧ x.k = y.k ∧ (lx x).v = (lx y).v
  · rw [if_pos hP]
    obtain ⟨h1, h2, h3, h4⟩ := hP
    rw [if_pos h1, if_pos h2]
    dsimp only
    rw [if_pos ⟨h3.symm, h4.symm⟩, h3]
    by_cases h5 : (kind = 2) = (y.k = 1)
    · rw [if_pos h5, if_pos (hb.1 h5)]
    · rw [if_neg h5, if_neg (fun e => h5 (hb.2 e))]
  · rw [if_neg hP, ← hs]
    by_cases h2 : (lx y).k = 1
    · rw [if_pos h2]
      by_cases h1 : (lx x).k = 1
      · rw [if_pos h1]
        dsimp only
        rw [if_neg (fun e => hP ⟨h1, h2, e.1.symm, e.2.symm⟩)]
      · rw [if_neg h1]
    · rw [if_neg h2]
set_option maxHeartbeats 8000000 in
set_option maxRecDepth 100000 in
theorem literal_any {S : Nat → Prop} {c : CT} {A : Option Addr} {m d : Nat} {w : World} (h : RepH S w c.ps A m d) (hn : c.k = 4 → 0 < m) : Calls Tryz.prog 110 #[cV c A m d] w fun e w' => (∃ A' m' d', e = .returned (.tuple #[cV (lx c) A' m' d', .bool ((lx c).k == 1)]) ∧ RepH S w (lx c).ps A' m' d') ∧ Below w.heap.size w w' := by
  have HR := Lib.hid h
  unfold cV
  dsimp only [vi]
  by_cases hk : c.k = 4
  · obtain ⟨b, off, x, B, n, e, rfl, hb, hS, hx, h0, h1, h2, h3, hr⟩ := h.elem (hn hk)
    have HL := Lib.hid (show lx c = x by
      unfold lx
      rw [if_pos hk]
      cases hp : c.ps.toL with
      | nil => rw [hp] at hx; simp at hx
      | cons p r => rw [hp] at hx; simpa using hx)
    have hm0 := hn hk
    rw [Nat.zero_mul, Nat.add_zero] at h0 h1 h2 h3
    have HX := Lib.hid hr
    rw [hk]
    clear h hx hr hn hk
    go_enter Tryz.func110, Tryz.ntmps110
    go_wp2_with (fail)
    first | (refine calls_named ?_; intro W hW) | (refine body_named ?_; intro W hW) | (refine wpList_named ?_; intro W hW) | (refine wp_named ?_; intro W hW)
    have hx1 : Blk W w.heap.size 24 #[.int .i64 x.k, .int .i64 x.v, .int .i64 x.n, .slice B n e] := by rw [← hW]; exact (Blk.new w _ _).alloc _
    have hy1 : Blk W (w.heap.size + 1) 24 #[.int .i64 0, .int .i64 0, .int .i64 0, .slice none 0 0] := by
      rw [← hW, ← World.size_alloc w]
      exact Blk.new _ _ _
    have hb1 : Below w.heap.size w W := by rw [← hW]; exact ((Below.refl _ _).alloc (Nat.le_refl _) _).alloc (by simp) _
    clear hW
    obtain ⟨x0, x1, x2, x3, f0, f1, f2, f3⟩ := hx1.four
    obtain ⟨y0, y1, y2, y3, g0, g1, g2, g3⟩ := hy1.four
    have HB1 := Lib.hid hb1
    have HS := Lib.hid (hy1.set4 (y0 := .int .i64 x.k) (y1 := .int .i64 x.v) (y2 := .int .i64 x.n) (y3 := .slice B n e))
    clear hx1 hy1 hb1
    go_region_held3 (fun w' => w'.cell? ⟨w.heap.size, 0, none⟩ = some (.int .i64 x.k) ∧ w'.cell? ⟨w.heap.size, 1, none⟩ = some (.int .i64 x.v) ∧ w'.cell? ⟨w.heap.size, 2, none⟩ = some (.int .i64 x.n) ∧ w'.cell? ⟨w.heap.size, 3, none⟩ = some (.slice B n e))
      (first | go_keep)
      ((first | fail))
    all_goals
      clear x0 x1 x2 x3 f0 f1 f2 f3 y0 y1 y2 y3 g0 g1 g2 g3
      go_wp2_with (fail)
      obtain ⟨r0, r1, r2, r3, _⟩ := HS.out.1.four
      have HB3 := Lib.hid (show Below w.heap.size w _ from HS.out.2.below HB1.out HB1.out.size (fun k hk => by rw [show k = w.heap.size + 1 from hk]; omega))
      refine bodyPost_ret (v := .tuple #[.agg #[.int .i64 x.k, .int .i64 x.v, .int .i64 x.n, .slice B n e], .bool (x.k == 1)]) (by simp [results, Tryz.results110, go_sem, r0, r1, r2, r3]; try rfl) rfl ⟨⟨B, n, e, by rw [HL.out]; try rfl, by rw [HL.out]; exact HX.out⟩, HB3.out.drew⟩
  · have HL := Lib.hid (show lx c = c by unfold lx; rw [if_neg hk])
    have hkb : (c.k == 4) = false := beq_eq_false_iff_ne.2 hk
    clear h hn hk
    go_enter Tryz.func110, Tryz.ntmps110
    go_wp2_with (fail)
    first | (refine calls_named ?_; intro W hW) | (refine body_named ?_; intro W hW) | (refine wpList_named ?_; intro W hW) | (refine wp_named ?_; intro W hW)
    have hx1 : Blk W w.heap.size 24 #[.int .i64 c.k, .int .i64 c.v, .int .i64 c.n, .slice A m d] := by rw [← hW]; exact (Blk.new w _ _).alloc _
    have hy1 : Blk W (w.heap.size + 1) 24 #[.int .i64 0, .int .i64 0, .int .i64 0, .slice none 0 0] := by
      rw [← hW, ← World.size_alloc w]
      exact Blk.new _ _ _
    have hb1 : Below w.heap.size w W := by rw [← hW]; exact ((Below.refl _ _).alloc (Nat.le_refl _) _).alloc (by simp) _
    clear hW
    obtain ⟨x0, x1, x2, x3, f0, f1, f2, f3⟩ := hx1.four
    obtain ⟨y0, y1, y2, y3, g0, g1, g2, g3⟩ := hy1.four
    have HB1 := Lib.hid hb1
    have HS := Lib.hid (hy1.set4 (y0 := .int .i64 c.k) (y1 := .int .i64 c.v) (y2 := .int .i64 c.n) (y3 := .slice A m d))
    clear hx1 hy1 hb1
    go_region_held3 (fun w' => w'.cell? ⟨w.heap.size, 0, none⟩ = some (.int .i64 c.k) ∧ w'.cell? ⟨w.heap.size, 1, none⟩ = some (.int .i64 c.v) ∧ w'.cell? ⟨w.heap.size, 2, none⟩ = some (.int .i64 c.n) ∧ w'.cell? ⟨w.heap.size, 3, none⟩ = some (.slice A m d))
      (first | go_keep)
      ((first | fail))
    all_goals
      clear x0 x1 x2 x3 f0 f1 f2 f3 y0 y1 y2 y3 g0 g1 g2 g3
      go_wp2_with (fail)
      obtain ⟨r0, r1, r2, r3, _⟩ := HS.out.1.four
      have HB3 := Lib.hid (show Below w.heap.size w _ from HS.out.2.below HB1.out HB1.out.size (fun k hk => by rw [show k = w.heap.size + 1 from hk]; omega))
      refine bodyPost_ret (v := .tuple #[.agg #[.int .i64 c.k, .int .i64 c.v, .int .i64 c.n, .slice A m d], .bool (c.k == 1)]) (by simp [results, Tryz.results110, go_sem, r0, r1, r2, r3]; try rfl) rfl ⟨⟨A, m, d, by rw [HL.out]; try rfl, by rw [HL.out]; exact HR.out⟩, HB3.out.drew⟩
end Go.Proofs.YticpjdjdimpglaaGreatDoor
/- The closure of format.normal by its contract: which element makes which superfluous. -/
namespace Go.Proofs.YticpjdjdimpglaaGreatDoor
set_option linter.unusedVariables false
set_option linter.unusedSimpArgs false
open Go.RowKit
set_option maxHeartbeats 8000000 in
set_option maxRecDepth 100000 in
theorem sup_any {S S' : Nat → Prop} (kind : Int) (g : Nat) (x y : CT) (A : Option Addr) (m d : Nat) (B : Option Addr) (n e : Nat) (w : World) (h1 : RepH S w x.ps A m d) (h2 : RepH S' w y.ps B n e) (hx : Nrm x) (hy : Nrm y) (hg : Blk w g 3 #[.int .i64 kind]) :
    Calls Tryz.prog 109 #[cV x A m d, cV y B n e, .pointer (some ⟨g, 0, none⟩)] w fun e w' => e = .returned (.bool (covers kind y x)) ∧ Below w.heap.size w w' := by
  have HE := Lib.hid (cov_lx (kind := kind) hx hy)
  have hn1 : x.k = 4 → 0 < m := fun hk => by
    rw [h1.len]
    rcases hx with h | h | h
    · have := h.1; omega
    · obtain ⟨_, _, v, q, hp⟩ := h.2
      rw [hp]; simp [CF.len]
    · omega
  have hn2 : y.k = 4 → 0 < n := fun hk => by
    rw [h2.len]
    rcases hy with h | h | h
    · have := h.1; omega
    · obtain ⟨_, _, v, q, hp⟩ := h.2
      rw [hp]; simp [CF.len]
    · omega
  have HR1 := Lib.hid h1
  have HR2 := Lib.hid h2
  have HG := Lib.hid hg
  have HN1 := Lib.hid hn1
  have HN2 := Lib.hid hn2
  have HC := Lib.hid (fun W hW => cmp_all (x.ps.cnt + 1) S S' x y A m d B n e W (Nat.lt_succ_self _) (h1.below hW) (h2.below hW))
  generalize covers kind y x = r at HE ⊢
  clear h1 h2 hx hy hg hn1 hn2
  have gl := HG.out.lt
  obtain ⟨k, v, nn, ps⟩ := x
  obtain ⟨k', v', nn', ps'⟩ := y
  dsimp only at HE HR1 HR2 HN1 HN2 HC
  unfold cV
  unfold cV at HC
  dsimp only [vi] at HC ⊢
  go_enter Tryz.func109, Tryz.ntmps109
  go_wp2_with (fail)
  first | (refine calls_named ?_; intro W hW) | (refine body_named ?_; intro W hW) | (refine wpList_named ?_; intro W hW) | (refine wp_named ?_; intro W hW)
  have hb1 : Below w.heap.size w W := by rw [← hW]; exact ((Below.refl _ _).alloc (Nat.le_refl _) _).alloc (by simp) _
  have hx1 : Blk W w.heap.size 24 #[.int .i64 k, .int .i64 v, .int .i64 nn, .slice A m d] := by rw [← hW]; exact (Blk.new w _ _).alloc _
  have hy1 : Blk W (w.heap.size + 1) 24 #[.int .i64 k', .int .i64 v', .int .i64 nn', .slice B n e] := by
    rw [← hW, ← World.size_alloc w]
    exact Blk.new _ _ _
  clear hW
  have HB1 := Lib.hid hb1
  have HX1 := Lib.hid hx1
  have HY1 := Lib.hid hy1
  clear hb1 hx1 hy1
  refine (literal_any (c := ⟨k, v, nn, ps⟩) (HR1.out.below HB1.out) HN1.out).mono ?_
  rintro e' w1 ⟨⟨A1, m1, d1, rfl, hr1⟩, hb⟩
  have HB2 := Lib.hid (HB1.out.trans (hb.mono HB1.out.size))
  have HX2 := Lib.hid (HX1.out.below hb HX1.out.lt)
  have HY2 := Lib.hid (HY1.out.below hb HY1.out.lt)
  clear hr1 hb HX1 HY1
  have y0 := HY2.out.cell 0
  have y1 := HY2.out.cell 1
  have y2 := HY2.out.cell 2
  have y3 := HY2.out.cell 3
  have yl := HY2.out.lt
  generalize lx ⟨k, v, nn, ps⟩ = p at HE ⊢
  unfold cV
  dsimp only [vi]
  go_wp2_with (fail)
  first | (refine calls_named ?_; intro W3 hW3) | (refine body_named ?_; intro W3 hW3) | (refine wpList_named ?_; intro W3 hW3) | (refine wp_named ?_; intro W3 hW3)
  have hb3 : Below w1.heap.size w1 W3 := by rw [← hW3]; exact (Below.refl _ _).alloc (Nat.le_refl _) _
  have hp3 : Blk W3 w1.heap.size 24 #[.int .i64 p.k, .int .i64 p.v, .int .i64 p.n, .slice A1 m1 d1] := by rw [← hW3]; exact Blk.new w1 _ _
  clear hW3
  have HB3 := Lib.hid (HB2.out.trans (hb3.mono HB2.out.size))
  have HX3 := Lib.hid (HX2.out.below hb3 HX2.out.lt)
  have HY3 := Lib.hid (HY2.out.below hb3 HY2.out.lt)
  have HP3 := Lib.hid hp3
  clear hb3 hp3 HX2 HY2 y0 y1 y2 y3 yl
  refine (literal_any (c := ⟨k', v', nn', ps'⟩) (HR2.out.below HB3.out) HN2.out).mono ?_
  rintro e' w4 ⟨⟨A4, m4, d4, rfl, hr4⟩, hb⟩
  have HB4 := Lib.hid (HB3.out.trans (hb.mono HB3.out.size))
  have HX4 := Lib.hid (HX3.out.below hb HX3.out.lt)
  have HY4 := Lib.hid (HY3.out.below hb HY3.out.lt)
  have HP4 := Lib.hid (HP3.out.below hb HP3.out.lt)
  have hz4 := hb.size
  have hp3l := HP3.out.lt
  clear hr4 hb HX3 HY3 HP3
  generalize lx ⟨k', v', nn', ps'⟩ = q at HE ⊢
  unfold cV
  dsimp only [vi]
  have x0 := HX4.out.cell 0
  have x1 := HX4.out.cell 1
  have x2 := HX4.out.cell 2
  have x3 := HX4.out.cell 3
  have y0 := HY4.out.cell 0
  have y1 := HY4.out.cell 1
  have y2 := HY4.out.cell 2
  have y3 := HY4.out.cell 3
  have p1 := HP4.out.cell 1
  have p2 := HP4.out.cell 2
  have xl := HX4.out.lt
  have yl := HY4.out.lt
  have pl := HP4.out.lt
  have gc : w4.cell? ⟨g, 0, none⟩ = some (.int .i64 kind) := (HG.out.below HB4.out gl).cell 0
  have gl4 : g < w4.heap.size := Nat.lt_of_lt_of_le gl HB4.out.size
  by_cases hP : p.k = 1 ∧ q.k = 1 ∧ k = k' ∧ p.v = q.v
  · have HE2 := Lib.hid (HE.out.trans (if_pos hP))
    obtain ⟨h1, h2, h3, h4⟩ := hP
    have e1 : (p.k == 1) = true := by rw [h1]; rfl
    have e2 : (q.k == 1) = true := by rw [h2]; rfl
    have e3 : (k != k') = false := by rw [h3]; simp
    have e4 : (p.v != q.v) = false := by rw [h4]; simp
    clear h1 h2 h3 h4 HE
    by_cases h5 : (kind == 2) = (k == 1)
    · have HE3 := Lib.hid (HE2.out.trans (if_pos h5))
      have e5 : ((kind == 2) == (k == 1)) = true := by rw [h5]; simp
      clear h5 HE2
      go_wp2_with (fail)
      go_ret
      exact ⟨ret_bool HE3.out.symm, HB4.out.alloc HB4.out.size _⟩
    · have HE3 := Lib.hid (HE2.out.trans (if_neg h5))
      have e5 : ((kind == 2) == (k == 1)) = false := by simpa using h5
      clear h5 HE2
      go_wp2_with (fail)
      go_ret
      exact ⟨ret_bool HE3.out.symm, HB4.out.alloc HB4.out.size _⟩
  · have HE2 := Lib.hid (HE.out.trans (if_neg hP))
    clear HE
    cases e1 : (p.k == 1)
    · clear hP
      go_wp2_with (fail)
      refine (HC.out _ (HB4.out.alloc HB4.out.size _)).mono ?_
      rintro e' w5 ⟨rfl, hg5⟩
      go_wp2_with (fail)
      go_ret
      exact ⟨ret_bool (by rw [← HE2.out]), (HB4.out.alloc HB4.out.size _).trans (hg5.below.mono (HB4.out.alloc HB4.out.size _).size)⟩
    · cases e2 : (q.k == 1)
      · clear hP
        go_wp2_with (fail)
        refine (HC.out _ (HB4.out.alloc HB4.out.size _)).mono ?_
        rintro e' w5 ⟨rfl, hg5⟩
        go_wp2_with (fail)
        go_ret
        exact ⟨ret_bool (by rw [← HE2.out]), (HB4.out.alloc HB4.out.size _).trans (hg5.below.mono (HB4.out.alloc HB4.out.size _).size)⟩
      · cases e3 : (k != k')
        · cases e4 : (p.v != q.v)
          · exact absurd ⟨by simpa using e1, by simpa using e2, by simpa using e3, by simpa using e4⟩ hP
          · clear hP
            go_wp2_with (fail)
            refine (HC.out _ (HB4.out.alloc HB4.out.size _)).mono ?_
            rintro e' w5 ⟨rfl, hg5⟩
            go_wp2_with (fail)
            go_ret
            exact ⟨ret_bool (by rw [← HE2.out]), (HB4.out.alloc HB4.out.size _).trans (hg5.below.mono (HB4.out.alloc HB4.out.size _).size)⟩
        · clear hP
          go_wp2_with (fail)
          refine (HC.out _ (HB4.out.alloc HB4.out.size _)).mono ?_
          rintro e' w5 ⟨rfl, hg5⟩
          go_wp2_with (fail)
          go_ret
          exact ⟨ret_bool (by rw [← HE2.out]), (HB4.out.alloc HB4.out.size _).trans (hg5.below.mono (HB4.out.alloc HB4.out.size _).size)⟩
end Go.Proofs.YticpjdjdimpglaaGreatDoor
/- format.unless at conditions, over normal's closure, by its contract. -/
namespace Go.Proofs.YticpjdjdimpglaaGreatDoor
set_option linter.unusedVariables false
set_option linter.unusedSimpArgs false
open Go.RowKit
theorem elemCond2 : Elem Tryz.prog 22 24 4 48 := Elem.mk' Tryz.underlying22 (z := .agg #[.int .i64 0, .int .i64 0, .int .i64 0, .slice none 0 0]) (by kernel_rfl) rfl (by omega)
def badAt (kind : Int) (xs : List CT) (i k : Nat) : Bool := decide (k ≠ i) && covers kind (getC xs k) (getC xs i) && (decide (k < i) || !covers kind (getC xs i) (getC xs k))
def keepTo (kind : Int) (xs : List CT) (i k : Nat) : Bool := (List.range k).all fun j => !badAt kind xs i j
theorem keepTo_succ {kind : Int} {xs : List CT} {i k : Nat} : keepTo kind xs i (k + 1) = (keepTo kind xs i k && !badAt kind xs i k) := by
  unfold keepTo
  rw [List.range_succ, List.all_append]
  simp
def unlTo (kind : Int) (xs : List CT) (i : Nat) : List CT := ((List.range i).filter (keepAt kind xs)).map (getC xs)
theorem unlTo_succ {kind : Int} {xs : List CT} {i : Nat} : unlTo kind xs (i + 1) = unlTo kind xs i ++ if keepAt kind xs i = true then [getC xs i] else [] := by
  unfold unlTo
  rw [List.range_succ, List.filter_append, List.map_append]
  by_cases h : keepAt kind xs i = true
  · rw [if_pos h]; simp [h]
  · rw [if_neg h]; simp [h]
theorem getC_at {xs : List CT} {i : Nat} {x : CT} (h : xs[i]? = some x) : getC xs i = x := by
  unfold getC
  rw [List.getD_eq_getElem?_getD, h]
  rfl
theorem ofL_app : ∀ (l m : List CT), CF.ofL (l ++ m) = (CF.ofL l).app (CF.ofL m)
  | [], m => rfl
  | x :: l, m => by
    show CF.ofL (x :: (l ++ m)) = _
    rw [CF.ofL, ofL_app l m]
    rfl
theorem ofL_len : ∀ l : List CT, (CF.ofL l).len = l.length
  | [] => rfl
  | x :: l => by rw [CF.ofL]; show (CF.ofL l).len + 1 = _; rw [ofL_len l]; rfl
theorem nrm_of {xs : List CT} {x : CT} {i : Nat} (h : ∀ x ∈ xs, Nrm x) (hx : xs[i]? = some x) : Nrm x := h x (by
  obtain ⟨k1, k2⟩ := List.getElem?_eq_some_iff.1 hx
  rw [← k2]
  exact List.getElem_mem k1)
theorem RepF.one1 {S : Nat → Prop} {w : World} {x : CT} {A : Option Addr} {m d : Nat} (h : RepH S w x.ps A m d) : RepF S w (CF.ofL [x]) [vi x.k, vi x.v, vi x.n, .slice A m d] := by
  obtain ⟨ys, h1, h2, h3⟩ := h
  exact ⟨A, m, d, ys, [], rfl, ⟨h1, h2, h3⟩, rfl⟩
set_option maxHeartbeats 8000000 in
set_option maxRecDepth 100000 in
theorem unless_any {S : Nat → Prop} (kind : Int) (g : Nat) (F : CF) (A : Option Addr) (m c : Nat) (w : World) (h : RepH S w F A m c) (hn : ∀ x ∈ F.toL, Nrm x) (hm : m ≤ 1000000) (hg : Blk w g 3 #[.int .i64 kind]) :
    Calls Tryz.prog 108 #[.slice A m c, .func (.func 109) #[] #[.pointer (some ⟨g, 0, none⟩)]] w fun e w' => ∃ A' n c' ys, e = .returned (.slice A' n c') ∧ w'.ownsRow w.heap.size 24 4 (.slice A' n c') n ys ∧ RepF S w (CF.ofL (unl kind F.toL)) ys ∧ n = (unl kind F.toL).length ∧ Below w.heap.size w w' := by
  have HR := Lib.hid h
  have HN := Lib.hid hn
  have HG := Lib.hid hg
  have HL := Lib.hid (h.len.trans (toL_len F).symm)
  have hbig : m ≤ 1000000 := hm
  obtain ⟨x1, hr1, -, -⟩ := h
  have hcap := hr1.cap
  have hb1 := hr1.big
  clear hr1 hn hg
  have gl := HG.out.lt
  go_enter Tryz.func108, Tryz.ntmps108
  go_wp2_with (fail)
  go_loopw [4, 12] (fun o q wr => ∃ (i n : Nat) (A' : Option Addr) (c' : Nat) (ys : List Value), i ≤ m ∧ n ≤ i ∧ q = .int .i64 i ∧ o = .slice A' n c' ∧ Hid (n = (unlTo kind F.toL i).length) ∧ Hid (wr.ownsRow w.heap.size 24 4 (.slice A' n c') n ys ∧ RepF S w (CF.ofL (unlTo kind F.toL i)) ys) ∧ Hid (Below w.heap.size w wr)) (fun _ q _ => m - (intOf q).toNat)
  case atStart => exact ⟨0, 0, none, 0, [], Nat.zero_le _, Nat.le_refl _, rfl, rfl, rfl, ⟨World.ownsRow_nil _ _ _ _, rfl⟩, Below.refl _ _⟩
  case round =>
    obtain ⟨i, n, A', c', ys, him, hni, rfl, rfl, HLn, HO, HB⟩ := hrel
    obtain ⟨w1, rfl⟩ : ∃ w1 : World, w1 = wr := ⟨_, rfl⟩
    by_cases hlt : i < m
    · obtain ⟨b, off, x, B1, n1, e1, rfl, hb, hS, hx, h0, h1, h2, h3, hr⟩ := HR.out.elem hlt
      rw [← HB.out.cell (p := ⟨b, _, none⟩) hb] at h0 h1 h2 h3
      have hz := HB.out.size
      have hbl : b < w1.heap.size := by omega
      have HX := Lib.hid hx
      have HRx := Lib.hid hr
      have HS := Lib.hid hS
      clear hx hr hS
      have him2 : (i : Int) < (m : Int) := by omega
      go_wp2_with (fail)
      have HX0 := Lib.hid (show Blk (w1.alloc (.cells #[.int .i64 x.k, .int .i64 x.v, .int .i64 x.n, .slice B1 n1 e1] 24)) w1.heap.size 24 #[.int .i64 x.k, .int .i64 x.v, .int .i64 x.n, .slice B1 n1 e1] from Blk.new _ _ _)
      have HB0 := Lib.hid (show Below w1.heap.size w1 (w1.alloc (.cells #[.int .i64 x.k, .int .i64 x.v, .int .i64 x.n, .slice B1 n1 e1] 24)) from (Below.refl _ _).alloc (Nat.le_refl _) _)
      have hz0 := Lib.hid (World.size_alloc w1 (.cells #[.int .i64 x.k, .int .i64 x.v, .int .i64 x.n, .slice B1 n1 e1] 24))
      have hNx := Lib.hid (nrm_of HN.out HX.out)
      have hGx := Lib.hid (getC_at HX.out)
      go_loopw [7, 19] (fun o q wx => ∃ j : Nat, j ≤ m ∧ q = .int .i64 j ∧ o = .bool (keepTo kind F.toL i j) ∧ w1.heap.size < wx.heap.size ∧ Hid (Below w1.heap.size w1 wx ∧ Blk wx w1.heap.size 24 #[.int .i64 x.k, .int .i64 x.v, .int .i64 x.n, .slice B1 n1 e1])) (fun _ q _ => m - (intOf q).toNat)
      case atStart => exact ⟨0, Nat.zero_le _, rfl, rfl, by rw [hz0.out]; omega, HB0.out, HX0.out⟩
      case round =>
        obtain ⟨j, hjm, rfl, rfl, hwx, HI⟩ := hrel
        have HBx := Lib.hid (HB.out.trans (HI.out.1.mono HB.out.size))
        by_cases hjl : j < m
        · obtain ⟨b', off', y, B2, n2, e2, ea, hb', hS', hy, g0, g1, g2, g3, hr'⟩ := HR.out.elem hjl
          obtain ⟨rfl, rfl⟩ : b' = b ∧ off' = off := by
            injection ea with ea
            injection ea with e1 e2
            exact ⟨e1.symm, e2.symm⟩
          rw [← HBx.out.cell (p := ⟨b', _, none⟩) hb'] at g0 g1 g2 g3
          have HY := Lib.hid hy
          have HRy := Lib.hid hr'
          have hNy := Lib.hid (nrm_of HN.out hy)
          have hGy := Lib.hid (getC_at hy)
          have hb2 : b' < wr.heap.size := by omega
          have x0 := HI.out.2.cell 0
          have x1 := HI.out.2.cell 1
          have x2 := HI.out.2.cell 2
          have x3 := HI.out.2.cell 3
          have HK := Lib.hid (keepTo_succ (kind := kind) (xs := F.toL) (i := i) (k := j))
          have hjm2 : (j : Int) < (m : Int) := by omega
          clear hy hr' hS' ea
          by_cases hji : j = i
          · have HK2 := Lib.hid (show keepTo kind F.toL i (j + 1) = keepTo kind F.toL i j by rw [HK.out]; unfold badAt; simp [hji])
            have hji2 : ((j : Int) != (i : Int)) = false := by rw [hji]; simp
            clear HK hji
            generalize keepTo kind F.toL i j = kb at HK2 ⊢
            go_wp2_with (fail)
            go_roundw
            case rel => exact ⟨j + 1, hjl, by go_num, by rw [HK2.out], by rw [World.size_alloc]; omega, HI.out.1.alloc (Nat.le_of_lt hwx) _, HI.out.2.alloc _⟩
            case measure => simp [intOf]; omega
          · have hji2 : ((j : Int) != (i : Int)) = true := bne_iff_ne.2 fun e => hji (Int.ofNat.inj e)
            have HS1 := Lib.hid (fun W (hW : Below w.heap.size w W) => sup_any kind g x y B1 n1 e1 B2 n2 e2 W (HRx.out.below hW) (HRy.out.below hW) hNx.out hNy.out (HG.out.below hW gl))
            have HS2 := Lib.hid (fun W (hW : Below w.heap.size w W) => sup_any kind g y x B2 n2 e2 B1 n1 e1 W (HRy.out.below hW) (HRx.out.below hW) hNy.out hNx.out (HG.out.below hW gl))
            have HK2 := Lib.hid (show keepTo kind F.toL i (j + 1) = (keepTo kind F.toL i j && !(covers kind y x && (decide (j < i) || !covers kind x y))) by rw [HK.out, badAt, hGx.out, hGy.out, decide_eq_true (show j ≠ i from hji), Bool.true_and])
            clear HK hji
            generalize keepTo kind F.toL i j = kb at HK2 ⊢
            generalize covers kind y x = c1 at HS1 HK2
            generalize covers kind x y = c2 at HS2 HK2
            unfold cV vi at HS1 HS2
            go_wp2_with (fail)
            have HB2 := Lib.hid (HBx.out.alloc HBx.out.size (.cells #[.int .i64 y.k, .int .i64 y.v, .int .i64 y.n, .slice B2 n2 e2] 24))
            have hI2 := Lib.hid (show Below w1.heap.size w1 (wr.alloc (.cells #[.int .i64 y.k, .int .i64 y.v, .int .i64 y.n, .slice B2 n2 e2] 24)) ∧ Blk (wr.alloc (.cells #[.int .i64 y.k, .int .i64 y.v, .int .i64 y.n, .slice B2 n2 e2] 24)) w1.heap.size 24 #[.int .i64 x.k, .int .i64 x.v, .int .i64 x.n, .slice B1 n1 e1] ∧ Blk (wr.alloc (.cells #[.int .i64 y.k, .int .i64 y.v, .int .i64 y.n, .slice B2 n2 e2] 24)) wr.heap.size 24 #[.int .i64 y.k, .int .i64 y.v, .int .i64 y.n, .slice B2 n2 e2] from ⟨HI.out.1.alloc (Nat.le_of_lt hwx) _, HI.out.2.alloc _, Blk.new _ _ _⟩)
            have hw2 : (wr.alloc (.cells #[.int .i64 y.k, .int .i64 y.v, .int .i64 y.n, .slice B2 n2 e2] 24)).heap.size = wr.heap.size + 1 := World.size_alloc _ _
            generalize wr.alloc (.cells #[.int .i64 y.k, .int .i64 y.v, .int .i64 y.n, .slice B2 n2 e2] 24) = w2 at HB2 hI2 hw2 ⊢
            refine (HS1.out _ HB2.out).mono ?_
            rintro e w3 ⟨rfl, hb3⟩
            have HB3 := Lib.hid (HB2.out.trans (hb3.mono HB2.out.size))
            have HI3 := Lib.hid (show Below w1.heap.size w1 w3 ∧ Blk w3 w1.heap.size 24 #[.int .i64 x.k, .int .i64 x.v, .int .i64 x.n, .slice B1 n1 e1] ∧ Blk w3 wr.heap.size 24 #[.int .i64 y.k, .int .i64 y.v, .int .i64 y.n, .slice B2 n2 e2] from ⟨hI2.out.1.trans (hb3.mono (by omega)), hI2.out.2.1.below hb3 (by omega), hI2.out.2.2.below hb3 (by omega)⟩)
            have hz3 := hb3.size
            have x0 := HI3.out.2.1.cell 0
            have x1 := HI3.out.2.1.cell 1
            have x2 := HI3.out.2.1.cell 2
            have x3 := HI3.out.2.1.cell 3
            have y0 := HI3.out.2.2.cell 0
            have y1 := HI3.out.2.2.cell 1
            have y2 := HI3.out.2.2.cell 2
            have y3 := HI3.out.2.2.cell 3
            have xl := HI3.out.2.1.lt
            have yl := HI3.out.2.2.lt
            clear hb3
            cases c1
            · go_wp2_with (fail)
              go_roundw
              case rel => exact ⟨j + 1, hjl, by go_num, by rw [HK2.out]; simp, by omega, HI3.out.1, HI3.out.2.1⟩
              case measure => simp [intOf]; omega
            · by_cases hlti : j < i
              · have hlt2 : (j : Int) < (i : Int) := by omega
                go_wp2_with (fail)
                go_roundw
                case rel => exact ⟨j + 1, hjl, by go_num, by rw [HK2.out, decide_eq_true hlti]; simp, by omega, HI3.out.1, HI3.out.2.1⟩
                case measure => simp [intOf]; omega
              · have hlt2 : ¬ (j : Int) < (i : Int) := by omega
                go_wp2_with (fail)
                refine (HS2.out _ HB3.out).mono ?_
                rintro e w4 ⟨rfl, hb4⟩
                have hz4 := hb4.size
                have HI4 := Lib.hid (show Below w1.heap.size w1 w4 ∧ Blk w4 w1.heap.size 24 #[.int .i64 x.k, .int .i64 x.v, .int .i64 x.n, .slice B1 n1 e1] from ⟨HI3.out.1.trans (hb4.mono (by omega)), HI3.out.2.1.below hb4 (by omega)⟩)
                clear hb4
                cases c2
                · go_wp2_with (fail)
                  go_roundw
                  case rel => exact ⟨j + 1, hjl, by go_num, by rw [HK2.out, decide_eq_false hlti]; simp, by omega, HI4.out.1, HI4.out.2⟩
                  case measure => simp [intOf]; omega
                · go_wp2_with (fail)
                  go_roundw
                  case rel => exact ⟨j + 1, hjl, by go_num, by rw [HK2.out, decide_eq_false hlti]; simp, by omega, HI4.out.1, HI4.out.2⟩
                  case measure => simp [intOf]; omega
        · obtain rfl : j = m := by omega
          have HK2 := Lib.hid (show keepTo kind F.toL i j = keepAt kind F.toL i by rw [HL.out]; rfl)
          rw [HK2.out]
          have HU := Lib.hid (unlTo_succ (kind := kind) (xs := F.toL) (i := i))
          have hjj : ¬ (j : Int) < (j : Int) := by omega
          have HB2 := HBx
          have HBw := Lib.hid HI.out.1
          have HX2 := Lib.hid HI.out.2
          have x0 := HX2.out.cell 0
          have x1 := HX2.out.cell 1
          have x2 := HX2.out.cell 2
          have x3 := HX2.out.cell 3
          cases hk : keepAt kind F.toL i
          · have HU2 := Lib.hid (show unlTo kind F.toL (i + 1) = unlTo kind F.toL i by rw [HU.out, if_neg (by rw [hk]; decide), List.append_nil])
            clear hk
            go_wp2_with (fail)
            go_roundw
            case rel => exact ⟨i + 1, n, A', c', ys, hlt, by omega, by go_num, rfl, by rw [HU2.out]; exact HLn.out, by rw [HU2.out]; exact ⟨own_below_all HO.out.1 HBw.out, HO.out.2⟩, HB2.out⟩
            case measure => simp [intOf]; omega
          · have HU2 := Lib.hid (show unlTo kind F.toL (i + 1) = unlTo kind F.toL i ++ [x] by rw [HU.out, if_pos hk, hGx.out])
            clear hk
            have hrow := own_below_all HO.out.1 HBw.out
            have HOr := Lib.hid HO.out.2
            go_wp2_with (at_builtin; refine Hid.out ?_)
            refine Lib.hid ?_
            have hbb : Below wr.heap.size wr (wr.alloc (.cells #[.int .i64 x.k, .int .i64 x.v, .int .i64 x.n, .slice B1 n1 e1] 24)) := (Below.refl _ _).alloc (Nat.le_refl _) _
            refine wpList_push elemCond2 rfl (.tmp 47) (.tmp 49) rfl w.heap.size A' n c' ys rfl (own_below_all hrow hbb) wr.heap.size rfl [.int .i64 x.k, .int .i64 x.v, .int .i64 x.n, .slice B1 n1 e1] rfl (new_cells _ _ _) (by intro u hu; simp at hu; rcases hu with rfl | rfl | rfl | rfl <;> rfl) (by omega) (by omega) (by have := HB2.out.size; simp only [World.size_alloc]; omega) ?_
            intro A3 c3 w5 hown5 hb5 hg5
            have HB5 := Lib.hid (HB2.out.trans ((hbb.mono HB2.out.size).trans hb5))
            have HO5 := Lib.hid hown5
            clear hrow hbb hown5 hb5 hg5
            go_wp2_with (fail)
            go_roundw
            case rel => exact ⟨i + 1, n + 1, A3, c3, _, hlt, by omega, by go_num, rfl, by rw [HU2.out, List.length_append, ← HLn.out]; rfl, by rw [HU2.out, ofL_app]; exact ⟨HO5.out, RepF.app HOr.out (RepF.one1 HRx.out)⟩, HB5.out⟩
            case measure => simp [intOf]; omega
    · obtain rfl : i = m := by omega
      have hii : ¬ (i : Int) < (i : Int) := by omega
      have HU := Lib.hid (show unl kind F.toL = unlTo kind F.toL i by rw [HL.out]; rfl)
      go_wp2_with (fail)
      go_ret
      exact ⟨A', n, c', rfl, ys, HO.out.1, by rw [HU.out]; exact HO.out.2, by rw [HU.out]; exact HLn.out, HB.out⟩
end Go.Proofs.YticpjdjdimpglaaGreatDoor
/- slices.SortFunc at conditions, with format.compare, by its contract. -/
namespace Go.Proofs.YticpjdjdimpglaaGreatDoor
set_option linter.unusedVariables false
set_option linter.unusedSimpArgs false
open Go.RowKit Go.Sort Go.Shelf
/-- A condition with its inner slice, held by the world w. -/
structure CE (S : Nat → Prop) (w : World) where
  x : CT
  B : Option Addr
  n : Nat
  e : Nat
  h : RepH S w x.ps B n e
variable {S : Nat → Prop} {w0 : World}
def ceZ : CE S w0 := ⟨⟨0, 0, 0, .nil⟩, none, 0, 0, RepH.nil⟩
instance ceInh : Inhabited (CE S w0) := ⟨ceZ⟩
def encC (p : CE S w0) : List Value := [vi p.x.k, vi p.x.v, vi p.x.n, .slice p.B p.n p.e]
def cmpE (p q : CE S w0) : Int := p.x.cmp q.x
theorem encC_len (p : CE S w0) : (encC p).length = 4 := rfl
theorem cmp_swo : SWO (ltOf (cmpE (S := S) (w0 := w0))) where
  irrefl x := by unfold ltOf cmpE; rw [CT.cmp_zero.2 rfl]; rfl
  trans x y z h1 h2 := by
    unfold ltOf cmpE at *
    simp only [decide_eq_true_eq] at *
    exact CT.cmp_trans h1 h2
  ntrans x y z h1 h2 := by
    unfold ltOf cmpE at *
    simp only [decide_eq_false_iff_not] at *
    intro h3
    by_cases e1 : x.x.cmp y.x = 0
    · rw [CT.cmp_zero.1 e1] at h3
      exact h2 h3
    · by_cases e2 : y.x.cmp z.x = 0
      · rw [← CT.cmp_zero.1 e2] at h3
        exact h1 h3
      · have s1 := CT.cmp_swap x.x y.x
        have s2 := CT.cmp_swap y.x z.x
        have s3 := CT.cmp_swap x.x z.x
        have := CT.cmp_trans (show z.x.cmp y.x < 0 by omega) (show y.x.cmp x.x < 0 by omega)
        omega
theorem flatC_len (d : List (CE S w0)) : (d.flatMap encC).length = d.length * 4 := by
  induction d with
  | nil => rfl
  | cons p d ih => rw [List.flatMap_cons, List.length_append, ih, encC_len, List.length_cons]; omega
theorem flatC_get : ∀ (d : List (CE S w0)) (k j : Nat) (hk : k < d.length), j < 4 → (d.flatMap encC)[k * 4 + j]? = (encC d[k])[j]?
  | [], k, j, hk, _ => by simp at hk
  | p :: d, 0, j, _, hj => by rw [List.flatMap_cons, Nat.zero_mul, Nat.zero_add, List.getElem?_append_left (by rw [encC_len]; exact hj)]; rfl
  | p :: d, k + 1, j, hk, hj => by
    rw [List.flatMap_cons, List.getElem?_append_right (by rw [encC_len]; omega), encC_len, show (k + 1) * 4 + j - 4 = k * 4 + j by omega, flatC_get d k j (by simpa using hk) hj]
    rfl
/-- The cells of a row of conditions, as elements. -/
theorem ce_of : ∀ {l : List CT} {xs : List Value}, RepF S w0 (CF.ofL l) xs → ∃ d : List (CE S w0), d.map (·.x) = l ∧ xs = d.flatMap encC
  | [], _, h => ⟨[], rfl, h⟩
  | x :: l, _, h => by
    obtain ⟨A, m, c, ys, zs, rfl, h1, h2⟩ := h
    obtain ⟨d, hd, hz⟩ := ce_of (l := l) h2
    exact ⟨⟨x, A, m, c, ys, h1⟩ :: d, by rw [List.map_cons, hd], by rw [List.flatMap_cons, ← hz]; rfl⟩
theorem rep_of : ∀ d : List (CE S w0), RepF S w0 (CF.ofL (d.map (·.x))) (d.flatMap encC)
  | [] => rfl
  | p :: d => by
    obtain ⟨ys, h⟩ := p.h
    exact ⟨p.B, p.n, p.e, ys, d.flatMap encC, rfl, h, rep_of d⟩
theorem grown_sortC (W : World) (g off m : Nat) (d : Array (CE S w0)) (os : Array Obj) : W.grownBy (sortWorldK encC 4 W g off m d os) (some g) := by
  unfold sortWorldK putRowK putRow mapBlock
  refine ⟨rfl, rfl, rfl, ?_, fun k hk hne => ?_⟩
  · show W.heap.size ≤ ((Array.modify W.heap g _) ++ os).size
    simp
  · show ((Array.modify W.heap g _) ++ os)[k]? = W.heap[k]?
    rw [Array.getElem?_append_left (by simpa using hk), Array.getElem?_modify]
    have : g ≠ k := fun e => hne (by rw [e])
    simp [this]
theorem aggC (w : World) : (isAgg 24).run Tryz.prog w = .ok true w := by kernel_rfl
theorem sizeC (w : World) : (Go.sizeOf 24).run Tryz.prog w = .ok 4 w := by kernel_rfl
set_option maxHeartbeats 400000 in
theorem csort_any (W : World) (base g n cap : Nat) (l : List CT) (ys : List Value) (hn : l.length = n) (hs : n ≤ 1000) (hw0 : w0.heap.size ≤ base) (hb : Below w0.heap.size w0 W) (hrep : RepF S w0 (CF.ofL l) ys) (hrow : W.ownsRow base 24 4 (.slice (some ⟨g, 0, none⟩) n cap) n ys) :
    Calls Tryz.prog 111 #[.slice (some ⟨g, 0, none⟩) n cap, .func (.func 107) #[] #[]] W fun e w' => e = .returned (.tuple #[]) ∧
      ∃ (l' : List CT) (zs : List Value), l'.Perm l ∧ l'.Pairwise (fun a b => a.cmp b ≤ 0) ∧ RepF S w0 (CF.ofL l') zs ∧ Rd w' w'.heap.size 4 (some ⟨g, 0, none⟩) n cap zs ∧ Below base W w' := by
  obtain ⟨d, hd, rfl⟩ := ce_of hrep
  have hcells := hrow.cells (g := g) rfl
  have hrd := own_rd hrow
  have hadd : ∀ j, (⟨g, 0, none⟩ : Addr).add j = ⟨g, j, none⟩ := fun j => by unfold Addr.add; split <;> simp_all
  have hgb : ∀ k, (Value.slice (some ⟨g, 0, none⟩) n cap).ownBlock = some k → base ≤ k ∧ k < W.heap.size := hrow.lt
  have hblk : g < W.heap.size := (hgb g rfl).2
  have hbase : base ≤ g := (hgb g rfl).1
  have hfz : ∀ j, W.frozen? ⟨g, j, none⟩ = false := fun j => by
    rcases hrow.2 with ⟨e1, _⟩ | ⟨g', cap', cur, e1, _, hh, _⟩
    · cases e1
    · injection e1 with e1
      injection e1 with e1
      injection e1 with e1
      subst e1
      simp [World.frozen?, hh]
  have hdl : d.length = n := by rw [← hn, ← hd, List.length_map]
  have hsz : d.toArray.size = n := by simpa using hdl
  have hH : HoldsK encC 4 W g 0 d.toArray := by
    intro t ht
    rw [size_flatK] at ht
    refine ⟨?_, by rw [Nat.zero_add]; exact hfz t⟩
    rw [get_flatK _ _ _ _ ht]
    have hk : t / 4 < d.length := by rw [hsz] at ht; omega
    have hj : t % 4 < 4 := Nat.mod_lt _ (by omega)
    have e : t / 4 * 4 + t % 4 = t := by omega
    have h1 := flatC_get d (t / 4) (t % 4) hk hj
    rw [e] at h1
    have hlt : t % 4 < (encC d[t / 4]).length := by rw [encC_len]; exact hj
    rw [List.getElem?_eq_getElem hlt] at h1
    have h2 := hcells t _ h1
    rw [hadd] at h2
    rw [Nat.zero_add, h2]
    congr 1
    have hk' : t / 4 < d.toArray.size := by simpa using hk
    rw [getElem!_pos d.toArray (t / 4) hk', getElem!_pos _ (t % 4) (by rw [encC_len]; exact hj)]
    simp
  have eg : ∀ args w, (callFunc 107 args).run Tryz.prog w = .ok (.enter 107 args) w := enters_of Tryz.func107 (by kernel_rfl) rfl
  have hbel : ∀ (m : Nat) (os : Array Obj) (dk : Array (CE S w0)), Below w0.heap.size w0 (sortWorldK encC 4 W g 0 m dk os) := fun m os dk =>
    hb.trans ((Below.refl _ W).grown (grown_sortC W g 0 m dk os) hb.size (fun k hk => by injection hk with hk; omega))
  have hcmp : CmpLays Tryz.prog 107 #[] encC 4 cmpE g 0 d.toArray.size W := fun m os dk _ x y =>
    (cmp_all (x.x.ps.cnt + 1) S S x.x y.x x.B x.n x.e y.B y.n y.e _ (Nat.lt_succ_self _) (x.h.below (hbel m os dk)) (y.h.below (hbel m os dk)))
  have hcon := AnyQ.slices_SortFunc Tryz.laysSort 4 aggC sizeC encC encC_len (fun x v hv => by simp [encC] at hv; rcases hv with rfl | rfl | rfl | rfl <;> rfl) cmpE cmp_swo 107 #[] g 0 cap d.toArray W eg hcmp hH hblk (by rw [hsz]; omega)
  rw [hsz] at hcon
  change Calls Tryz.prog 111 _ _ _ at hcon
  refine hcon.mono fun e w' ⟨he, d', nn, os, hp, hs', hw⟩ => ⟨he, d'.toList.map (·.x), d'.toList.flatMap encC, ?_, ?_, rep_of _, ?_, ?_⟩
  · have h1 := hp.2.2
    have h2 : d'.size = n := hp.1.trans hsz
    rw [show d'.extract 0 n = d' from by rw [← h2]; exact Array.extract_size, show d.toArray.extract 0 n = d.toArray from by rw [← hsz]; exact Array.extract_size] at h1
    rw [← hd]
    exact List.Perm.map _ h1
  · rw [List.pairwise_map, List.pairwise_iff_getElem]
    intro i j hi hj hij
    have h2 : d'.size = n := hp.1.trans hsz
    have hj' : j < d'.size := by simpa using hj
    have hi' : i < d'.size := by simpa using hi
    have h3 := hs' i j (Nat.zero_le _) hij (by omega)
    rw [getElem!_pos d' i hi', getElem!_pos d' j hj'] at h3
    unfold ltOf cmpE at h3
    simp only [decide_eq_false_iff_not] at h3
    have h4 := CT.cmp_swap d'[j].x d'[i].x
    show (d'.toList[i]).x.cmp (d'.toList[j]).x ≤ 0
    simp only [Array.getElem_toList]
    omega
  · have h2 : d'.size = d.toArray.size := hp.1
    have hHs := holdsK_sortWorldK_c encC 4 W g 0 d.toArray d' nn os hH hblk h2
    rw [← hw] at hHs
    have hww : W.heap.size ≤ w'.heap.size := by
      have h5 := (grown_sortC W g 0 nn d' os)
      rw [← hw] at h5
      obtain ⟨_, _, _, h6, _⟩ := h5
      exact h6
    refine ⟨by rw [flatC_len]; simp only [Array.length_toList]; omega, hrd.cap, hrd.big, fun hn0 => ⟨g, 0, rfl, by omega, fun j u hu => ?_⟩⟩
    have hjl := (List.getElem?_eq_some_iff.1 hu).1
    rw [flatC_len] at hjl
    have hk : j / 4 < d'.size := by simp only [Array.length_toList] at hjl; omega
    have c0 := (hHs.cell hk (show j % 4 < 4 from Nat.mod_lt _ (by omega))).1
    have hg := flatC_get d'.toList (j / 4) (j % 4) (by simpa using hk) (Nat.mod_lt _ (by omega))
    rw [show j / 4 * 4 + j % 4 = j by omega, hu] at hg
    rw [getElem!_pos d' (j / 4) hk, getElem!_pos _ (j % 4) (by rw [encC_len]; exact Nat.mod_lt _ (by omega)), show 0 + j / 4 * 4 + j % 4 = j by omega] at c0
    rw [Nat.zero_add, c0]
    rw [hg]
    have : j % 4 < (encC d'[j / 4]).length := by rw [encC_len]; exact Nat.mod_lt _ (by omega)
    simp only [Array.getElem_toList, List.getElem?_eq_getElem this]
  · rw [hw]
    exact (Below.refl _ W).grown (grown_sortC W g 0 nn d' os) (by omega) (fun k hk => by injection hk with hk; omega)
end Go.Proofs.YticpjdjdimpglaaGreatDoor
/- Plain law: a normal form holds where the condition does. No program. -/
namespace Go.Proofs.YticpjdjdimpglaaGreatDoor
set_option linter.unusedVariables false
set_option linter.unusedSimpArgs false
section
variable (e : Int → Int)
end
theorem toL_ofL2 : ∀ l : List CT, (CF.ofL l).toL = l
  | [] => rfl
  | c :: r => by rw [CF.ofL, CF.one, CF.toL, toL_ofL2 r]
theorem seqO_some {α β : Type} {f : β → Option α} : ∀ {l : List β} {xs : List α}, seqO (l.map f) = some xs → xs.length = l.length ∧ ∀ i (h : i < l.length) (h' : i < xs.length), f l[i] = some xs[i]
  | [], xs, h => by cases h; exact ⟨rfl, fun i h => absurd h (by simp)⟩
  | b :: l, xs, h => by
    rw [List.map_cons] at h
    cases hb : f b with
    | none => rw [hb] at h; cases h
    | some x =>
      rw [hb] at h
      have h' : (seqO (l.map f)).map (x :: ·) = some xs := h
      rw [Option.map_eq_some_iff] at h'
      obtain ⟨ys, h1, rfl⟩ := h'
      obtain ⟨h2, h3⟩ := seqO_some h1
      refine ⟨by simp [h2], fun i hi hi' => ?_⟩
      cases i with
      | zero => exact hb
      | succ i => exact h3 i (by simpa using hi) (by simpa using hi')
theorem seqO_mem {α β : Type} {f : β → Option α} {l : List β} {xs : List α} (h : seqO (l.map f) = some xs) : (∀ x ∈ xs, ∃ b ∈ l, f b = some x) ∧ ∀ b ∈ l, ∃ x ∈ xs, f b = some x := by
  obtain ⟨h1, h2⟩ := seqO_some h
  refine ⟨fun x hx => ?_, fun b hb => ?_⟩
  · obtain ⟨i, hi, rfl⟩ := List.mem_iff_getElem.1 hx
    exact ⟨l[i]'(by omega), List.getElem_mem _, h2 i (by omega) hi⟩
  · obtain ⟨i, hi, rfl⟩ := List.mem_iff_getElem.1 hb
    exact ⟨xs[i]'(by omega), List.getElem_mem _, h2 i hi (by omega)⟩
/-- What a normal form is: an element whose parts are elements. -/
inductive Fine : CT → Prop where
  | mk (y : CT) (h : Nrm y) (hp : (y.k = 2 ∨ y.k = 3) → ∀ p ∈ y.ps.toL, Fine p) : Fine y
theorem Fine.nrm {y : CT} (h : Fine y) : Nrm y := by cases h; assumption
theorem Fine.parts {y : CT} (h : Fine y) : (y.k = 2 ∨ y.k = 3) → ∀ p ∈ y.ps.toL, Fine p := by cases h; assumption
end Go.Proofs.YticpjdjdimpglaaGreatDoor
/- Plain law: the normal form of a normal form is itself. No program. -/
namespace Go.Proofs.YticpjdjdimpglaaGreatDoor
set_option linter.unusedVariables false
set_option linter.unusedSimpArgs false
/-- Elements that are in order, none of which makes another one superfluous, stay as they are. -/
theorem ins_again {kind : Int} {l : List CT} (hr : Rise l) (hn : ∀ x ∈ l, Nrm x) (ht : ∀ x ∈ l, ∀ y ∈ l, covers kind y x = true → y = x) : l.foldl (insC kind) [] = l := by
  obtain ⟨h1, h2, _⟩ := ins_fold (kind := kind) l.length l rfl hn
  refine rise_unique _ _ h1 hr fun x => ?_
  rw [h2 x]
  exact ⟨fun h => h.1, fun h => ⟨h, fun y hy => ht x h y hy⟩⟩
theorem ins_twice {kind : Int} {xs : List CT} (hn : ∀ x ∈ xs, Nrm x) : (xs.foldl (insC kind) []).foldl (insC kind) [] = xs.foldl (insC kind) [] := by
  obtain ⟨h1, h2, _⟩ := ins_fold (kind := kind) xs.length xs rfl hn
  refine ins_again h1 (fun x hx => hn x ((h2 x).1 hx).1) fun x hx y hy h => ?_
  exact ((h2 x).1 hx).2 y ((h2 y).1 hy).1 h
/-- A normal form. -/
inductive Norm : CT → Prop where
  | mk' (y : CT) (h : Nrm y) (hn : (y.k = 2 ∨ y.k = 3) → ∀ p ∈ y.ps.toL, Norm p) (hp : (y.k = 2 ∨ y.k = 3) → y.v = 0 ∧ y.n = 0 ∧ (∀ p ∈ y.ps.toL, p.k ≠ y.k) ∧ y.ps.toL.foldl (insC y.k) [] = y.ps.toL ∧ (∀ x, y.ps.toL ≠ [x]) ∧ y.ps.toL.length ≤ 16) : Norm y
theorem Norm.mk (y : CT) (h : Nrm y) (hp : (y.k = 2 ∨ y.k = 3) → y.v = 0 ∧ y.n = 0 ∧ (∀ p ∈ y.ps.toL, Norm p ∧ p.k ≠ y.k) ∧ y.ps.toL.foldl (insC y.k) [] = y.ps.toL ∧ (∀ x, y.ps.toL ≠ [x]) ∧ y.ps.toL.length ≤ 16) : Norm y :=
  .mk' y h (fun hk p hm => ((hp hk).2.2.1 p hm).1) fun hk => ⟨(hp hk).1, (hp hk).2.1, fun p hm => ((hp hk).2.2.1 p hm).2, (hp hk).2.2.2⟩
theorem Norm.nrm {y : CT} (h : Norm y) : Nrm y := by cases h; assumption
theorem Norm.parts {y : CT} (h : Norm y) : (y.k = 2 ∨ y.k = 3) → y.v = 0 ∧ y.n = 0 ∧ (∀ p ∈ y.ps.toL, Norm p ∧ p.k ≠ y.k) ∧ y.ps.toL.foldl (insC y.k) [] = y.ps.toL ∧ (∀ x, y.ps.toL ≠ [x]) ∧ y.ps.toL.length ≤ 16 := by
  cases h with
  | mk' _ h hn hp => exact fun hk => ⟨(hp hk).1, (hp hk).2.1, fun p hm => ⟨hn hk p hm, (hp hk).2.2.1 p hm⟩, (hp hk).2.2.2⟩
theorem norm_norm : ∀ (f : Nat) (neg : Bool) (c y : CT), okC c = true → norm f neg c = some y → Norm y
  | 0, neg, c, y, _, h => by cases h
  | f + 1, neg, c, y, hok, h => by
    have ih := norm_norm f
    unfold norm at h
    rcases okC_cases hok with h1 | h1 | h1
    · rw [if_pos h1.1] at h
      have hps := h1.2.2.2.2.2
      have hnc : Nrm c := .inl ⟨h1.1, hps⟩
      cases neg with
      | false =>
        rw [if_neg (by decide)] at h
        injection h with h
        subst h
        exact .mk _ hnc (fun h2 => by have := h1.1; omega)
      | true =>
        rw [if_pos rfl] at h
        injection h with h
        subst h
        have hnn : Nrm (cnot c) := .inr (.inl ⟨rfl, rfl, rfl, c.v, c.n, by show CF.one c .nil = _; unfold CF.one; rw [h1.1, hps]⟩)
        exact .mk _ hnn (fun h2 => by have : (cnot c).k = 4 := rfl; omega)
    · rw [if_neg (by omega), if_pos h1.1] at h
      have hl := num_toL c.ps
      cases hps : c.ps.toL with
      | nil => rw [hps] at hl; simp only [List.length_nil] at hl; omega
      | cons p r =>
        rw [hps] at h
        simp only at h
        have hp := okB_mem h1.2.2.2.2 p (by rw [hps]; simp)
        exact ih (!neg) p y hp h
    · rw [if_neg (by omega), if_neg (by omega)] at h
      obtain ⟨kind, hkd⟩ : ∃ kind : Int, kind = if neg = true then 5 - c.k else c.k := ⟨_, rfl⟩
      have hk23 : kind = 2 ∨ kind = 3 := by rw [hkd]; cases neg <;> simp <;> omega
      simp only at h
      rw [Option.bind_eq_some_iff] at h
      obtain ⟨xs, hs, h⟩ := h
      rw [← hkd] at h
      obtain ⟨m1, _⟩ := seqO_mem hs
      have hok' := fun p hp => okB_mem h1.2.2.2.2.2 p hp
      have hx : ∀ x ∈ xs, Norm x := fun x hx => by
        obtain ⟨b, hb, hb2⟩ := m1 x hx
        exact ih neg b x (hok' b hb) hb2
      obtain ⟨ws, hws⟩ : ∃ ws, ws = xs.flatMap fun x => if x.k = kind then x.ps.toL else [x] := ⟨_, rfl⟩
      rw [← hws] at h
      have hwf : ∀ x ∈ ws, Norm x ∧ x.k ≠ kind := fun x hx' => by
        rw [hws] at hx'
        obtain ⟨z, hz, hz2⟩ := List.mem_flatMap.1 hx'
        split at hz2
        · next hc =>
          have := ((hx z hz).parts (by omega)).2.2.1 x hz2
          exact ⟨this.1, by rw [← hc]; exact this.2⟩
        · next hc =>
          obtain rfl := List.mem_singleton.1 hz2
          exact ⟨hx x hz, hc⟩
      have hwn : ∀ x ∈ ws, Nrm x := fun x hx' => (hwf x hx').1.nrm
      have htw := ins_twice (kind := kind) hwn
      obtain ⟨R, hR⟩ : ∃ R, R = ws.foldl (insC kind) [] := ⟨_, rfl⟩
      rw [← hR] at h htw
      have hRf : ∀ x ∈ R, Norm x ∧ x.k ≠ kind := fun x hx' => by
        rw [hR] at hx'
        exact hwf x (((ins_fold (kind := kind) ws.length ws rfl hwn).2.1 x).1 hx').1
      clear hR
      split at h
      · next x =>
        injection h with h
        subst h
        exact (hRf x (by simp)).1
      · next hne =>
        split at h
        · cases h
        · next h16 =>
          injection h with h
          subst h
          refine .mk _ (.inr (.inr hk23)) (fun _ => ⟨rfl, rfl, fun p hp => hRf p (by rwa [toL_ofL2] at hp), ?_, fun x => ?_, ?_⟩)
          · show (CF.ofL R).toL.foldl (insC kind) [] = (CF.ofL R).toL
            rw [toL_ofL2]; exact htw
          · show (CF.ofL R).toL ≠ [x]
            rw [toL_ofL2]; exact fun e => hne x e
          · show (CF.ofL R).toL.length ≤ 16
            rw [toL_ofL2]; omega
theorem seqO_same {α : Type} {f : α → Option α} : ∀ {l : List α}, (∀ x ∈ l, f x = some x) → seqO (l.map f) = some l
  | [], _ => rfl
  | a :: l, h => by
    rw [List.map_cons, h a (by simp)]
    show (seqO (l.map f)).map (a :: ·) = _
    rw [seqO_same (fun x hx => h x (by simp [hx]))]
    rfl
theorem ofL_toL2 : ∀ F : CF, CF.ofL F.toL = F
  | .nil => rfl
  | .cons k v n ps r => by rw [CF.toL, CF.ofL, ofL_toL2 r]; rfl
theorem dep_in : ∀ {F : CF} {p : CT}, p ∈ F.toL → p.ps.dep + 1 ≤ F.dep
  | .nil, p, h => by cases h
  | .cons k v n ps r, p, h => by
    rw [CF.dep]
    rcases List.mem_cons.1 h with rfl | h
    · show ps.dep + 1 ≤ _; omega
    · have := dep_in h; omega
/-- The normal form of a normal form is itself. -/
theorem norm_same : ∀ (f : Nat) (y : CT), Norm y → y.ps.dep + 1 ≤ f → norm f false y = some y
  | 0, y, _, h => by omega
  | f + 1, y, hy, hf => by
    unfold norm
    rcases hy.nrm with h1 | ⟨h1, h2, h3, v, n, h4⟩ | h1
    · rw [if_pos h1.1]; rfl
    · rw [if_neg (by omega), if_pos h1, h4]
      have hd : 1 ≤ f := by rw [h4] at hf; simp only [CF.dep] at hf; omega
      obtain ⟨f', rfl⟩ : ∃ f', f = f' + 1 := ⟨f - 1, by omega⟩
      show norm (f' + 1) true ⟨1, v, n, .nil⟩ = _
      unfold norm
      rw [if_pos rfl, if_pos rfl]
      obtain ⟨k, a, b, ps⟩ := y
      simp only at h1 h2 h3 h4
      subst h1; subst h2; subst h3; subst h4
      rfl
    · obtain ⟨e1, e2, e3, e4, e5, e6⟩ := hy.parts h1
      rw [if_neg (by omega), if_neg (by omega)]
      simp only
      rw [if_neg (by decide), seqO_same fun x hx => norm_same f x (e3 x hx).1 (by have := dep_in hx; omega)]
      simp only [Option.bind_some]
      have hfm : (y.ps.toL.flatMap fun x => if x.k = y.k then x.ps.toL else [x]) = y.ps.toL := by
        have : ∀ l : List CT, (∀ x ∈ l, x.k ≠ y.k) → (l.flatMap fun x => if x.k = y.k then x.ps.toL else [x]) = l := fun l => by
          induction l with
          | nil => intro _; rfl
          | cons a l ih =>
            intro h
            rw [List.flatMap_cons, if_neg (h a (by simp)), ih (fun x hx => h x (by simp [hx]))]
            rfl
        exact this _ fun x hx => (e3 x hx).2
      rw [hfm, e4]
      split
      · next x hx => exact absurd hx (e5 x)
      · rw [if_neg (by omega), ofL_toL2]
        obtain ⟨k, a, b, ps⟩ := y
        simp only at e1 e2
        subst e1; subst e2
        rfl
theorem tcond_dep {c : CT} (h : tcond c = 0) : c.ps.dep + 1 ≤ 17 := by
  unfold tcond at h
  split at h
  · omega
  · next hn =>
    have : (CF.one c .nil).dep = max (c.ps.dep + 1) 0 := rfl
    omega
/-- A normal form is valid and its own normal form. -/
theorem tidy_tidy {c : CT} (h : (tidy c).2 = 0) (hok : tcond c = 0 → okC c = true) : tidy (tidy c).1 = tidy c ∧ tcond (tidy c).1 = 0 := by
  obtain ⟨t, ht⟩ : ∃ t, t = tidy c := ⟨_, rfl⟩
  rw [← ht] at h ⊢
  unfold tidy at ht
  split at ht
  · next h0 => rw [ht] at h; exact absurd h h0
  · next h0 =>
    have h0' : tcond c = 0 := by omega
    split at ht
    · rw [ht] at h; cases h
    · next y hy =>
      split at ht
      · next hv =>
        subst ht
        refine ⟨?_, hv⟩
        have hN := norm_norm 100 false c y (hok h0') hy
        unfold tidy
        rw [if_neg (by simpa using hv), norm_same 100 y hN (by have := tcond_dep hv; omega)]
        simp only
        rw [if_pos hv]
      · rw [ht] at h; cases h
end Go.Proofs.YticpjdjdimpglaaGreatDoor
/- The parser of chapter 13 in plain Lean: it goes on, and stays within the tokens. -/
namespace Go.Proofs.YticpjdjdimpglaaGreatDoor
set_option linter.unusedVariables false
set_option linter.unusedSimpArgs false
theorem Res.map_ok {α β : Type} {r : Res α} {f : α → β} {b : β} {n : Nat} (h : r.map f = .ok b n) : ∃ a, r = .ok a n ∧ f a = b := by
  cases r with
  | ok a m => cases h; exact ⟨a, rfl, rfl⟩
  | bad m => cases h
/-- A result lies between a and the number of the tokens. -/
def Res.In {α : Type} (L a : Nat) : Res α → Prop
  | .ok _ n => a < n ∧ n ≤ L
  | .bad n => a ≤ n ∧ (n ≤ L ∨ n = a)
/-- The like for what may take no token. -/
def Res.In0 {α : Type} (L a : Nat) : Res α → Prop
  | .ok _ n => a ≤ n ∧ (n ≤ L ∨ n = a)
  | .bad n => a ≤ n ∧ (n ≤ L ∨ n = a)
theorem Res.In.bind {α β : Type} {L a : Nat} {r : Res α} {f : α → Nat → Res β} (h : r.In L a) (hf : ∀ x n, r = .ok x n → (f x n).In0 L n) : (r.bind f).In L a := by
  cases r with
  | ok x n =>
    have h1 := hf x n rfl
    simp only [Res.bind]
    revert h1
    cases f x n <;> simp only [Res.In, Res.In0] at * <;> omega
  | bad n => exact h
theorem Res.In0.bind {α β : Type} {L a : Nat} {r : Res α} {f : α → Nat → Res β} (h : r.In0 L a) (hf : ∀ x n, r = .ok x n → (f x n).In0 L n) : (r.bind f).In0 L a := by
  cases r with
  | ok x n =>
    have h1 := hf x n rfl
    simp only [Res.bind]
    revert h1
    cases f x n <;> simp only [Res.In0] at * <;> omega
  | bad n => exact h
theorem Res.In.map {α β : Type} {L a : Nat} {r : Res α} {f : α → β} (h : r.In L a) : (r.map f).In L a := by
  cases r <;> exact h
theorem Res.In0.map {α β : Type} {L a : Nat} {r : Res α} {f : α → β} (h : r.In0 L a) : (r.map f).In0 L a := by
  cases r <;> exact h
theorem Res.In.from {α : Type} {L a b : Nat} {r : Res α} (h : r.In L b) (hab : a ≤ b) (hb : b ≤ L) : r.In L a := by
  cases r <;> simp only [Res.In] at * <;> omega
theorem Res.In0.from {α : Type} {L a b : Nat} {r : Res α} (h : r.In0 L b) (hab : a < b) (hb : b ≤ L) : r.In L a := by
  cases r <;> simp only [Res.In, Res.In0] at * <;> omega
section
variable (T : List Tok)
theorem nx_out {a : Nat} (h : T.length ≤ a) : nx T a = ⟨5, [], 0⟩ := by unfold nx; rw [List.getElem?_eq_none h]; rfl
theorem nx_kind {a : Nat} (h : (nx T a).kind ≠ 5) : a < T.length := by
  rcases Nat.lt_or_ge a T.length with h1 | h1
  · exact h1
  · rw [nx_out T h1] at h; exact absurd rfl h
end
end Go.Proofs.YticpjdjdimpglaaGreatDoor
