/- Plain laws: a condition's printed text is parsed to the condition's core. No program. -/
import Derived.Test.YticpjdjdimpglaaGreatDoorCTisMCmp2
import Derived.Test.YticpjdjdimpglaaGreatDoorCTisMYLaws
namespace Go.Proofs.YticpjdjdimpglaaGreatDoor
set_option linter.unusedVariables false
set_option linter.unusedSimpArgs false
mutual
/-- All single conditions replaced by their cores: in a row; one. -/
def corF : CF → CF
  | .nil => .nil
  | .cons k v n ps r => .one (cor1 ps k v n) (corF r)
def cor1 : CF → Int → Int → Int → CT
  | .nil, k, v, n => ⟨k, v, n, .nil⟩
  | .cons k' v' n' ps' r', k, v, n => if (k = 2 ∨ k = 3) ∧ r' = .nil then cor1 ps' k' v' n' else ⟨k, v, n, .one (cor1 ps' k' v' n') (corF r')⟩
end
def cores (c : CT) : CT := cor1 c.ps c.k c.v c.n
theorem cor1_core : ∀ (ps : CF) (k v n : Int), cor1 ps k v n = ⟨(coreF k v n ps).k, (coreF k v n ps).v, (coreF k v n ps).n, corF (coreF k v n ps).ps⟩
  | .nil, k, v, n => by rw [cor1, coreF, corF]
  | .cons k' v' n' ps' r', k, v, n => by
    by_cases h : (k = 2 ∨ k = 3) ∧ r' = .nil
    · rw [cor1, if_pos h, coreF, if_pos h]
      exact cor1_core ps' k' v' n'
    · rw [cor1, if_neg h, coreF, if_neg h]
      simp only
      rw [corF]
theorem cores_def (c : CT) : cores c = ⟨(core c).k, (core c).v, (core c).n, corF (core c).ps⟩ := cor1_core c.ps c.k c.v c.n
theorem corF_list : ∀ F : CF, corF F = CF.ofL (F.toL.map cores)
  | .nil => by rw [corF]; rfl
  | .cons k v n ps r => by rw [corF, corF_list r]; rfl
/-- How deep a condition is. -/
def dpt (c : CT) : Nat := c.ps.dep + 1
theorem dep_mem : ∀ {F : CF}, ∀ p ∈ F.toL, dpt p ≤ F.dep
  | .nil, p, h => by cases h
  | .cons k v n ps r, p, h => by
    rcases List.mem_cons.1 h with rfl | h
    · exact Nat.le_max_left _ _
    · exact Nat.le_trans (dep_mem p h) (Nat.le_max_right _ _)
theorem coreF_dep : ∀ (ps : CF) (k v n : Int), dpt (coreF k v n ps) ≤ ps.dep + 1
  | .nil, k, v, n => Nat.le_refl _
  | .cons k' v' n' ps' r', k, v, n => by
    by_cases h : (k = 2 ∨ k = 3) ∧ r' = .nil
    · rw [coreF, if_pos h]
      have := coreF_dep ps' k' v' n'
      have h2 : ps'.dep + 1 ≤ (CF.cons k' v' n' ps' r').dep := Nat.le_max_left _ _
      omega
    · rw [coreF, if_neg h]
      exact Nat.le_refl _
theorem core_dep (c : CT) : dpt (core c) ≤ dpt c := coreF_dep c.ps c.k c.v c.n
/-- The tokens from an offset on are these. -/
def At (T : List Tok) (a : Nat) (ts : List (Int × List UInt8)) : Prop := ∀ i x, ts[i]? = some x → (nx T (a + i)).kind = x.1 ∧ (nx T (a + i)).text = x.2
section
variable {T : List Tok} {a : Nat}
theorem At.app {x y : List (Int × List UInt8)} (h : At T a (x ++ y)) : At T a x ∧ At T (a + x.length) y := by
  refine ⟨fun i u hu => h i u ?_, fun i u hu => ?_⟩
  · have hi : i < x.length := by
      rcases Nat.lt_or_ge i x.length with h1 | h1
      · exact h1
      · rw [List.getElem?_eq_none h1] at hu; cases hu
    rw [List.getElem?_append_left hi]; exact hu
  · have := h (x.length + i) u (by rw [List.getElem?_append_right (by omega), Nat.add_sub_cancel_left]; exact hu)
    rwa [← Nat.add_assoc] at this
theorem At.head {x : Int × List UInt8} {ts : List (Int × List UInt8)} (h : At T a (x :: ts)) : ((nx T a).kind = x.1 ∧ (nx T a).text = x.2) ∧ At T (a + 1) ts :=
  ⟨h 0 x rfl, fun i u hu => by have := h (i + 1) u (by simpa using hu); rwa [show a + 1 + i = a + (i + 1) by omega]⟩
end
theorem At.len {T : List Tok} {a : Nat} {ts : List (Int × List UInt8)} (h : At T a ts) (hk : ∀ x ∈ ts, x.1 ≠ 5) : ts = [] ∨ a + ts.length ≤ T.length := by
  rcases Nat.eq_zero_or_pos ts.length with h0 | h0
  · exact .inl (List.eq_nil_of_length_eq_zero h0)
  · right
    have hl : ts.length - 1 < ts.length := by omega
    have h1 := h (ts.length - 1) ts[ts.length - 1] (List.getElem?_eq_getElem hl)
    have h2 := nx_kind T (a := a + (ts.length - 1)) (by rw [h1.1]; exact hk _ (List.getElem_mem hl))
    omega
end Go.Proofs.YticpjdjdimpglaaGreatDoor
/- The parser of chapter 13 in plain Lean: it stays within the tokens ahead of the ends (printed by wip/bin/genylawsn.py). -/
namespace Go.Proofs.YticpjdjdimpglaaGreatDoor
set_option linter.unusedVariables false
set_option linter.unusedSimpArgs false
section
variable (T : List Tok) {L : Nat} (hL : ∀ i, L ≤ i → (nx T i).kind = 5)
include hL
end
end Go.Proofs.YticpjdjdimpglaaGreatDoor
/- Plain laws: the parse of tokens that stand within a longer row. No program. -/
namespace Go.Proofs.YticpjdjdimpglaaGreatDoor
set_option linter.unusedVariables false
set_option linter.unusedSimpArgs false
/-- T' holds at d the first N tokens of T (kinds and texts); from N on T has ends alone. -/
structure Sim (T T' : List Tok) (d N : Nat) : Prop where
  len : T.length + d ≤ T'.length
  same : ∀ i, i < N → (nx T' (i + d)).kind = (nx T i).kind ∧ (nx T' (i + d)).text = (nx T i).text
  ends : ∀ i, N ≤ i → (nx T i).kind = 5
  solid : ∀ i, i < N → (nx T i).kind ≠ 5
section
variable {T T' : List Tok} {d N : Nat}
variable {M : Nat}
end
end Go.Proofs.YticpjdjdimpglaaGreatDoor
/- The three functions of chapter 13 in plain Lean; what they say of parentheses, and of texts behind one another. No program. -/
namespace Go.Proofs.YticpjdjdimpglaaGreatDoor
set_option linter.unusedVariables false
set_option linter.unusedSimpArgs false
section
variable {T : List Tok} {kw : List UInt8} {kind : Int} {p : Nat → Res CT} {a n m : Nat} {c c' : CT}
end
def inner (l : List UInt8) : List UInt8 := 40 :: (l ++ [10, 41])
end Go.Proofs.YticpjdjdimpglaaGreatDoor
/- Plain laws of documents: one element; texts behind one another; white space; problems. No program. -/
namespace Go.Proofs.YticpjdjdimpglaaGreatDoor
set_option linter.unusedVariables false
set_option linter.unusedSimpArgs false
section
variable {T T' : List Tok} (h : T.map look = T'.map look)
include h
end
/-- Sorted by offsets. -/
def Sorted (l : List Prob) : Prop := l.Pairwise fun x y => x.at_ ≤ y.at_
/-- How many of the first list's are found in the second, one behind the other. -/
def found [DecidableEq Prob] : List Prob → List Prob → Nat
  | [], _ => 0
  | _ :: _, [] => 0
  | x :: r, y :: s => if x = y then found r s + 1 else found (x :: r) s
end Go.Proofs.YticpjdjdimpglaaGreatDoor
/- Plain law: FormatCondParses. A printed condition is parsed to its core, and that is printed the same. No program. -/
namespace Go.Proofs.YticpjdjdimpglaaGreatDoor
set_option linter.unusedVariables false
set_option linter.unusedSimpArgs false
theorem core_cor1 : ∀ (ps : CF) (k v n : Int), core (cor1 ps k v n) = cor1 ps k v n
  | .nil, k, v, n => by rw [cor1]; rfl
  | .cons k' v' n' ps' r', k, v, n => by
    by_cases h : (k = 2 ∨ k = 3) ∧ r' = .nil
    · rw [cor1, if_pos h]
      exact core_cor1 ps' k' v' n'
    · rw [cor1, if_neg h]
      show coreF k v n (.one (cor1 ps' k' v' n') (corF r')) = _
      unfold CF.one
      rw [coreF, if_neg]
      rintro ⟨h1, h2⟩
      refine h ⟨h1, ?_⟩
      cases r' with
      | nil => rfl
      | cons => rw [corF] at h2; cases h2
theorem core_cores (c : CT) : core (cores c) = cores c := core_cor1 c.ps c.k c.v c.n
theorem toL_ofL : ∀ l : List CT, (CF.ofL l).toL = l
  | [] => rfl
  | c :: r => by rw [CF.ofL, CF.one, CF.toL, toL_ofL r]
theorem cores_parts (c : CT) : (cores c).ps.toL = (core c).ps.toL.map cores := by rw [cores_def, corF_list, toL_ofL]
theorem text_cores : ∀ (f : Nat) (c : CT), ftext f (cores c) = ftext f c ∧ foper f (cores c) = foper f c
  | 0, c => ⟨rfl, rfl⟩
  | f + 1, c => by
    have ih := text_cores f
    have hk : (cores c).k = (core c).k ∧ (cores c).v = (core c).v ∧ (cores c).n = (core c).n := by rw [cores_def]; exact ⟨rfl, rfl, rfl⟩
    have hop : ∀ l : List CT, (l.map cores).map (foper f) = l.map (foper f) := fun l => by rw [List.map_map]; exact List.map_congr_left fun p _ => (ih p).2
    have hor : ∀ l : List CT, (l.map cores).map (fun p => if (core p).k = 3 then foper f p else ftext f p) = l.map (fun p => if (core p).k = 3 then foper f p else ftext f p) := fun l => by
      rw [List.map_map]
      refine List.map_congr_left fun p _ => ?_
      show (if (core (cores p)).k = 3 then foper f (cores p) else ftext f (cores p)) = _
      rw [core_cores, (ih p).1, (ih p).2, show (cores p).k = (core p).k by rw [cores_def]]
    refine ⟨?_, ?_⟩
    · unfold ftext
      simp only
      rw [core_cores, hk.1, hk.2.1, hk.2.2, cores_parts, hop, hor]
      congr 1
      congr 1
      cases (core c).ps.toL with
      | nil => rfl
      | cons p r => simp only [List.map_cons]; rw [(ih p).2]
    · unfold foper
      simp only
      have e1 : ftext f (core c) = ftext f c := by
        cases f with
        | zero => rfl
        | succ f => unfold ftext; simp only [core_idem]
      rw [core_cores, hk.1, (ih c).1, e1]
mutual
theorem corF_ok : ∀ F : CF, F.okB = true → (corF F).okB = true ∧ (corF F).num = F.num ∧ (corF F).cnt ≤ F.cnt ∧ (corF F).dep ≤ F.dep
  | .nil, _ => by rw [corF]; exact ⟨rfl, rfl, Nat.le_refl _, Nat.le_refl _⟩
  | .cons k v n ps r, h => by
    have e : (CF.one ⟨k, v, n, ps⟩ r).okB = true := h
    rw [okB_cons, Bool.and_eq_true] at e
    obtain ⟨h1, h2, h3⟩ := cor1_ok ps k v n e.1
    obtain ⟨g1, g2, g3, g4⟩ := corF_ok r e.2
    rw [corF]
    refine ⟨by rw [okB_cons, h1, g1]; rfl, ?_, ?_, ?_⟩
    · show (corF r).num + 1 = r.num + 1
      rw [g2]
    · show (cor1 ps k v n).ps.cnt + 1 + (corF r).cnt ≤ ps.cnt + 1 + r.cnt
      omega
    · show max ((cor1 ps k v n).ps.dep + 1) (corF r).dep ≤ max (ps.dep + 1) r.dep
      omega
theorem cor1_ok : ∀ (ps : CF) (k v n : Int), okC ⟨k, v, n, ps⟩ = true → okC (cor1 ps k v n) = true ∧ (cor1 ps k v n).ps.cnt ≤ ps.cnt ∧ (cor1 ps k v n).ps.dep ≤ ps.dep
  | .nil, k, v, n, h => by rw [cor1]; exact ⟨h, Nat.le_refl _, Nat.le_refl _⟩
  | .cons k' v' n' ps' r', k, v, n, h => by
    by_cases hs : (k = 2 ∨ k = 3) ∧ r' = .nil
    · rw [cor1, if_pos hs]
      have hk' : okC ⟨k', v', n', ps'⟩ = true := by
        rcases okC_cases h with h3 | h3 | h3
        · have := h3.1; simp only at this; omega
        · have := h3.1; simp only at this; omega
        · exact okB_mem h3.2.2.2.2.2 ⟨k', v', n', ps'⟩ (by simp [CF.toL])
      obtain ⟨h1, h2, h3⟩ := cor1_ok ps' k' v' n' hk'
      have e1 : (CF.cons k' v' n' ps' r').cnt = ps'.cnt + 1 + r'.cnt := rfl
      have e2 : (CF.cons k' v' n' ps' r').dep = max (ps'.dep + 1) r'.dep := rfl
      exact ⟨h1, by omega, by omega⟩
    · rw [cor1, if_neg hs]
      have hne : ¬ k = 1 := by
        intro e
        rcases okC_cases h with h3 | h3 | h3
        · cases h3.2.2.2.2.2
        · have := h3.1; simp only at this; omega
        · have := h3.1; simp only at this; omega
      have hF : (CF.cons k' v' n' ps' r').okB = true := by
        rcases okC_cases h with h3 | h3 | h3
        · cases h3.2.2.2.2.2
        · exact h3.2.2.2.2
        · exact h3.2.2.2.2.2
      have e : (CF.one ⟨k', v', n', ps'⟩ r').okB = true := hF
      rw [okB_cons, Bool.and_eq_true] at e
      obtain ⟨h1, h2, h3⟩ := cor1_ok ps' k' v' n' e.1
      obtain ⟨g1, g2, g3, g4⟩ := corF_ok r' e.2
      have hok : (CF.one (cor1 ps' k' v' n') (corF r')).okB = true := by rw [okB_cons, h1, g1]; rfl
      have hnum : (CF.one (cor1 ps' k' v' n') (corF r')).num = (CF.cons k' v' n' ps' r').num := by show (corF r').num + 1 = r'.num + 1; rw [g2]
      refine ⟨?_, ?_, ?_⟩
      · rw [okC_def] at h ⊢
        rw [if_neg hne] at h ⊢
        rw [hnum, hok]
        rw [hF] at h
        exact h
      · show (cor1 ps' k' v' n').ps.cnt + 1 + (corF r').cnt ≤ ps'.cnt + 1 + r'.cnt
        omega
      · show max ((cor1 ps' k' v' n').ps.dep + 1) (corF r').dep ≤ max (ps'.dep + 1) r'.dep
        omega
end
theorem tcond_zero {c : CT} (h : tcond c = 0) : (CF.one c .nil).cnt ≤ 256 ∧ (CF.one c .nil).dep ≤ 17 ∧ okC c = true := by
  unfold tcond at h
  split at h
  · omega
  · next h1 =>
    split at h
    · next h2 => exact ⟨by omega, by omega, h2⟩
    · omega
end Go.Proofs.YticpjdjdimpglaaGreatDoor
/- Plain laws: the tokens of printed rules, and their parse. No program. -/
namespace Go.Proofs.YticpjdjdimpglaaGreatDoor
set_option linter.unusedVariables false
set_option linter.unusedSimpArgs false
/-- Valid steps whose conditions are valid. -/
theorem okS_cons {k b ck cv cn : Int} {cps : CF} {th el r : SF} (h : (SF.cons k b ck cv cn cps th el r).okB = true) : ((k = 1 ∧ 1 ≤ b ∧ b ≤ 12 ∧ CT.isZ ⟨ck, cv, cn, cps⟩ = true ∧ th.num = 0 ∧ el.num = 0) ∨
    (k = 2 ∧ b = 0 ∧ okC ⟨ck, cv, cn, cps⟩ = true ∧ 0 < th.num ∧ th.okB = true ∧ el.okB = true)) ∧ r.okB = true := by
  unfold SF.okB at h
  rw [Bool.and_eq_true] at h
  refine ⟨?_, h.2⟩
  have h1 := h.1
  by_cases hk : k = 1
  · rw [if_pos hk] at h1
    simp only [Bool.and_eq_true, decide_eq_true_eq, beq_iff_eq] at h1
    exact .inl ⟨hk, h1.1.1.1.1, h1.1.1.1.2, h1.1.1.2, h1.1.2, h1.2⟩
  · rw [if_neg hk] at h1
    by_cases h2 : k = 2
    · rw [if_pos h2] at h1
      simp only [Bool.and_eq_true, decide_eq_true_eq] at h1
      exact .inr ⟨h2, h1.1.1.1.1, h1.1.1.1.2, h1.1.1.2, h1.1.2, h1.2⟩
    · rw [if_neg h2] at h1; cases h1
end Go.Proofs.YticpjdjdimpglaaGreatDoor
