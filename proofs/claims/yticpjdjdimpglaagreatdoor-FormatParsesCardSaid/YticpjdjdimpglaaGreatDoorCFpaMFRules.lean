/- Plain laws: a condition's printed text is parsed to the condition's core. No program. -/
import Derived.Test.YticpjdjdimpglaaGreatDoorCFpaMCmp2
import Derived.Test.YticpjdjdimpglaaGreatDoorCFpaMYLaws
namespace Go.Proofs.YticpjdjdimpglaaGreatDoor
set_option linter.unusedVariables false
set_option linter.unusedSimpArgs false
mutual
/-- All single conditions replaced by their cores: in a row; one. -/
def corF : CF → CF
  | .nil => .nil
  | .cons k v n ps r => .one (cor1 ps k v n) (corF r)
def cor1 : CF → Int → Int → Int → CT
  | .nil, k, v, n => ⟨k, v, n, .nil⟩
  | .cons k' v' n' ps' r', k, v, n => if (k = 2 ∨ k = 3) ∧ r' = .nil then cor1 ps' k' v' n' else ⟨k, v, n, .one (cor1 ps' k' v' n') (corF r')⟩
end
def cores (c : CT) : CT := cor1 c.ps c.k c.v c.n
theorem cor1_core : ∀ (ps : CF) (k v n : Int), cor1 ps k v n = ⟨(coreF k v n ps).k, (coreF k v n ps).v, (coreF k v n ps).n, corF (coreF k v n ps).ps⟩
  | .nil, k, v, n => by rw [cor1, coreF, corF]
  | .cons k' v' n' ps' r', k, v, n => by
    by_cases h : (k = 2 ∨ k = 3) ∧ r' = .nil
    · rw [cor1, if_pos h, coreF, if_pos h]
      exact cor1_core ps' k' v' n'
    · rw [cor1, if_neg h, coreF, if_neg h]
      simp only
      rw [corF]
theorem cores_def (c : CT) : cores c = ⟨(core c).k, (core c).v, (core c).n, corF (core c).ps⟩ := cor1_core c.ps c.k c.v c.n
theorem corF_list : ∀ F : CF, corF F = CF.ofL (F.toL.map cores)
  | .nil => by rw [corF]; rfl
  | .cons k v n ps r => by rw [corF, corF_list r]; rfl
/-- How deep a condition is. -/
def dpt (c : CT) : Nat := c.ps.dep + 1
theorem dep_mem : ∀ {F : CF}, ∀ p ∈ F.toL, dpt p ≤ F.dep
  | .nil, p, h => by cases h
  | .cons k v n ps r, p, h => by
    rcases List.mem_cons.1 h with rfl | h
    · exact Nat.le_max_left _ _
    · exact Nat.le_trans (dep_mem p h) (Nat.le_max_right _ _)
theorem coreF_dep : ∀ (ps : CF) (k v n : Int), dpt (coreF k v n ps) ≤ ps.dep + 1
  | .nil, k, v, n => Nat.le_refl _
  | .cons k' v' n' ps' r', k, v, n => by
    by_cases h : (k = 2 ∨ k = 3) ∧ r' = .nil
    · rw [coreF, if_pos h]
      have := coreF_dep ps' k' v' n'
      have h2 : ps'.dep + 1 ≤ (CF.cons k' v' n' ps' r').dep := Nat.le_max_left _ _
      omega
    · rw [coreF, if_neg h]
      exact Nat.le_refl _
theorem core_dep (c : CT) : dpt (core c) ≤ dpt c := coreF_dep c.ps c.k c.v c.n
/-- The tokens from an offset on are these. -/
def At (T : List Tok) (a : Nat) (ts : List (Int × List UInt8)) : Prop := ∀ i x, ts[i]? = some x → (nx T (a + i)).kind = x.1 ∧ (nx T (a + i)).text = x.2
section
variable {T : List Tok} {a : Nat}
theorem At.app {x y : List (Int × List UInt8)} (h : At T a (x ++ y)) : At T a x ∧ At T (a + x.length) y := by
  refine ⟨fun i u hu => h i u ?_, fun i u hu => ?_⟩
  · have hi : i < x.length := by
      rcases Nat.lt_or_ge i x.length with h1 | h1
      · exact h1
      · rw [List.getElem?_eq_none h1] at hu; cases hu
    rw [List.getElem?_append_left hi]; exact hu
  · have := h (x.length + i) u (by rw [List.getElem?_append_right (by omega), Nat.add_sub_cancel_left]; exact hu)
    rwa [← Nat.add_assoc] at this
theorem At.head {x : Int × List UInt8} {ts : List (Int × List UInt8)} (h : At T a (x :: ts)) : ((nx T a).kind = x.1 ∧ (nx T a).text = x.2) ∧ At T (a + 1) ts :=
  ⟨h 0 x rfl, fun i u hu => by have := h (i + 1) u (by simpa using hu); rwa [show a + 1 + i = a + (i + 1) by omega]⟩
theorem isB_tok {k : Int} {t : List UInt8} (h : (nx T a).kind = k ∧ (nx T a).text = t) (s : List UInt8) : isB T a s = (t == s && (k == 4 || (k == 1 && kwB s))) := by
  unfold isB
  rw [h.1, h.2]
theorem isB_no {s s' : List UInt8} (h : isB T a s = true) (hne : s ≠ s') : isB T a s' = false := by
  unfold isB at *
  rw [Bool.and_eq_true] at h
  have h1 : (nx T a).text = s := by simpa using h.1
  rw [h1]
  have : (s == s') = false := by simpa using hne
  rw [this]; rfl
end
theorem pmore_succ2 (T : List Tok) (kw : List UInt8) (p : Nat → Res CT) (g a : Nat) : pmore T kw p (g + 1) a = if isB T a kw then (p (a + 1)).bind fun c n => (pmore T kw p g n).map (CF.one c) else .ok .nil a := rfl
/-- The further ones of a joint. -/
theorem pmore_at {T : List Tok} {kw : List UInt8} {q : Nat → Res CT} {N : Nat → Prop} (hkw : kwB kw = true) (hN : ∀ n, isB T n kw = true → N n) :
    ∀ (l : List (CT × List (Int × List UInt8))) (a g : Nat), At T a (l.flatMap fun x => (1, kw) :: x.2) → (∀ x ∈ l, ∀ b, a ≤ b → At T b x.2 → N (b + x.2.length) → q b = .ok x.1 (b + x.2.length)) →
      N (a + (l.flatMap fun x => (1, kw) :: x.2).length) → isB T (a + (l.flatMap fun x => (1, kw) :: x.2).length) kw = false → l.length ≤ g →
      pmore T kw q g a = .ok (CF.ofL (l.map (·.1))) (a + (l.flatMap fun x => (1, kw) :: x.2).length)
  | [], a, g, _, _, _, hend, _ => by
    cases g with
    | zero => rfl
    | succ g => rw [pmore_succ2, if_neg (by simpa using hend)]; rfl
  | x :: r, a, g, hat, hq, hNe, hend, hg => by
    obtain ⟨g, rfl⟩ : ∃ q, g = q + 1 := ⟨g - 1, by simp at hg; omega⟩
    rw [List.flatMap_cons] at hat hNe hend ⊢
    obtain ⟨h1, h2⟩ := At.head hat
    obtain ⟨h3, h4⟩ := At.app h2
    have hb : isB T a kw = true := by rw [isB_tok h1]; simp [hkw]
    have hlen : a + ((1, kw) :: x.2 ++ r.flatMap fun x => (1, kw) :: x.2).length = a + 1 + x.2.length + (r.flatMap fun x => (1, kw) :: x.2).length := by simp; omega
    rw [hlen] at hNe hend
    have hNx : N (a + 1 + x.2.length) := by
      cases r with
      | nil => simpa using hNe
      | cons y r =>
        rw [List.flatMap_cons] at h4
        obtain ⟨h5, _⟩ := At.head h4
        exact hN _ (by rw [isB_tok h5]; simp [hkw])
    rw [pmore_succ2, if_pos hb, hq x (by simp) (a + 1) (by omega) h3 hNx]
    show ((pmore T kw q g (a + 1 + x.2.length)).map (CF.one x.1)) = _
    rw [pmore_at hkw hN r (a + 1 + x.2.length) g h4 (fun y hy b hb => hq y (by simp [hy]) b (by omega)) hNe hend (by simp at hg; omega), hlen]
    rfl
theorem At.len {T : List Tok} {a : Nat} {ts : List (Int × List UInt8)} (h : At T a ts) (hk : ∀ x ∈ ts, x.1 ≠ 5) : ts = [] ∨ a + ts.length ≤ T.length := by
  rcases Nat.eq_zero_or_pos ts.length with h0 | h0
  · exact .inl (List.eq_nil_of_length_eq_zero h0)
  · right
    have hl : ts.length - 1 < ts.length := by omega
    have h1 := h (ts.length - 1) ts[ts.length - 1] (List.getElem?_eq_getElem hl)
    have h2 := nx_kind T (a := a + (ts.length - 1)) (by rw [h1.1]; exact hk _ (List.getElem_mem hl))
    omega
theorem joinT_flat (sep : Int × List UInt8) : ∀ (x : List (Int × List UInt8)) (r : List (List (Int × List UInt8))), joinT sep (x :: r) = x ++ r.flatMap (fun y => sep :: y)
  | x, [] => by simp [joinT]
  | x, y :: r => by rw [joinT, joinT_flat sep y r]; simp
theorem flat_len {kw : List UInt8} : ∀ r : List (CT × List (Int × List UInt8)), r.length ≤ (r.flatMap fun x => ((1 : Int), kw) :: x.2).length
  | [] => Nat.zero_le _
  | x :: r => by have := flat_len (kw := kw) r; simp at this ⊢; omega
/-- A joint. -/
theorem pjoined_at {T : List Tok} {kw : List UInt8} {kind : Int} {q : Nat → Res CT} {N : Nat → Prop} (hkw : kwB kw = true) (hN : ∀ n, isB T n kw = true → N n) (x : CT × List (Int × List UInt8)) (r : List (CT × List (Int × List UInt8))) (a : Nat)
    (hat : At T a (x.2 ++ r.flatMap fun y => ((1 : Int), kw) :: y.2)) (hk : ∀ y ∈ r, ∀ u ∈ y.2, u.1 ≠ 5) (hq : ∀ y ∈ x :: r, ∀ b, a ≤ b → At T b y.2 → N (b + y.2.length) → q b = .ok y.1 (b + y.2.length))
    (hNe : N (a + (x.2 ++ r.flatMap fun y => ((1 : Int), kw) :: y.2).length)) (hend : isB T (a + (x.2 ++ r.flatMap fun y => ((1 : Int), kw) :: y.2).length) kw = false) :
    pjoined T kw kind q a = .ok (join_ kind x.1 (CF.ofL (r.map (·.1)))) (a + (x.2 ++ r.flatMap fun y => ((1 : Int), kw) :: y.2).length) := by
  obtain ⟨h1, h2⟩ := At.app hat
  rw [List.length_append, ← Nat.add_assoc] at hNe hend ⊢
  have hNx : N (a + x.2.length) := by
    cases r with
    | nil => simpa using hNe
    | cons y r =>
      rw [List.flatMap_cons] at h2
      obtain ⟨h5, _⟩ := At.head h2
      exact hN _ (by rw [isB_tok h5]; simp [hkw])
  have hg : r.length ≤ T.length - (a + x.2.length) := by
    have h3 := flat_len (kw := kw) r
    rcases At.len h2 (fun u hu => by
      obtain ⟨y, hy, hu⟩ := List.mem_flatMap.1 hu
      rcases List.mem_cons.1 hu with rfl | hu
      · show (1 : Int) ≠ 5; decide
      · exact hk y hy u hu) with h4 | h4
    · rw [h4] at h3; simp at h3; rw [h3]; simp
    · omega
  unfold pjoined
  rw [hq x (by simp) a (Nat.le_refl _) h1 hNx]
  show (pmore T kw q (T.length - (a + x.2.length)) (a + x.2.length)).map (join_ kind x.1) = _
  rw [pmore_at hkw hN r _ _ h2 (fun y hy b hb => hq y (by simp [hy]) b (by omega)) hNe hend hg]
  rfl
theorem var_at : ∀ v : Fin 4, lkup (varW ((v : Nat) + 1 : Int)) wVars = some ((v : Nat) + 1 : Int) := by decide +kernel
/-- A comparison. -/
theorem pcomp_at {T : List Tok} {a : Nat} {v n : Int} (h : At T a [(1, varW v), (4, [62, 61]), (2, dec n)]) (hv : 1 ≤ v ∧ v ≤ 4) (hn : 0 ≤ n ∧ n ≤ 64) : pcomp T a = .ok (least v n) (a + 3) := by
  obtain ⟨h1, h⟩ := At.head h
  obtain ⟨h2, h⟩ := At.head h
  obtain ⟨h3, _⟩ := At.head h
  have hl : lkup (varW v) wVars = some v := by
    have := var_at ⟨(v - 1).toNat, by omega⟩
    have e : (((v - 1).toNat : Nat) : Int) + 1 = v := by omega
    simp only [e] at this
    exact this
  have p1 : pchoose T wVars a = .ok v (a + 1) := by
    unfold pchoose
    rw [h1.2]
    simp only [hl]
    rw [isB_tok h1, if_pos (by simp [(varW_ok v).2])]
  have p2 : pchoose T wOps (a + 1) = .ok 1 (a + 1 + 1) := by
    unfold pchoose
    rw [h2.2]
    rw [show lkup [62, 61] wOps = some 1 by decide +kernel]
    simp only
    rw [isB_tok h2, if_pos (by simp)]
  have p3 : pint T (a + 1 + 1) = .ok n (a + 1 + 1 + 1) := by
    unfold pint
    rw [if_pos h3.1, h3.2, (dec_ok ⟨by omega, by omega⟩).2]
  unfold pcomp
  rw [p1]
  show ((pchoose T wOps (a + 1)).bind _) = _
  rw [p2]
  show ((pint T (a + 1 + 1)).bind _) = _
  rw [p3]
  rfl
theorem join_kind {sep : Int × List UInt8} (hs : sep.1 ≠ 5) : ∀ l : List (List (Int × List UInt8)), (∀ x ∈ l, ∀ u ∈ x, u.1 ≠ 5) → ∀ u ∈ joinT sep l, u.1 ≠ 5
  | [], _, u, hu => by cases hu
  | x :: r, h, u, hu => by
    have hu' : u ∈ x ++ r.flatMap (fun y => sep :: y) := by rw [← joinT_flat]; exact hu
    rcases List.mem_append.1 hu' with h1 | h1
    · exact h x (by simp) u h1
    · obtain ⟨y, hy, h2⟩ := List.mem_flatMap.1 h1
      rcases List.mem_cons.1 h2 with rfl | h2
      · exact hs
      · exact h y (by simp [hy]) u h2
theorem ptok_kind : ∀ (f : Nat) (c : CT), (∀ u ∈ ptok f c, u.1 ≠ 5) ∧ ∀ u ∈ potok f c, u.1 ≠ 5
  | 0, c => ⟨(fun u hu => by cases hu), (fun u hu => by cases hu)⟩
  | f + 1, c => by
    have ih := ptok_kind f
    refine ⟨fun u hu => ?_, fun u hu => ?_⟩
    · unfold ptok at hu
      simp only at hu
      by_cases h1 : (core c).k = 1
      · rw [if_pos h1] at hu
        simp only [List.mem_cons, List.not_mem_nil, or_false] at hu
        rcases hu with rfl | rfl | rfl
        · show (1 : Int) ≠ 5; decide
        · show (4 : Int) ≠ 5; decide
        · show (2 : Int) ≠ 5; decide
      · rw [if_neg h1] at hu
        by_cases h4 : (core c).k = 4
        · rw [if_pos h4] at hu
          rcases List.mem_cons.1 hu with rfl | hu
          · show (1 : Int) ≠ 5; decide
          · cases hps : (core c).ps.toL with
            | nil => rw [hps] at hu; cases hu
            | cons p r => rw [hps] at hu; exact (ih p).2 u hu
        · rw [if_neg h4] at hu
          by_cases h2 : (core c).k = 2
          · rw [if_pos h2] at hu
            refine join_kind (by show (1 : Int) ≠ 5; decide) _ (fun x hx v hv => ?_) u hu
            obtain ⟨p, _, rfl⟩ := List.mem_map.1 hx
            exact (ih p).2 v hv
          · rw [if_neg h2] at hu
            refine join_kind (by show (1 : Int) ≠ 5; decide) _ (fun x hx v hv => ?_) u hu
            obtain ⟨p, _, rfl⟩ := List.mem_map.1 hx
            split at hv
            · exact (ih p).2 v hv
            · exact (ih p).1 v hv
    · unfold potok at hu
      simp only at hu
      split at hu
      · rcases List.mem_cons.1 hu with rfl | hu
        · show (4 : Int) ≠ 5; decide
        · rcases List.mem_append.1 hu with hu | hu
          · exact (ih (core c)).1 u hu
          · obtain rfl := List.mem_singleton.1 hu
            show (4 : Int) ≠ 5; decide
      · exact (ih (core c)).1 u hu
theorem cores_core (c : CT) : cores (core c) = cores c := by rw [cores_def, cores_def, core_idem]
theorem varW_ne (v : Int) : (varW v == kNot) = false ∧ (varW v == kLP) = false := by
  unfold varW
  split
  · decide
  · split
    · decide
    · split <;> decide
def PU (f : Nat) : Prop := ∀ c, okC c = true → 2 * dpt c ≤ f → ∀ (T : List Tok) (a F : Nat), T.length ≤ a + F → At T a (potok f c) → punit T F a = .ok (cores c) (a + (potok f c).length)
def PJ (f : Nat) : Prop := ∀ c, okC c = true → 2 * dpt c ≤ f + 1 → (core c).k ≠ 3 → ∀ (T : List Tok) (a F : Nat), T.length ≤ a + F → At T a (ptok f c) → isB T (a + (ptok f c).length) kAnd = false → pconj T F a = .ok (cores c) (a + (ptok f c).length)
def PC (f : Nat) : Prop := ∀ c, okC c = true → 2 * dpt c ≤ f + 1 → ∀ (T : List Tok) (a F : Nat), T.length ≤ a + F → At T a (ptok f c) → isB T (a + (ptok f c).length) kAnd = false → isB T (a + (ptok f c).length) kOr = false → pcond T F a = .ok (cores c) (a + (ptok f c).length)
theorem punit_succ (T : List Tok) (f a : Nat) : punit T (f + 1) a = if isB T a kNot then (punit T f (a + 1)).map cnot
    else if isB T a kLP then (pcond T f (a + 1)).bind fun c n => (pwant T [kRP] n).map fun _ => c else pcomp T a := rfl
theorem simple_unit {g : Nat} (hU : PU g) {c : CT} (h : okC c = true) (hk : (core c).k = 1 ∨ (core c).k = 4) (hd : 2 * dpt c ≤ g + 2) {T : List Tok} {a F : Nat} (hF : T.length ≤ a + F) (hat : At T a (ptok (g + 1) c)) :
    punit T F a = .ok (cores c) (a + (ptok (g + 1) c).length) := by
  have hc := (core_ok h).1
  have hcd := core_dep c
  rw [cores_def]
  unfold ptok at hat ⊢
  simp only at hat ⊢
  rcases okC_cases hc with h1 | h1 | h1
  · rw [if_pos h1.1] at hat ⊢
    obtain ⟨t1, _⟩ := At.head hat
    have ha : a < T.length := nx_kind T (by rw [t1.1]; show (1 : Int) ≠ 5; decide)
    obtain ⟨F, rfl⟩ : ∃ q, F = q + 1 := ⟨F - 1, by omega⟩
    rw [punit_succ, if_neg (by rw [isB_tok t1]; simp [(varW_ne _).1]), if_neg (by rw [isB_tok t1]; simp [(varW_ne _).2]), pcomp_at hat ⟨h1.2.1, h1.2.2.1⟩ ⟨h1.2.2.2.1, h1.2.2.2.2.1⟩]
    rw [h1.1, h1.2.2.2.2.2]
    rfl
  · have n1 : ¬ (core c).k = 1 := by omega
    rw [if_neg n1, if_pos h1.1] at hat ⊢
    obtain ⟨t1, t2⟩ := At.head hat
    have ha : a < T.length := nx_kind T (by rw [t1.1]; show (1 : Int) ≠ 5; decide)
    obtain ⟨F, rfl⟩ : ∃ q, F = q + 1 := ⟨F - 1, by omega⟩
    have hl := num_toL (core c).ps
    rw [h1.2.2.2.1] at hl
    obtain ⟨p, hp⟩ := List.length_eq_one_iff.1 hl
    have hpm : p ∈ (core c).ps.toL := by rw [hp]; simp
    have hpd := dep_mem p hpm
    have hdd : dpt (core c) = (core c).ps.dep + 1 := rfl
    rw [hp] at t2 ⊢
    simp only at t2 ⊢
    rw [punit_succ, if_pos (by rw [isB_tok t1]; decide +kernel), hU p (okB_mem h1.2.2.2.2 p hpm) (by omega) T (a + 1) F (by omega) t2]
    rw [corF_list, hp, h1.1, h1.2.1, h1.2.2.1]
    show Res.ok (cnot (cores p)) _ = _
    rw [List.length_cons]
    show Res.ok _ (a + 1 + (potok g p).length) = Res.ok _ (a + ((potok g p).length + 1))
    rw [show a + 1 + (potok g p).length = a + ((potok g p).length + 1) by omega]
    rfl
  · omega
theorem parse_unit {g : Nat} (hC : PC g) (hU : ∀ q, q < g → PU q) : PU (g + 1) := by
  intro c h hd T a F hF hat
  have hc := (core_ok h).1
  have hcd := core_dep c
  unfold potok at hat ⊢
  simp only at hat ⊢
  by_cases h2 : (core c).k = 2 ∨ (core c).k = 3
  · rw [if_pos h2] at hat ⊢
    obtain ⟨t1, t2⟩ := At.head hat
    obtain ⟨t3, t4⟩ := At.app t2
    obtain ⟨t5, _⟩ := At.head t4
    have ha : a < T.length := nx_kind T (by rw [t1.1]; show (4 : Int) ≠ 5; decide)
    obtain ⟨F, rfl⟩ : ∃ q, F = q + 1 := ⟨F - 1, by omega⟩
    have e1 : isB T (a + 1 + (ptok g (core c)).length) kAnd = false := by rw [isB_tok t5]; decide
    have e2 : isB T (a + 1 + (ptok g (core c)).length) kOr = false := by rw [isB_tok t5]; decide
    rw [punit_succ, if_neg (by rw [isB_tok t1]; decide), if_pos (by rw [isB_tok t1]; decide), hC (core c) hc (by omega) T (a + 1) F (by omega) t3 e1 e2]
    show ((pwant T [kRP] (a + 1 + (ptok g (core c)).length)).map fun _ => cores (core c)) = _
    rw [pwant, if_pos (by rw [isB_tok t5]; decide), cores_core]
    show Res.ok (cores c) (a + 1 + (ptok g (core c)).length + 1) = _
    congr 1
    simp
    omega
  · rw [if_neg h2] at hat ⊢
    have hd1 : 1 ≤ dpt c := Nat.le_add_left 1 _
    obtain ⟨g, rfl⟩ : ∃ q, g = q + 1 := ⟨g - 1, by omega⟩
    have hk : (core (core c)).k = 1 ∨ (core (core c)).k = 4 := by
      rw [core_idem]
      rcases okC_cases hc with h3 | h3 | h3
      · exact .inl h3.1
      · exact .inr h3.1
      · exact absurd h3.1 h2
    rw [← cores_core]
    exact simple_unit (hU g (by omega)) hc hk (by omega) hF hat
theorem parse_conj {g : Nat} (hU : PU g) : PJ (g + 1) := by
  intro c h hd h3 T a F hF hat hend
  have hc := (core_ok h).1
  have hcd := core_dep c
  by_cases hk : (core c).k = 1 ∨ (core c).k = 4
  · have := pjoined_at (T := T) (kw := kAnd) (kind := 2) (q := punit T F) (N := fun _ => True) (by decide +kernel) (fun _ _ => trivial) (cores c, ptok (g + 1) c) [] a (by simpa using hat) (by simp)
      (fun y hy b hb hy2 _ => by
        obtain rfl : y = (cores c, ptok (g + 1) c) := by simpa using hy
        exact simple_unit hU h hk (by omega) (by omega) hy2) trivial (by simpa using hend)
    show pjoined T kAnd 2 (punit T F) a = _
    simpa [join_, CF.ofL] using this
  · rcases okC_cases hc with h1 | h1 | h1
    · exact absurd (.inl h1.1) hk
    · exact absurd (.inr h1.1) hk
    · have k2 : (core c).k = 2 := by omega
      have h2p := (core_ok h).2 (.inl k2)
      have hl := num_toL (core c).ps
      unfold ptok at hat hend ⊢
      have n1 : ¬ (core c).k = 1 := by omega
      have n4 : ¬ (core c).k = 4 := by omega
      simp only [if_neg n1, if_neg n4, if_pos k2] at hat hend ⊢
      obtain ⟨p, q, r, hp⟩ : ∃ p q r, (core c).ps.toL = p :: q :: r := by
        cases h5 : (core c).ps.toL with
        | nil => rw [h5] at hl; simp at hl; omega
        | cons p r => cases r with
          | nil => rw [h5] at hl; simp at hl; omega
          | cons q r => exact ⟨p, q, r, rfl⟩
      have hdd : dpt (core c) = (core c).ps.dep + 1 := rfl
      have hq : ∀ x ∈ (core c).ps.toL, ∀ b, a ≤ b → At T b (potok g x) → punit T F b = .ok (cores x) (b + (potok g x).length) := fun x hx b hb hx2 => by
        have := dep_mem x hx
        exact hU x (okB_mem h1.2.2.2.2.2 x hx) (by omega) T b F (by omega) hx2
      rw [hp] at hat hend hq ⊢
      rw [List.map_cons, joinT_flat] at hat hend ⊢
      have hfl : ((q :: r).map (potok g)).flatMap (fun y => ((1 : Int), kAnd) :: y) = ((q :: r).map fun x => (cores x, potok g x)).flatMap (fun y => ((1 : Int), kAnd) :: y.2) := by rw [List.flatMap_map, List.flatMap_map]
      rw [hfl] at hat hend ⊢
      have := pjoined_at (T := T) (kw := kAnd) (kind := 2) (q := punit T F) (N := fun _ => True) (by decide +kernel) (fun _ _ => trivial) (cores p, potok g p) ((q :: r).map fun x => (cores x, potok g x)) a hat
        (fun y hy u hu => by obtain ⟨x, _, rfl⟩ := List.mem_map.1 hy; exact (ptok_kind g x).2 u hu)
        (fun y hy b hb hy2 _ => by
          rcases List.mem_cons.1 hy with rfl | hy
          · exact hq p (by simp) b hb hy2
          · obtain ⟨x, hx, rfl⟩ := List.mem_map.1 hy
            exact hq x (List.mem_cons_of_mem _ hx) b hb hy2) trivial hend
      have hco : cores c = ⟨2, 0, 0, CF.ofL ((p :: q :: r).map cores)⟩ := by rw [cores_def, corF_list, hp, k2, h1.2.1, h1.2.2.1]
      show pjoined T kAnd 2 (punit T F) a = _
      rw [this, hco]
      simp [List.map_map, Function.comp_def, CF.ofL, join_, CF.one]
theorem parse_cond {g : Nat} (hU : PU g) (hJ : PJ g) (hJ1 : PJ (g + 1)) : PC (g + 1) := by
  intro c h hd T a F hF hat hend hend2
  have hc := (core_ok h).1
  have hcd := core_dep c
  have hor : ∀ n, isB T n kOr = true → isB T n kAnd = false := fun n hn => isB_no hn (by decide)
  by_cases h3 : (core c).k = 3
  · rcases okC_cases hc with h1 | h1 | h1
    · omega
    · omega
    · have h2p := (core_ok h).2 (.inr h3)
      have hl := num_toL (core c).ps
      unfold ptok at hat hend hend2 ⊢
      have n1 : ¬ (core c).k = 1 := by omega
      have n4 : ¬ (core c).k = 4 := by omega
      have n2 : ¬ (core c).k = 2 := by omega
      simp only [if_neg n1, if_neg n4, if_neg n2] at hat hend hend2 ⊢
      obtain ⟨p, q, r, hp⟩ : ∃ p q r, (core c).ps.toL = p :: q :: r := by
        cases h5 : (core c).ps.toL with
        | nil => rw [h5] at hl; simp at hl; omega
        | cons p r => cases r with
          | nil => rw [h5] at hl; simp at hl; omega
          | cons q r => exact ⟨p, q, r, rfl⟩
      have hdd : dpt (core c) = (core c).ps.dep + 1 := rfl
      obtain ⟨tk, htk⟩ : ∃ tk : CT → List (Int × List UInt8), tk = fun p => if (core p).k = 3 then potok g p else ptok g p := ⟨_, rfl⟩
      rw [← htk] at hat hend hend2 ⊢
      have hq : ∀ x ∈ (core c).ps.toL, ∀ b, a ≤ b → At T b (tk x) → isB T (b + (tk x).length) kAnd = false → pconj T F b = .ok (cores x) (b + (tk x).length) := fun x hx b hb hx2 hx3 => by
        have hxd := dep_mem x hx
        have hxo := okB_mem h1.2.2.2.2.2 x hx
        subst htk
        by_cases hx4 : (core x).k = 3
        · simp only [if_pos hx4] at hx2 hx3 ⊢
          have := pjoined_at (T := T) (kw := kAnd) (kind := 2) (q := punit T F) (N := fun _ => True) (by decide +kernel) (fun _ _ => trivial) (cores x, potok g x) [] b (by simpa using hx2) (by simp)
            (fun y hy b' hb' hy2 _ => by
              obtain rfl : y = (cores x, potok g x) := by simpa using hy
              exact hU x hxo (by omega) T b' F (by omega) hy2) trivial (by simpa using hx3)
          show pjoined T kAnd 2 (punit T F) b = _
          simpa [join_, CF.ofL] using this
        · simp only [if_neg hx4] at hx2 hx3 ⊢
          exact hJ x hxo (by omega) hx4 T b F (by omega) hx2 hx3
      have hkd : ∀ x, ∀ u ∈ tk x, u.1 ≠ 5 := fun x u hu => by
        subst htk
        simp only at hu
        split at hu
        · exact (ptok_kind g x).2 u hu
        · exact (ptok_kind g x).1 u hu
      rw [hp] at hat hend hend2 hq ⊢
      rw [List.map_cons, joinT_flat] at hat hend hend2 ⊢
      have hfl : ((q :: r).map tk).flatMap (fun y => ((1 : Int), kOr) :: y) = ((q :: r).map fun x => (cores x, tk x)).flatMap (fun y => ((1 : Int), kOr) :: y.2) := by rw [List.flatMap_map, List.flatMap_map]
      rw [hfl] at hat hend hend2 ⊢
      have := pjoined_at (T := T) (kw := kOr) (kind := 3) (q := pconj T F) (N := fun n => isB T n kAnd = false) (by decide +kernel) hor (cores p, tk p) ((q :: r).map fun x => (cores x, tk x)) a hat
        (fun y hy u hu => by obtain ⟨x, _, rfl⟩ := List.mem_map.1 hy; exact hkd x u hu)
        (fun y hy b hb hy2 hy3 => by
          rcases List.mem_cons.1 hy with rfl | hy
          · exact hq p (by simp) b hb hy2 hy3
          · obtain ⟨x, hx, rfl⟩ := List.mem_map.1 hy
            exact hq x (List.mem_cons_of_mem _ hx) b hb hy2 hy3) hend hend2
      have hco : cores c = ⟨3, 0, 0, CF.ofL ((p :: q :: r).map cores)⟩ := by rw [cores_def, corF_list, hp, h3, h1.2.1, h1.2.2.1]
      show pjoined T kOr 3 (pconj T F) a = _
      rw [this, hco]
      simp [List.map_map, Function.comp_def, CF.ofL, join_, CF.one]
  · have := pjoined_at (T := T) (kw := kOr) (kind := 3) (q := pconj T F) (N := fun n => isB T n kAnd = false) (by decide +kernel) hor (cores c, ptok (g + 1) c) [] a (by simpa using hat) (by simp)
      (fun y hy b hb hy2 hy3 => by
        obtain rfl : y = (cores c, ptok (g + 1) c) := by simpa using hy
        exact hJ1 c h hd h3 T b F (by omega) hy2 hy3) (by simpa using hend) (by simpa using hend2)
    show pjoined T kOr 3 (pconj T F) a = _
    simpa [join_, CF.ofL] using this
theorem parse_all : ∀ f, PU f ∧ PJ f ∧ PC f := by
  intro f
  induction f using Nat.strongRecOn with
  | _ f ih =>
    cases f with
    | zero =>
      have hd : ∀ c, 1 ≤ dpt c := fun c => Nat.le_add_left 1 _
      exact ⟨fun c _ h => by have := hd c; omega, fun c _ h => by have := hd c; omega, fun c _ h => by have := hd c; omega⟩
    | succ g =>
      obtain ⟨u, j, k⟩ := ih g (Nat.lt_succ_self _)
      have j1 := parse_conj u
      exact ⟨parse_unit k (fun q hq => (ih q (by omega)).1), j1, parse_cond u j j1⟩
end Go.Proofs.YticpjdjdimpglaaGreatDoor
/- The parser of chapter 13 in plain Lean: it stays within the tokens ahead of the ends (printed by wip/bin/genylawsn.py). -/
namespace Go.Proofs.YticpjdjdimpglaaGreatDoor
set_option linter.unusedVariables false
set_option linter.unusedSimpArgs false
section
variable (T : List Tok) {L : Nat} (hL : ∀ i, L ≤ i → (nx T i).kind = 5)
include hL
end
end Go.Proofs.YticpjdjdimpglaaGreatDoor
/- Plain laws: the parse of tokens that stand within a longer row. No program. -/
namespace Go.Proofs.YticpjdjdimpglaaGreatDoor
set_option linter.unusedVariables false
set_option linter.unusedSimpArgs false
/-- T' holds at d the first N tokens of T (kinds and texts); from N on T has ends alone. -/
structure Sim (T T' : List Tok) (d N : Nat) : Prop where
  len : T.length + d ≤ T'.length
  same : ∀ i, i < N → (nx T' (i + d)).kind = (nx T i).kind ∧ (nx T' (i + d)).text = (nx T i).text
  ends : ∀ i, N ≤ i → (nx T i).kind = 5
  solid : ∀ i, i < N → (nx T i).kind ≠ 5
section
variable {T T' : List Tok} {d N : Nat}
theorem isB_same {i j : Nat} (h1 : (nx T' j).kind = (nx T i).kind) (h2 : (nx T' j).text = (nx T i).text) (s : List UInt8) : isB T' j s = isB T i s := by
  unfold isB
  rw [h1, h2]
theorem Sim.isB (h : Sim T T' d N) {i : Nat} (hi : i < N) (s : List UInt8) : isB T' (i + d) s = isB T i s := isB_same (h.same i hi).1 (h.same i hi).2 s
variable {M : Nat}
end
end Go.Proofs.YticpjdjdimpglaaGreatDoor
/- The three functions of chapter 13 in plain Lean; what they say of parentheses, and of texts behind one another. No program. -/
namespace Go.Proofs.YticpjdjdimpglaaGreatDoor
set_option linter.unusedVariables false
set_option linter.unusedSimpArgs false
/-- A text that consists of one thing: the thing, the offset and the code of the first error. -/
def topOf {α : Type} (z : α) (p : List Tok → Res α) (l : List UInt8) : α × Int × Int :=
  match (lex l).2 with
  | q :: _ => (z, q.at_, q.code)
  | [] => match pend (lex l).1 (p (lex l).1) with
    | .ok x _ => (x, 0, 0)
    | .bad n => (z, (nx (lex l).1 n).at_, 130)
def topRules : List UInt8 → RT × Int × Int := topOf RT.zero fun T => prules T 0
theorem topOf_mk {α : Type} {z : α} {p : List Tok → Res α} {l : List UInt8} {x : α} {n : Nat} (h1 : (lex l).2 = []) (h2 : p (lex l).1 = .ok x n) (h3 : (nx (lex l).1 n).kind = 5) : topOf z p l = (x, 0, 0) := by
  unfold topOf
  rw [h1]
  simp only
  rw [h2]
  unfold pend
  simp only [Res.bind]
  rw [if_pos h3]
theorem nx_look {T : List Tok} {i : Nat} {x : Int × List UInt8} (h : (T.map look)[i]? = some x) : (nx T i).kind = x.1 ∧ (nx T i).text = x.2 := by
  rw [List.getElem?_map, Option.map_eq_some_iff] at h
  obtain ⟨t, h1, rfl⟩ := h
  unfold nx
  rw [h1]
  exact ⟨rfl, rfl⟩
section
variable {T : List Tok} {kw : List UInt8} {kind : Int} {p : Nat → Res CT} {a n m : Nat} {c c' : CT}
end
def inner (l : List UInt8) : List UInt8 := 40 :: (l ++ [10, 41])
theorem clean_empty : Clean [] := by
  intro i hi
  rw [items_nil] at hi
  cases hi
end Go.Proofs.YticpjdjdimpglaaGreatDoor
/- Plain laws of documents: one element; texts behind one another; white space; problems. No program. -/
namespace Go.Proofs.YticpjdjdimpglaaGreatDoor
set_option linter.unusedVariables false
set_option linter.unusedSimpArgs false
section
variable {T T' : List Tok} (h : T.map look = T'.map look)
include h
end
/-- Sorted by offsets. -/
def Sorted (l : List Prob) : Prop := l.Pairwise fun x y => x.at_ ≤ y.at_
/-- How many of the first list's are found in the second, one behind the other. -/
def found [DecidableEq Prob] : List Prob → List Prob → Nat
  | [], _ => 0
  | _ :: _, [] => 0
  | x :: r, y :: s => if x = y then found r s + 1 else found (x :: r) s
end Go.Proofs.YticpjdjdimpglaaGreatDoor
/- Plain law: FormatCondParses. A printed condition is parsed to its core, and that is printed the same. No program. -/
namespace Go.Proofs.YticpjdjdimpglaaGreatDoor
set_option linter.unusedVariables false
set_option linter.unusedSimpArgs false
theorem at_of {T : List Tok} {X ts Y : List (Int × List UInt8)} (h : T.map look = X ++ ts ++ Y) : At T X.length ts := by
  intro i x hx
  have hi : i < ts.length := by
    rcases Nat.lt_or_ge i ts.length with h1 | h1
    · exact h1
    · rw [List.getElem?_eq_none h1] at hx; cases hx
  exact nx_look (by rw [h, List.append_assoc, List.getElem?_append_right (by omega), Nat.add_sub_cancel_left, List.getElem?_append_left hi]; exact hx)
theorem core_cor1 : ∀ (ps : CF) (k v n : Int), core (cor1 ps k v n) = cor1 ps k v n
  | .nil, k, v, n => by rw [cor1]; rfl
  | .cons k' v' n' ps' r', k, v, n => by
    by_cases h : (k = 2 ∨ k = 3) ∧ r' = .nil
    · rw [cor1, if_pos h]
      exact core_cor1 ps' k' v' n'
    · rw [cor1, if_neg h]
      show coreF k v n (.one (cor1 ps' k' v' n') (corF r')) = _
      unfold CF.one
      rw [coreF, if_neg]
      rintro ⟨h1, h2⟩
      refine h ⟨h1, ?_⟩
      cases r' with
      | nil => rfl
      | cons => rw [corF] at h2; cases h2
theorem core_cores (c : CT) : core (cores c) = cores c := core_cor1 c.ps c.k c.v c.n
theorem toL_ofL : ∀ l : List CT, (CF.ofL l).toL = l
  | [] => rfl
  | c :: r => by rw [CF.ofL, CF.one, CF.toL, toL_ofL r]
theorem cores_parts (c : CT) : (cores c).ps.toL = (core c).ps.toL.map cores := by rw [cores_def, corF_list, toL_ofL]
theorem text_cores : ∀ (f : Nat) (c : CT), ftext f (cores c) = ftext f c ∧ foper f (cores c) = foper f c
  | 0, c => ⟨rfl, rfl⟩
  | f + 1, c => by
    have ih := text_cores f
    have hk : (cores c).k = (core c).k ∧ (cores c).v = (core c).v ∧ (cores c).n = (core c).n := by rw [cores_def]; exact ⟨rfl, rfl, rfl⟩
    have hop : ∀ l : List CT, (l.map cores).map (foper f) = l.map (foper f) := fun l => by rw [List.map_map]; exact List.map_congr_left fun p _ => (ih p).2
    have hor : ∀ l : List CT, (l.map cores).map (fun p => if (core p).k = 3 then foper f p else ftext f p) = l.map (fun p => if (core p).k = 3 then foper f p else ftext f p) := fun l => by
      rw [List.map_map]
      refine List.map_congr_left fun p _ => ?_
      show (if (core (cores p)).k = 3 then foper f (cores p) else ftext f (cores p)) = _
      rw [core_cores, (ih p).1, (ih p).2, show (cores p).k = (core p).k by rw [cores_def]]
    refine ⟨?_, ?_⟩
    · unfold ftext
      simp only
      rw [core_cores, hk.1, hk.2.1, hk.2.2, cores_parts, hop, hor]
      congr 1
      congr 1
      cases (core c).ps.toL with
      | nil => rfl
      | cons p r => simp only [List.map_cons]; rw [(ih p).2]
    · unfold foper
      simp only
      have e1 : ftext f (core c) = ftext f c := by
        cases f with
        | zero => rfl
        | succ f => unfold ftext; simp only [core_idem]
      rw [core_cores, hk.1, (ih c).1, e1]
mutual
theorem corF_ok : ∀ F : CF, F.okB = true → (corF F).okB = true ∧ (corF F).num = F.num ∧ (corF F).cnt ≤ F.cnt ∧ (corF F).dep ≤ F.dep
  | .nil, _ => by rw [corF]; exact ⟨rfl, rfl, Nat.le_refl _, Nat.le_refl _⟩
  | .cons k v n ps r, h => by
    have e : (CF.one ⟨k, v, n, ps⟩ r).okB = true := h
    rw [okB_cons, Bool.and_eq_true] at e
    obtain ⟨h1, h2, h3⟩ := cor1_ok ps k v n e.1
    obtain ⟨g1, g2, g3, g4⟩ := corF_ok r e.2
    rw [corF]
    refine ⟨by rw [okB_cons, h1, g1]; rfl, ?_, ?_, ?_⟩
    · show (corF r).num + 1 = r.num + 1
      rw [g2]
    · show (cor1 ps k v n).ps.cnt + 1 + (corF r).cnt ≤ ps.cnt + 1 + r.cnt
      omega
    · show max ((cor1 ps k v n).ps.dep + 1) (corF r).dep ≤ max (ps.dep + 1) r.dep
      omega
theorem cor1_ok : ∀ (ps : CF) (k v n : Int), okC ⟨k, v, n, ps⟩ = true → okC (cor1 ps k v n) = true ∧ (cor1 ps k v n).ps.cnt ≤ ps.cnt ∧ (cor1 ps k v n).ps.dep ≤ ps.dep
  | .nil, k, v, n, h => by rw [cor1]; exact ⟨h, Nat.le_refl _, Nat.le_refl _⟩
  | .cons k' v' n' ps' r', k, v, n, h => by
    by_cases hs : (k = 2 ∨ k = 3) ∧ r' = .nil
    · rw [cor1, if_pos hs]
      have hk' : okC ⟨k', v', n', ps'⟩ = true := by
        rcases okC_cases h with h3 | h3 | h3
        · have := h3.1; simp only at this; omega
        · have := h3.1; simp only at this; omega
        · exact okB_mem h3.2.2.2.2.2 ⟨k', v', n', ps'⟩ (by simp [CF.toL])
      obtain ⟨h1, h2, h3⟩ := cor1_ok ps' k' v' n' hk'
      have e1 : (CF.cons k' v' n' ps' r').cnt = ps'.cnt + 1 + r'.cnt := rfl
      have e2 : (CF.cons k' v' n' ps' r').dep = max (ps'.dep + 1) r'.dep := rfl
      exact ⟨h1, by omega, by omega⟩
    · rw [cor1, if_neg hs]
      have hne : ¬ k = 1 := by
        intro e
        rcases okC_cases h with h3 | h3 | h3
        · cases h3.2.2.2.2.2
        · have := h3.1; simp only at this; omega
        · have := h3.1; simp only at this; omega
      have hF : (CF.cons k' v' n' ps' r').okB = true := by
        rcases okC_cases h with h3 | h3 | h3
        · cases h3.2.2.2.2.2
        · exact h3.2.2.2.2
        · exact h3.2.2.2.2.2
      have e : (CF.one ⟨k', v', n', ps'⟩ r').okB = true := hF
      rw [okB_cons, Bool.and_eq_true] at e
      obtain ⟨h1, h2, h3⟩ := cor1_ok ps' k' v' n' e.1
      obtain ⟨g1, g2, g3, g4⟩ := corF_ok r' e.2
      have hok : (CF.one (cor1 ps' k' v' n') (corF r')).okB = true := by rw [okB_cons, h1, g1]; rfl
      have hnum : (CF.one (cor1 ps' k' v' n') (corF r')).num = (CF.cons k' v' n' ps' r').num := by show (corF r').num + 1 = r'.num + 1; rw [g2]
      refine ⟨?_, ?_, ?_⟩
      · rw [okC_def] at h ⊢
        rw [if_neg hne] at h ⊢
        rw [hnum, hok]
        rw [hF] at h
        exact h
      · show (cor1 ps' k' v' n').ps.cnt + 1 + (corF r').cnt ≤ ps'.cnt + 1 + r'.cnt
        omega
      · show max ((cor1 ps' k' v' n').ps.dep + 1) (corF r').dep ≤ max (ps'.dep + 1) r'.dep
        omega
end
theorem tcond_zero {c : CT} (h : tcond c = 0) : (CF.one c .nil).cnt ≤ 256 ∧ (CF.one c .nil).dep ≤ 17 ∧ okC c = true := by
  unfold tcond at h
  split at h
  · omega
  · next h1 =>
    split at h
    · next h2 => exact ⟨by omega, by omega, h2⟩
    · omega
end Go.Proofs.YticpjdjdimpglaaGreatDoor
/- Plain laws: the tokens of printed rules, and their parse. No program. -/
namespace Go.Proofs.YticpjdjdimpglaaGreatDoor
set_option linter.unusedVariables false
set_option linter.unusedSimpArgs false
/-- The words of a criterion. -/
def critT (b : Int) : List (Int × List UInt8) := if b = 1 then [(1, kPoints)] else if b = 2 then [(1, kDiff)] else if b = 3 then [(1, kGoals)] else if b = 4 then [(1, kWins)] else if b = 5 then [(1, kAway), (1, kGoals)] else if b = 6 then [(1, kAway), (1, kWins)]
  else if b = 7 then [(1, kFair)] else if b = 8 then [(1, kHead), (1, kPoints)] else if b = 9 then [(1, kHead), (1, kDiff)] else if b = 10 then [(1, kHead), (1, kGoals)] else if b = 11 then [(1, kHead), (1, kAway)] else [(1, kLots)]
/-- The tokens of printed steps. -/
def ltok : SF → List (Int × List UInt8)
  | .nil => []
  | .cons k b ck cv cn cps th el r =>
    (if k = 1 then critT b ++ [(4, kSemi)]
     else (1, kIf) :: (ptok 100 ⟨ck, cv, cn, cps⟩ ++ (4, kLB) :: (ltok th ++ (4, kRB) :: (if 0 < el.num then (1, kElse) :: (4, kLB) :: (ltok el ++ [(4, kRB)]) else [])))) ++ ltok r
theorem reads_blanks : ∀ (ind : List UInt8), (∀ c ∈ ind, isBlankC c.toNat = true) → ∀ v, Reads ind [] v
  | [], _, v => Reads.nil v
  | c :: r, h, v => by
    have := (reads_blank (h c (by simp)) (r ++ v)).app (reads_blanks r (fun x hx => h x (by simp [hx])) v)
    simpa using this
theorem reads_two {s t : List UInt8} (hs : wordB s = true) (ht : wordB t = true) {v : List UInt8} (hv : Stop v) : Reads (s ++ 32 :: t) [(1, s), (1, t)] v := by
  have r1 := reads_word ht hv
  have r2 := (reads_sp (t ++ v)).app r1
  have r3 := (reads_word hs (v := [32] ++ t ++ v) (by show isInner _ = false; rfl)).app r2
  simpa using r3
theorem reads_crit (b : Int) (v : List UInt8) (hv : Stop v) : Reads (critW b) (critT b) v := by
  unfold critW critT
  by_cases h1 : b = 1
  · rw [if_pos h1, if_pos h1]
    exact reads_word (s := kPoints) (by decide) hv
  rw [if_neg h1, if_neg h1]
  by_cases h2 : b = 2
  · rw [if_pos h2, if_pos h2]
    exact reads_word (s := kDiff) (by decide) hv
  rw [if_neg h2, if_neg h2]
  by_cases h3 : b = 3
  · rw [if_pos h3, if_pos h3]
    exact reads_word (s := kGoals) (by decide) hv
  rw [if_neg h3, if_neg h3]
  by_cases h4 : b = 4
  · rw [if_pos h4, if_pos h4]
    exact reads_word (s := kWins) (by decide) hv
  rw [if_neg h4, if_neg h4]
  by_cases h5 : b = 5
  · rw [if_pos h5, if_pos h5]
    exact reads_two (s := kAway) (t := kGoals) (by decide) (by decide) hv
  rw [if_neg h5, if_neg h5]
  by_cases h6 : b = 6
  · rw [if_pos h6, if_pos h6]
    exact reads_two (s := kAway) (t := kWins) (by decide) (by decide) hv
  rw [if_neg h6, if_neg h6]
  by_cases h7 : b = 7
  · rw [if_pos h7, if_pos h7]
    exact reads_word (s := kFair) (by decide) hv
  rw [if_neg h7, if_neg h7]
  by_cases h8 : b = 8
  · rw [if_pos h8, if_pos h8]
    exact reads_two (s := kHead) (t := kPoints) (by decide) (by decide) hv
  rw [if_neg h8, if_neg h8]
  by_cases h9 : b = 9
  · rw [if_pos h9, if_pos h9]
    exact reads_two (s := kHead) (t := kDiff) (by decide) (by decide) hv
  rw [if_neg h9, if_neg h9]
  by_cases h10 : b = 10
  · rw [if_pos h10, if_pos h10]
    exact reads_two (s := kHead) (t := kGoals) (by decide) (by decide) hv
  rw [if_neg h10, if_neg h10]
  by_cases h11 : b = 11
  · rw [if_pos h11, if_pos h11]
    exact reads_two (s := kHead) (t := kAway) (by decide) (by decide) hv
  rw [if_neg h11, if_neg h11]
  exact reads_word (s := kLots) (by decide) hv
theorem stop32 (v : List UInt8) : Stop (32 :: v) := rfl
theorem stop59 (v : List UInt8) : Stop (59 :: v) := rfl
theorem reads_sgn (c : UInt8) (h : isSignC c.toNat = true ∧ c.toNat ≠ 60 ∧ c.toNat ≠ 62) (v : List UInt8) : Reads [c] [(4, [c])] v := reads_sign h.1 h.2 v
/-- Valid steps whose conditions are valid. -/
theorem okS_cons {k b ck cv cn : Int} {cps : CF} {th el r : SF} (h : (SF.cons k b ck cv cn cps th el r).okB = true) : ((k = 1 ∧ 1 ≤ b ∧ b ≤ 12 ∧ CT.isZ ⟨ck, cv, cn, cps⟩ = true ∧ th.num = 0 ∧ el.num = 0) ∨
    (k = 2 ∧ b = 0 ∧ okC ⟨ck, cv, cn, cps⟩ = true ∧ 0 < th.num ∧ th.okB = true ∧ el.okB = true)) ∧ r.okB = true := by
  unfold SF.okB at h
  rw [Bool.and_eq_true] at h
  refine ⟨?_, h.2⟩
  have h1 := h.1
  by_cases hk : k = 1
  · rw [if_pos hk] at h1
    simp only [Bool.and_eq_true, decide_eq_true_eq, beq_iff_eq] at h1
    exact .inl ⟨hk, h1.1.1.1.1, h1.1.1.1.2, h1.1.1.2, h1.1.2, h1.2⟩
  · rw [if_neg hk] at h1
    by_cases h2 : k = 2
    · rw [if_pos h2] at h1
      simp only [Bool.and_eq_true, decide_eq_true_eq] at h1
      exact .inr ⟨h2, h1.1.1.1.1, h1.1.1.1.2, h1.1.1.2, h1.1.2, h1.2⟩
    · rw [if_neg h2] at h1; cases h1
theorem reads_lines : ∀ (l : SF) (ind : List UInt8), l.okB = true → (∀ c ∈ ind, isBlankC c.toNat = true) → ∀ v, Reads (flines ind l) (ltok l) v
  | .nil, ind, _, _, v => Reads.nil v
  | .cons k b ck cv cn cps th el r, ind, h, hi, v => by
    obtain ⟨hc, hr⟩ := okS_cons h
    have hi2 : ∀ c ∈ ind ++ [32, 32], isBlankC c.toNat = true := fun c hc => by
      rcases List.mem_append.1 hc with h1 | h1
      · exact hi c h1
      · simp only [List.mem_cons, List.not_mem_nil, or_false, or_self] at h1
        subst h1; decide
    have er := reads_lines r ind hr hi v
    unfold flines ltok
    rcases hc with hc | hc
    · rw [if_pos hc.1, if_pos hc.1]
      have r1 := (reads_nl (flines ind r ++ v)).app er
      have r2 := (reads_sgn 59 (by decide) ([10] ++ flines ind r ++ v)).app r1
      have r3 := (reads_crit b ([59] ++ ([10] ++ flines ind r) ++ v) (stop59 _)).app r2
      have r4 := (reads_blanks ind hi (critW b ++ ([59] ++ ([10] ++ flines ind r)) ++ v)).app r3
      simpa using r4
    · have n1 : ¬ k = 1 := by omega
      rw [if_neg n1, if_neg n1]
      have r1 := (reads_nl (flines ind r ++ v)).app er
      -- the else part, and all behind it
      have key : Reads ((if 0 < el.num then [32, 101, 108, 115, 101, 32, 123, 10] ++ flines (ind ++ [32, 32]) el ++ ind ++ [125] else []) ++ ([10] ++ flines ind r)) ((if 0 < el.num then (1, kElse) :: (4, kLB) :: (ltok el ++ [(4, kRB)]) else []) ++ ltok r) v := by
        by_cases he : 0 < el.num
        · rw [if_pos he, if_pos he]
          have q1 := (reads_sgn 125 (by decide) ([10] ++ flines ind r ++ v)).app r1
          have q2 := (reads_blanks ind hi ([125] ++ ([10] ++ flines ind r) ++ v)).app q1
          have q3 := (reads_lines el (ind ++ [32, 32]) hc.2.2.2.2.2 hi2 (ind ++ ([125] ++ ([10] ++ flines ind r)) ++ v)).app q2
          have q4 := (reads_nl (flines (ind ++ [32, 32]) el ++ (ind ++ ([125] ++ ([10] ++ flines ind r))) ++ v)).app q3
          have q5 := (reads_sgn 123 (by decide) ([10] ++ (flines (ind ++ [32, 32]) el ++ (ind ++ ([125] ++ ([10] ++ flines ind r)))) ++ v)).app q4
          have q6 := (reads_sp ([123] ++ ([10] ++ (flines (ind ++ [32, 32]) el ++ (ind ++ ([125] ++ ([10] ++ flines ind r))))) ++ v)).app q5
          have q7 := (reads_word (s := kElse) (by decide) (v := [32] ++ ([123] ++ ([10] ++ (flines (ind ++ [32, 32]) el ++ (ind ++ ([125] ++ ([10] ++ flines ind r)))))) ++ v) (stop32 _)).app q6
          have q8 := (reads_sp (kElse ++ ([32] ++ ([123] ++ ([10] ++ (flines (ind ++ [32, 32]) el ++ (ind ++ ([125] ++ ([10] ++ flines ind r))))))) ++ v)).app q7
          simpa using q8
        · rw [if_neg he, if_neg he]
          simpa using r1
      obtain ⟨X, hX⟩ : ∃ X, X = (if 0 < el.num then [32, 101, 108, 115, 101, 32, 123, 10] ++ flines (ind ++ [32, 32]) el ++ ind ++ [125] else []) ++ ([10] ++ flines ind r) := ⟨_, rfl⟩
      rw [← hX] at key
      have p1 := (reads_sgn 125 (by decide) (X ++ v)).app key
      have p2 := (reads_blanks ind hi ([125] ++ X ++ v)).app p1
      have p3 := (reads_lines th (ind ++ [32, 32]) hc.2.2.2.2.1 hi2 (ind ++ ([125] ++ X) ++ v)).app p2
      have p4 := (reads_nl (flines (ind ++ [32, 32]) th ++ (ind ++ ([125] ++ X)) ++ v)).app p3
      have p5 := (reads_sgn 123 (by decide) ([10] ++ (flines (ind ++ [32, 32]) th ++ (ind ++ ([125] ++ X))) ++ v)).app p4
      have p6 := (reads_sp ([123] ++ ([10] ++ (flines (ind ++ [32, 32]) th ++ (ind ++ ([125] ++ X)))) ++ v)).app p5
      have p7 := ((reads_text 100 ⟨ck, cv, cn, cps⟩ hc.2.2.1 ([32] ++ ([123] ++ ([10] ++ (flines (ind ++ [32, 32]) th ++ (ind ++ ([125] ++ X))))) ++ v) (stop32 _)).1).app p6
      have p8 := (reads_sp (ftext 100 ⟨ck, cv, cn, cps⟩ ++ ([32] ++ ([123] ++ ([10] ++ (flines (ind ++ [32, 32]) th ++ (ind ++ ([125] ++ X)))))) ++ v)).app p7
      have p9 := (reads_word (s := kIf) (by decide) (v := [32] ++ (ftext 100 ⟨ck, cv, cn, cps⟩ ++ ([32] ++ ([123] ++ ([10] ++ (flines (ind ++ [32, 32]) th ++ (ind ++ ([125] ++ X))))))) ++ v) (stop32 _)).app p8
      have p10 := (reads_blanks ind hi (kIf ++ ([32] ++ (ftext 100 ⟨ck, cv, cn, cps⟩ ++ ([32] ++ ([123] ++ ([10] ++ (flines (ind ++ [32, 32]) th ++ (ind ++ ([125] ++ X)))))))) ++ v)).app p9
      rw [hX] at p10
      simpa using p10
end Go.Proofs.YticpjdjdimpglaaGreatDoor
