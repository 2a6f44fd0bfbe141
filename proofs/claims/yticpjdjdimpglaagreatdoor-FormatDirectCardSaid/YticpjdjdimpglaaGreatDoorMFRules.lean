/- Plain laws: a condition's printed text is parsed to the condition's core. No program. -/
import Derived.Test.YticpjdjdimpglaaGreatDoorMCmp2
import Derived.Test.YticpjdjdimpglaaGreatDoorMYLaws
namespace Go.Proofs.YticpjdjdimpglaaGreatDoor
set_option linter.unusedVariables false
set_option linter.unusedSimpArgs false

mutual
/-- All single conditions replaced by their cores: in a row; one. -/
def corF : CF → CF
  | .nil => .nil
  | .cons k v n ps r => .one (cor1 ps k v n) (corF r)
def cor1 : CF → Int → Int → Int → CT
  | .nil, k, v, n => ⟨k, v, n, .nil⟩
  | .cons k' v' n' ps' r', k, v, n => if (k = 2 ∨ k = 3) ∧ r' = .nil then cor1 ps' k' v' n' else ⟨k, v, n, .one (cor1 ps' k' v' n') (corF r')⟩
end
def cores (c : CT) : CT := cor1 c.ps c.k c.v c.n
theorem cor1_core : ∀ (ps : CF) (k v n : Int), cor1 ps k v n = ⟨(coreF k v n ps).k, (coreF k v n ps).v, (coreF k v n ps).n, corF (coreF k v n ps).ps⟩
  | .nil, k, v, n => by rw [cor1, coreF, corF]
  | .cons k' v' n' ps' r', k, v, n => by
    by_cases h : (k = 2 ∨ k = 3) ∧ r' = .nil
    · rw [cor1, if_pos h, coreF, if_pos h]
      exact cor1_core ps' k' v' n'
    · rw [cor1, if_neg h, coreF, if_neg h]
      simp only
      rw [corF]
theorem cores_def (c : CT) : cores c = ⟨(core c).k, (core c).v, (core c).n, corF (core c).ps⟩ := cor1_core c.ps c.k c.v c.n
theorem corF_list : ∀ F : CF, corF F = CF.ofL (F.toL.map cores)
  | .nil => by rw [corF]; rfl
  | .cons k v n ps r => by rw [corF, corF_list r]; rfl
/-- How deep a condition is. -/
def dpt (c : CT) : Nat := c.ps.dep + 1
theorem dep_mem : ∀ {F : CF}, ∀ p ∈ F.toL, dpt p ≤ F.dep
  | .nil, p, h => by cases h
  | .cons k v n ps r, p, h => by
    rcases List.mem_cons.1 h with rfl | h
    · exact Nat.le_max_left _ _
    · exact Nat.le_trans (dep_mem p h) (Nat.le_max_right _ _)
theorem coreF_dep : ∀ (ps : CF) (k v n : Int), dpt (coreF k v n ps) ≤ ps.dep + 1
  | .nil, k, v, n => Nat.le_refl _
  | .cons k' v' n' ps' r', k, v, n => by
    by_cases h : (k = 2 ∨ k = 3) ∧ r' = .nil
    · rw [coreF, if_pos h]
      have := coreF_dep ps' k' v' n'
      have h2 : ps'.dep + 1 ≤ (CF.cons k' v' n' ps' r').dep := Nat.le_max_left _ _
      omega
    · rw [coreF, if_neg h]
      exact Nat.le_refl _
theorem core_dep (c : CT) : dpt (core c) ≤ dpt c := coreF_dep c.ps c.k c.v c.n

/-- The tokens from an offset on are these. -/
def At (T : List Tok) (a : Nat) (ts : List (Int × List UInt8)) : Prop := ∀ i x, ts[i]? = some x → (nx T (a + i)).kind = x.1 ∧ (nx T (a + i)).text = x.2
section
variable {T : List Tok} {a : Nat}
theorem At.app {x y : List (Int × List UInt8)} (h : At T a (x ++ y)) : At T a x ∧ At T (a + x.length) y := by
  refine ⟨fun i u hu => h i u ?_, fun i u hu => ?_⟩
  · have hi : i < x.length := by
      rcases Nat.lt_or_ge i x.length with h1 | h1
      · exact h1
      · rw [List.getElem?_eq_none h1] at hu; cases hu
    rw [List.getElem?_append_left hi]; exact hu
  · have := h (x.length + i) u (by rw [List.getElem?_append_right (by omega), Nat.add_sub_cancel_left]; exact hu)
    rwa [← Nat.add_assoc] at this
theorem At.head {x : Int × List UInt8} {ts : List (Int × List UInt8)} (h : At T a (x :: ts)) : ((nx T a).kind = x.1 ∧ (nx T a).text = x.2) ∧ At T (a + 1) ts :=
  ⟨h 0 x rfl, fun i u hu => by have := h (i + 1) u (by simpa using hu); rwa [show a + 1 + i = a + (i + 1) by omega]⟩
theorem isB_tok {k : Int} {t : List UInt8} (h : (nx T a).kind = k ∧ (nx T a).text = t) (s : List UInt8) : isB T a s = (t == s && (k == 4 || (k == 1 && kwB s))) := by
  unfold isB
  rw [h.1, h.2]
theorem isB_no {s s' : List UInt8} (h : isB T a s = true) (hne : s ≠ s') : isB T a s' = false := by
  unfold isB at *
  rw [Bool.and_eq_true] at h
  have h1 : (nx T a).text = s := by simpa using h.1
  rw [h1]
  have : (s == s') = false := by simpa using hne
  rw [this]; rfl
end
theorem join_ofL (kind : Int) (c d : CT) (l : List CT) : join_ kind c (CF.ofL (d :: l)) = ⟨kind, 0, 0, CF.ofL (c :: d :: l)⟩ := rfl
theorem pmore_succ2 (T : List Tok) (kw : List UInt8) (p : Nat → Res CT) (g a : Nat) : pmore T kw p (g + 1) a = if isB T a kw then (p (a + 1)).bind fun c n => (pmore T kw p g n).map (CF.one c) else .ok .nil a := rfl
/-- The further ones of a joint. -/
theorem pmore_at {T : List Tok} {kw : List UInt8} {q : Nat → Res CT} {N : Nat → Prop} (hkw : kwB kw = true) (hN : ∀ n, isB T n kw = true → N n) :
    ∀ (l : List (CT × List (Int × List UInt8))) (a g : Nat), At T a (l.flatMap fun x => (1, kw) :: x.2) → (∀ x ∈ l, ∀ b, a ≤ b → At T b x.2 → N (b + x.2.length) → q b = .ok x.1 (b + x.2.length)) →
      N (a + (l.flatMap fun x => (1, kw) :: x.2).length) → isB T (a + (l.flatMap fun x => (1, kw) :: x.2).length) kw = false → l.length ≤ g →
      pmore T kw q g a = .ok (CF.ofL (l.map (·.1))) (a + (l.flatMap fun x => (1, kw) :: x.2).length)
  | [], a, g, _, _, _, hend, _ => by
    cases g with
    | zero => rfl
    | succ g => rw [pmore_succ2, if_neg (by simpa using hend)]; rfl
  | x :: r, a, g, hat, hq, hNe, hend, hg => by
    obtain ⟨g, rfl⟩ : ∃ q, g = q + 1 := ⟨g - 1, by simp at hg; omega⟩
    rw [List.flatMap_cons] at hat hNe hend ⊢
    obtain ⟨h1, h2⟩ := At.head hat
    obtain ⟨h3, h4⟩ := At.app h2
    have hb : isB T a kw = true := by rw [isB_tok h1]; simp [hkw]
    have hlen : a + ((1, kw) :: x.2 ++ r.flatMap fun x => (1, kw) :: x.2).length = a + 1 + x.2.length + (r.flatMap fun x => (1, kw) :: x.2).length := by simp; omega
    rw [hlen] at hNe hend
    have hNx : N (a + 1 + x.2.length) := by
      cases r with
      | nil => simpa using hNe
      | cons y r =>
        rw [List.flatMap_cons] at h4
        obtain ⟨h5, _⟩ := At.head h4
        exact hN _ (by rw [isB_tok h5]; simp [hkw])
    rw [pmore_succ2, if_pos hb, hq x (by simp) (a + 1) (by omega) h3 hNx]
    show ((pmore T kw q g (a + 1 + x.2.length)).map (CF.one x.1)) = _
    rw [pmore_at hkw hN r (a + 1 + x.2.length) g h4 (fun y hy b hb => hq y (by simp [hy]) b (by omega)) hNe hend (by simp at hg; omega), hlen]
    rfl
theorem At.len {T : List Tok} {a : Nat} {ts : List (Int × List UInt8)} (h : At T a ts) (hk : ∀ x ∈ ts, x.1 ≠ 5) : ts = [] ∨ a + ts.length ≤ T.length := by
  rcases Nat.eq_zero_or_pos ts.length with h0 | h0
  · exact .inl (List.eq_nil_of_length_eq_zero h0)
  · right
    have hl : ts.length - 1 < ts.length := by omega
    have h1 := h (ts.length - 1) ts[ts.length - 1] (List.getElem?_eq_getElem hl)
    have h2 := nx_kind T (a := a + (ts.length - 1)) (by rw [h1.1]; exact hk _ (List.getElem_mem hl))
    omega
theorem joinT_flat (sep : Int × List UInt8) : ∀ (x : List (Int × List UInt8)) (r : List (List (Int × List UInt8))), joinT sep (x :: r) = x ++ r.flatMap (fun y => sep :: y)
  | x, [] => by simp [joinT]
  | x, y :: r => by rw [joinT, joinT_flat sep y r]; simp
theorem flat_len {kw : List UInt8} : ∀ r : List (CT × List (Int × List UInt8)), r.length ≤ (r.flatMap fun x => ((1 : Int), kw) :: x.2).length
  | [] => Nat.zero_le _
  | x :: r => by have := flat_len (kw := kw) r; simp at this ⊢; omega
/-- A joint. -/
theorem pjoined_at {T : List Tok} {kw : List UInt8} {kind : Int} {q : Nat → Res CT} {N : Nat → Prop} (hkw : kwB kw = true) (hN : ∀ n, isB T n kw = true → N n) (x : CT × List (Int × List UInt8)) (r : List (CT × List (Int × List UInt8))) (a : Nat)
    (hat : At T a (x.2 ++ r.flatMap fun y => ((1 : Int), kw) :: y.2)) (hk : ∀ y ∈ r, ∀ u ∈ y.2, u.1 ≠ 5) (hq : ∀ y ∈ x :: r, ∀ b, a ≤ b → At T b y.2 → N (b + y.2.length) → q b = .ok y.1 (b + y.2.length))
    (hNe : N (a + (x.2 ++ r.flatMap fun y => ((1 : Int), kw) :: y.2).length)) (hend : isB T (a + (x.2 ++ r.flatMap fun y => ((1 : Int), kw) :: y.2).length) kw = false) :
    pjoined T kw kind q a = .ok (join_ kind x.1 (CF.ofL (r.map (·.1)))) (a + (x.2 ++ r.flatMap fun y => ((1 : Int), kw) :: y.2).length) := by
  obtain ⟨h1, h2⟩ := At.app hat
  rw [List.length_append, ← Nat.add_assoc] at hNe hend ⊢
  have hNx : N (a + x.2.length) := by
    cases r with
    | nil => simpa using hNe
    | cons y r =>
      rw [List.flatMap_cons] at h2
      obtain ⟨h5, _⟩ := At.head h2
      exact hN _ (by rw [isB_tok h5]; simp [hkw])
  have hg : r.length ≤ T.length - (a + x.2.length) := by
    have h3 := flat_len (kw := kw) r
    rcases At.len h2 (fun u hu => by
      obtain ⟨y, hy, hu⟩ := List.mem_flatMap.1 hu
      rcases List.mem_cons.1 hu with rfl | hu
      · show (1 : Int) ≠ 5; decide
      · exact hk y hy u hu) with h4 | h4
    · rw [h4] at h3; simp at h3; rw [h3]; simp
    · omega
  unfold pjoined
  rw [hq x (by simp) a (Nat.le_refl _) h1 hNx]
  show (pmore T kw q (T.length - (a + x.2.length)) (a + x.2.length)).map (join_ kind x.1) = _
  rw [pmore_at hkw hN r _ _ h2 (fun y hy b hb => hq y (by simp [hy]) b (by omega)) hNe hend hg]
  rfl
theorem var_at : ∀ v : Fin 4, lkup (varW ((v : Nat) + 1 : Int)) wVars = some ((v : Nat) + 1 : Int) := by decide +kernel
/-- A comparison. -/
theorem pcomp_at {T : List Tok} {a : Nat} {v n : Int} (h : At T a [(1, varW v), (4, [62, 61]), (2, dec n)]) (hv : 1 ≤ v ∧ v ≤ 4) (hn : 0 ≤ n ∧ n ≤ 64) : pcomp T a = .ok (least v n) (a + 3) := by
  obtain ⟨h1, h⟩ := At.head h
  obtain ⟨h2, h⟩ := At.head h
  obtain ⟨h3, _⟩ := At.head h
  have hl : lkup (varW v) wVars = some v := by
    have := var_at ⟨(v - 1).toNat, by omega⟩
    have e : (((v - 1).toNat : Nat) : Int) + 1 = v := by omega
    simp only [e] at this
    exact this
  have p1 : pchoose T wVars a = .ok v (a + 1) := by
    unfold pchoose
    rw [h1.2]
    simp only [hl]
    rw [isB_tok h1, if_pos (by simp [(varW_ok v).2])]
  have p2 : pchoose T wOps (a + 1) = .ok 1 (a + 1 + 1) := by
    unfold pchoose
    rw [h2.2]
    rw [show lkup [62, 61] wOps = some 1 by decide +kernel]
    simp only
    rw [isB_tok h2, if_pos (by simp)]
  have p3 : pint T (a + 1 + 1) = .ok n (a + 1 + 1 + 1) := by
    unfold pint
    rw [if_pos h3.1, h3.2, (dec_ok ⟨by omega, by omega⟩).2]
  unfold pcomp
  rw [p1]
  show ((pchoose T wOps (a + 1)).bind _) = _
  rw [p2]
  show ((pint T (a + 1 + 1)).bind _) = _
  rw [p3]
  rfl
theorem join_kind {sep : Int × List UInt8} (hs : sep.1 ≠ 5) : ∀ l : List (List (Int × List UInt8)), (∀ x ∈ l, ∀ u ∈ x, u.1 ≠ 5) → ∀ u ∈ joinT sep l, u.1 ≠ 5
  | [], _, u, hu => by cases hu
  | x :: r, h, u, hu => by
    have hu' : u ∈ x ++ r.flatMap (fun y => sep :: y) := by rw [← joinT_flat]; exact hu
    rcases List.mem_append.1 hu' with h1 | h1
    · exact h x (by simp) u h1
    · obtain ⟨y, hy, h2⟩ := List.mem_flatMap.1 h1
      rcases List.mem_cons.1 h2 with rfl | h2
      · exact hs
      · exact h y (by simp [hy]) u h2
theorem ptok_kind : ∀ (f : Nat) (c : CT), (∀ u ∈ ptok f c, u.1 ≠ 5) ∧ ∀ u ∈ potok f c, u.1 ≠ 5
  | 0, c => ⟨(fun u hu => by cases hu), (fun u hu => by cases hu)⟩
  | f + 1, c => by
    have ih := ptok_kind f
    refine ⟨fun u hu => ?_, fun u hu => ?_⟩
    · unfold ptok at hu
      simp only at hu
      by_cases h1 : (core c).k = 1
      · rw [if_pos h1] at hu
        simp only [List.mem_cons, List.not_mem_nil, or_false] at hu
        rcases hu with rfl | rfl | rfl
        · show (1 : Int) ≠ 5; decide
        · show (4 : Int) ≠ 5; decide
        · show (2 : Int) ≠ 5; decide
      · rw [if_neg h1] at hu
        by_cases h4 : (core c).k = 4
        · rw [if_pos h4] at hu
          rcases List.mem_cons.1 hu with rfl | hu
          · show (1 : Int) ≠ 5; decide
          · cases hps : (core c).ps.toL with
            | nil => rw [hps] at hu; cases hu
            | cons p r => rw [hps] at hu; exact (ih p).2 u hu
        · rw [if_neg h4] at hu
          by_cases h2 : (core c).k = 2
          · rw [if_pos h2] at hu
            refine join_kind (by show (1 : Int) ≠ 5; decide) _ (fun x hx v hv => ?_) u hu
            obtain ⟨p, _, rfl⟩ := List.mem_map.1 hx
            exact (ih p).2 v hv
          · rw [if_neg h2] at hu
            refine join_kind (by show (1 : Int) ≠ 5; decide) _ (fun x hx v hv => ?_) u hu
            obtain ⟨p, _, rfl⟩ := List.mem_map.1 hx
            split at hv
            · exact (ih p).2 v hv
            · exact (ih p).1 v hv
    · unfold potok at hu
      simp only at hu
      split at hu
      · rcases List.mem_cons.1 hu with rfl | hu
        · show (4 : Int) ≠ 5; decide
        · rcases List.mem_append.1 hu with hu | hu
          · exact (ih (core c)).1 u hu
          · obtain rfl := List.mem_singleton.1 hu
            show (4 : Int) ≠ 5; decide
      · exact (ih (core c)).1 u hu
theorem cores_core (c : CT) : cores (core c) = cores c := by rw [cores_def, cores_def, core_idem]
theorem ptok_core (f : Nat) (c : CT) : ptok f (core c) = ptok f c := by
  cases f with
  | zero => rfl
  | succ f => unfold ptok; simp only [core_idem]
theorem varW_ne (v : Int) : (varW v == kNot) = false ∧ (varW v == kLP) = false := by
  unfold varW
  split
  · decide
  · split
    · decide
    · split <;> decide
def PU (f : Nat) : Prop := ∀ c, okC c = true → 2 * dpt c ≤ f → ∀ (T : List Tok) (a F : Nat), T.length ≤ a + F → At T a (potok f c) → punit T F a = .ok (cores c) (a + (potok f c).length)
def PJ (f : Nat) : Prop := ∀ c, okC c = true → 2 * dpt c ≤ f + 1 → (core c).k ≠ 3 → ∀ (T : List Tok) (a F : Nat), T.length ≤ a + F → At T a (ptok f c) → isB T (a + (ptok f c).length) kAnd = false → pconj T F a = .ok (cores c) (a + (ptok f c).length)
def PC (f : Nat) : Prop := ∀ c, okC c = true → 2 * dpt c ≤ f + 1 → ∀ (T : List Tok) (a F : Nat), T.length ≤ a + F → At T a (ptok f c) → isB T (a + (ptok f c).length) kAnd = false → isB T (a + (ptok f c).length) kOr = false → pcond T F a = .ok (cores c) (a + (ptok f c).length)
theorem punit_succ (T : List Tok) (f a : Nat) : punit T (f + 1) a = if isB T a kNot then (punit T f (a + 1)).map cnot
    else if isB T a kLP then (pcond T f (a + 1)).bind fun c n => (pwant T [kRP] n).map fun _ => c else pcomp T a := rfl
theorem simple_unit {g : Nat} (hU : PU g) {c : CT} (h : okC c = true) (hk : (core c).k = 1 ∨ (core c).k = 4) (hd : 2 * dpt c ≤ g + 2) {T : List Tok} {a F : Nat} (hF : T.length ≤ a + F) (hat : At T a (ptok (g + 1) c)) :
    punit T F a = .ok (cores c) (a + (ptok (g + 1) c).length) := by
  have hc := (core_ok h).1
  have hcd := core_dep c
  rw [cores_def]
  unfold ptok at hat ⊢
  simp only at hat ⊢
  rcases okC_cases hc with h1 | h1 | h1
  · rw [if_pos h1.1] at hat ⊢
    obtain ⟨t1, _⟩ := At.head hat
    have ha : a < T.length := nx_kind T (by rw [t1.1]; show (1 : Int) ≠ 5; decide)
    obtain ⟨F, rfl⟩ : ∃ q, F = q + 1 := ⟨F - 1, by omega⟩
    rw [punit_succ, if_neg (by rw [isB_tok t1]; simp [(varW_ne _).1]), if_neg (by rw [isB_tok t1]; simp [(varW_ne _).2]), pcomp_at hat ⟨h1.2.1, h1.2.2.1⟩ ⟨h1.2.2.2.1, h1.2.2.2.2.1⟩]
    rw [h1.1, h1.2.2.2.2.2]
    rfl
  · have n1 : ¬ (core c).k = 1 := by omega
    rw [if_neg n1, if_pos h1.1] at hat ⊢
    obtain ⟨t1, t2⟩ := At.head hat
    have ha : a < T.length := nx_kind T (by rw [t1.1]; show (1 : Int) ≠ 5; decide)
    obtain ⟨F, rfl⟩ : ∃ q, F = q + 1 := ⟨F - 1, by omega⟩
    have hl := num_toL (core c).ps
    rw [h1.2.2.2.1] at hl
    obtain ⟨p, hp⟩ := List.length_eq_one_iff.1 hl
    have hpm : p ∈ (core c).ps.toL := by rw [hp]; simp
    have hpd := dep_mem p hpm
    have hdd : dpt (core c) = (core c).ps.dep + 1 := rfl
    rw [hp] at t2 ⊢
    simp only at t2 ⊢
    rw [punit_succ, if_pos (by rw [isB_tok t1]; decide +kernel), hU p (okB_mem h1.2.2.2.2 p hpm) (by omega) T (a + 1) F (by omega) t2]
    rw [corF_list, hp, h1.1, h1.2.1, h1.2.2.1]
    show Res.ok (cnot (cores p)) _ = _
    rw [List.length_cons]
    show Res.ok _ (a + 1 + (potok g p).length) = Res.ok _ (a + ((potok g p).length + 1))
    rw [show a + 1 + (potok g p).length = a + ((potok g p).length + 1) by omega]
    rfl
  · omega
theorem parse_unit {g : Nat} (hC : PC g) (hU : ∀ q, q < g → PU q) : PU (g + 1) := by
  intro c h hd T a F hF hat
  have hc := (core_ok h).1
  have hcd := core_dep c
  unfold potok at hat ⊢
  simp only at hat ⊢
  by_cases h2 : (core c).k = 2 ∨ (core c).k = 3
  · rw [if_pos h2] at hat ⊢
    obtain ⟨t1, t2⟩ := At.head hat
    obtain ⟨t3, t4⟩ := At.app t2
    obtain ⟨t5, _⟩ := At.head t4
    have ha : a < T.length := nx_kind T (by rw [t1.1]; show (4 : Int) ≠ 5; decide)
    obtain ⟨F, rfl⟩ : ∃ q, F = q + 1 := ⟨F - 1, by omega⟩
    have e1 : isB T (a + 1 + (ptok g (core c)).length) kAnd = false := by rw [isB_tok t5]; decide
    have e2 : isB T (a + 1 + (ptok g (core c)).length) kOr = false := by rw [isB_tok t5]; decide
    rw [punit_succ, if_neg (by rw [isB_tok t1]; decide), if_pos (by rw [isB_tok t1]; decide), hC (core c) hc (by omega) T (a + 1) F (by omega) t3 e1 e2]
    show ((pwant T [kRP] (a + 1 + (ptok g (core c)).length)).map fun _ => cores (core c)) = _
    rw [pwant, if_pos (by rw [isB_tok t5]; decide), cores_core]
    show Res.ok (cores c) (a + 1 + (ptok g (core c)).length + 1) = _
    congr 1
    simp
    omega
  · rw [if_neg h2] at hat ⊢
    have hd1 : 1 ≤ dpt c := Nat.le_add_left 1 _
    obtain ⟨g, rfl⟩ : ∃ q, g = q + 1 := ⟨g - 1, by omega⟩
    have hk : (core (core c)).k = 1 ∨ (core (core c)).k = 4 := by
      rw [core_idem]
      rcases okC_cases hc with h3 | h3 | h3
      · exact .inl h3.1
      · exact .inr h3.1
      · exact absurd h3.1 h2
    rw [← cores_core]
    exact simple_unit (hU g (by omega)) hc hk (by omega) hF hat
theorem parse_conj {g : Nat} (hU : PU g) : PJ (g + 1) := by
  intro c h hd h3 T a F hF hat hend
  have hc := (core_ok h).1
  have hcd := core_dep c
  by_cases hk : (core c).k = 1 ∨ (core c).k = 4
  · have := pjoined_at (T := T) (kw := kAnd) (kind := 2) (q := punit T F) (N := fun _ => True) (by decide +kernel) (fun _ _ => trivial) (cores c, ptok (g + 1) c) [] a (by simpa using hat) (by simp)
      (fun y hy b hb hy2 _ => by
        obtain rfl : y = (cores c, ptok (g + 1) c) := by simpa using hy
        exact simple_unit hU h hk (by omega) (by omega) hy2) trivial (by simpa using hend)
    show pjoined T kAnd 2 (punit T F) a = _
    simpa [join_, CF.ofL] using this
  · rcases okC_cases hc with h1 | h1 | h1
    · exact absurd (.inl h1.1) hk
    · exact absurd (.inr h1.1) hk
    · have k2 : (core c).k = 2 := by omega
      have h2p := (core_ok h).2 (.inl k2)
      have hl := num_toL (core c).ps
      unfold ptok at hat hend ⊢
      have n1 : ¬ (core c).k = 1 := by omega
      have n4 : ¬ (core c).k = 4 := by omega
      simp only [if_neg n1, if_neg n4, if_pos k2] at hat hend ⊢
      obtain ⟨p, q, r, hp⟩ : ∃ p q r, (core c).ps.toL = p :: q :: r := by
        cases h5 : (core c).ps.toL with
        | nil => rw [h5] at hl; simp at hl; omega
        | cons p r => cases r with
          | nil => rw [h5] at hl; simp at hl; omega
          | cons q r => exact ⟨p, q, r, rfl⟩
      have hdd : dpt (core c) = (core c).ps.dep + 1 := rfl
      have hq : ∀ x ∈ (core c).ps.toL, ∀ b, a ≤ b → At T b (potok g x) → punit T F b = .ok (cores x) (b + (potok g x).length) := fun x hx b hb hx2 => by
        have := dep_mem x hx
        exact hU x (okB_mem h1.2.2.2.2.2 x hx) (by omega) T b F (by omega) hx2
      rw [hp] at hat hend hq ⊢
      rw [List.map_cons, joinT_flat] at hat hend ⊢
      have hfl : ((q :: r).map (potok g)).flatMap (fun y => ((1 : Int), kAnd) :: y) = ((q :: r).map fun x => (cores x, potok g x)).flatMap (fun y => ((1 : Int), kAnd) :: y.2) := by rw [List.flatMap_map, List.flatMap_map]
      rw [hfl] at hat hend ⊢
      have := pjoined_at (T := T) (kw := kAnd) (kind := 2) (q := punit T F) (N := fun _ => True) (by decide +kernel) (fun _ _ => trivial) (cores p, potok g p) ((q :: r).map fun x => (cores x, potok g x)) a hat
        (fun y hy u hu => by obtain ⟨x, _, rfl⟩ := List.mem_map.1 hy; exact (ptok_kind g x).2 u hu)
        (fun y hy b hb hy2 _ => by
          rcases List.mem_cons.1 hy with rfl | hy
          · exact hq p (by simp) b hb hy2
          · obtain ⟨x, hx, rfl⟩ := List.mem_map.1 hy
            exact hq x (List.mem_cons_of_mem _ hx) b hb hy2) trivial hend
      have hco : cores c = ⟨2, 0, 0, CF.ofL ((p :: q :: r).map cores)⟩ := by rw [cores_def, corF_list, hp, k2, h1.2.1, h1.2.2.1]
      show pjoined T kAnd 2 (punit T F) a = _
      rw [this, hco]
      simp [List.map_map, Function.comp_def, CF.ofL, join_, CF.one]
theorem parse_cond {g : Nat} (hU : PU g) (hJ : PJ g) (hJ1 : PJ (g + 1)) : PC (g + 1) := by
  intro c h hd T a F hF hat hend hend2
  have hc := (core_ok h).1
  have hcd := core_dep c
  have hor : ∀ n, isB T n kOr = true → isB T n kAnd = false := fun n hn => isB_no hn (by decide)
  by_cases h3 : (core c).k = 3
  · rcases okC_cases hc with h1 | h1 | h1
    · omega
    · omega
    · have h2p := (core_ok h).2 (.inr h3)
      have hl := num_toL (core c).ps
      unfold ptok at hat hend hend2 ⊢
      have n1 : ¬ (core c).k = 1 := by omega
      have n4 : ¬ (core c).k = 4 := by omega
      have n2 : ¬ (core c).k = 2 := by omega
      simp only [if_neg n1, if_neg n4, if_neg n2] at hat hend hend2 ⊢
      obtain ⟨p, q, r, hp⟩ : ∃ p q r, (core c).ps.toL = p :: q :: r := by
        cases h5 : (core c).ps.toL with
        | nil => rw [h5] at hl; simp at hl; omega
        | cons p r => cases r with
          | nil => rw [h5] at hl; simp at hl; omega
          | cons q r => exact ⟨p, q, r, rfl⟩
      have hdd : dpt (core c) = (core c).ps.dep + 1 := rfl
      obtain ⟨tk, htk⟩ : ∃ tk : CT → List (Int × List UInt8), tk = fun p => if (core p).k = 3 then potok g p else ptok g p := ⟨_, rfl⟩
      rw [← htk] at hat hend hend2 ⊢
      have hq : ∀ x ∈ (core c).ps.toL, ∀ b, a ≤ b → At T b (tk x) → isB T (b + (tk x).length) kAnd = false → pconj T F b = .ok (cores x) (b + (tk x).length) := fun x hx b hb hx2 hx3 => by
        have hxd := dep_mem x hx
        have hxo := okB_mem h1.2.2.2.2.2 x hx
        subst htk
        by_cases hx4 : (core x).k = 3
        · simp only [if_pos hx4] at hx2 hx3 ⊢
          have := pjoined_at (T := T) (kw := kAnd) (kind := 2) (q := punit T F) (N := fun _ => True) (by decide +kernel) (fun _ _ => trivial) (cores x, potok g x) [] b (by simpa using hx2) (by simp)
            (fun y hy b' hb' hy2 _ => by
              obtain rfl : y = (cores x, potok g x) := by simpa using hy
              exact hU x hxo (by omega) T b' F (by omega) hy2) trivial (by simpa using hx3)
          show pjoined T kAnd 2 (punit T F) b = _
          simpa [join_, CF.ofL] using this
        · simp only [if_neg hx4] at hx2 hx3 ⊢
          exact hJ x hxo (by omega) hx4 T b F (by omega) hx2 hx3
      have hkd : ∀ x, ∀ u ∈ tk x, u.1 ≠ 5 := fun x u hu => by
        subst htk
        simp only at hu
        split at hu
        · exact (ptok_kind g x).2 u hu
        · exact (ptok_kind g x).1 u hu
      rw [hp] at hat hend hend2 hq ⊢
      rw [List.map_cons, joinT_flat] at hat hend hend2 ⊢
      have hfl : ((q :: r).map tk).flatMap (fun y => ((1 : Int), kOr) :: y) = ((q :: r).map fun x => (cores x, tk x)).flatMap (fun y => ((1 : Int), kOr) :: y.2) := by rw [List.flatMap_map, List.flatMap_map]
      rw [hfl] at hat hend hend2 ⊢
      have := pjoined_at (T := T) (kw := kOr) (kind := 3) (q := pconj T F) (N := fun n => isB T n kAnd = false) (by decide +kernel) hor (cores p, tk p) ((q :: r).map fun x => (cores x, tk x)) a hat
        (fun y hy u hu => by obtain ⟨x, _, rfl⟩ := List.mem_map.1 hy; exact hkd x u hu)
        (fun y hy b hb hy2 hy3 => by
          rcases List.mem_cons.1 hy with rfl | hy
          · exact hq p (by simp) b hb hy2 hy3
          · obtain ⟨x, hx, rfl⟩ := List.mem_map.1 hy
            exact hq x (List.mem_cons_of_mem _ hx) b hb hy2 hy3) hend hend2
      have hco : cores c = ⟨3, 0, 0, CF.ofL ((p :: q :: r).map cores)⟩ := by rw [cores_def, corF_list, hp, h3, h1.2.1, h1.2.2.1]
      show pjoined T kOr 3 (pconj T F) a = _
      rw [this, hco]
      simp [List.map_map, Function.comp_def, CF.ofL, join_, CF.one]
  · have := pjoined_at (T := T) (kw := kOr) (kind := 3) (q := pconj T F) (N := fun n => isB T n kAnd = false) (by decide +kernel) hor (cores c, ptok (g + 1) c) [] a (by simpa using hat) (by simp)
      (fun y hy b hb hy2 hy3 => by
        obtain rfl : y = (cores c, ptok (g + 1) c) := by simpa using hy
        exact hJ1 c h hd h3 T b F (by omega) hy2 hy3) (by simpa using hend) (by simpa using hend2)
    show pjoined T kOr 3 (pconj T F) a = _
    simpa [join_, CF.ofL] using this
theorem parse_all : ∀ f, PU f ∧ PJ f ∧ PC f := by
  intro f
  induction f using Nat.strongRecOn with
  | _ f ih =>
    cases f with
    | zero =>
      have hd : ∀ c, 1 ≤ dpt c := fun c => Nat.le_add_left 1 _
      exact ⟨fun c _ h => by have := hd c; omega, fun c _ h => by have := hd c; omega, fun c _ h => by have := hd c; omega⟩
    | succ g =>
      obtain ⟨u, j, k⟩ := ih g (Nat.lt_succ_self _)
      have j1 := parse_conj u
      exact ⟨parse_unit k (fun q hq => (ih q (by omega)).1), j1, parse_cond u j j1⟩
end Go.Proofs.YticpjdjdimpglaaGreatDoor

/- The parser of chapter 13 in plain Lean: it stays within the tokens ahead of the ends (printed by wip/bin/genylawsn.py). -/
namespace Go.Proofs.YticpjdjdimpglaaGreatDoor
set_option linter.unusedVariables false
set_option linter.unusedSimpArgs false
section
variable (T : List Tok) {L : Nat} (hL : ∀ i, L ≤ i → (nx T i).kind = 5)
include hL
theorem nx_kindN {a : Nat} (h : (nx T a).kind ≠ 5) : a < L := by
  rcases Nat.lt_or_ge a L with h1 | h1
  · exact h1
  · exact absurd (hL a h1) h
theorem isB_ltN {a : Nat} {s : List UInt8} (h : isB T a s = true) : a < L := by
  refine nx_kindN T hL fun e => ?_
  unfold isB at h
  rw [e] at h
  simp at h
theorem pwant_in0N : ∀ (ws : List (List UInt8)) (a : Nat), (pwant T ws a).In0 L a
  | [], a => ⟨Nat.le_refl _, .inr rfl⟩
  | s :: r, a => by
    unfold pwant
    split
    · next h =>
      have h1 := isB_ltN T hL h
      exact ((pwant_in0N r (a + 1)).from (Nat.lt_succ_self _) h1).in0
    · exact (Res.bad_in _ _).in0
theorem pwant_inN {s : List UInt8} {r : List (List UInt8)} {a : Nat} : (pwant T (s :: r) a).In L a := by
  unfold pwant
  split
  · next h =>
    have h1 := isB_ltN T hL h
    exact (pwant_in0N T hL r (a + 1)).from (Nat.lt_succ_self _) h1
  · exact Res.bad_in _ _
theorem pname_inN (a : Nat) : (pname T a).In L a := by
  unfold pname
  split
  · next h => exact ⟨Nat.lt_succ_self _, nx_kindN T hL (by rw [h.1]; decide)⟩
  · exact Res.bad_in _ _
theorem pint_inN (a : Nat) : (pint T a).In L a := by
  unfold pint
  split
  · next h => exact ⟨Nat.lt_succ_self _, nx_kindN T hL (by rw [h]; decide)⟩
  · exact Res.bad_in _ _
theorem pchoose_inN (ws : List (List UInt8 × Int)) (a : Nat) : (pchoose T ws a).In L a := by
  unfold pchoose
  split
  · split
    · next h => exact ⟨Nat.lt_succ_self _, isB_ltN T hL h⟩
    · exact Res.bad_in _ _
  · exact Res.bad_in _ _
theorem pcomp_inN (a : Nat) : (pcomp T a).In L a :=
  (pchoose_inN T hL _ a).bind fun _ n _ => ((pchoose_inN T hL _ n).bind fun _ m _ => ((pint_inN T hL m).in0.bind fun _ _ _ => Res.ok_in0 _ _ _)).in0
theorem pmore_in0N (kw : List UInt8) (p : Nat → Res CT) (hp : ∀ a, (p a).In L a) : ∀ g a, (pmore T kw p g a).In0 L a
  | 0, a => ⟨Nat.le_refl _, .inr rfl⟩
  | g + 1, a => by
    unfold pmore
    split
    · next h =>
      have h1 := isB_ltN T hL h
      exact (((hp (a + 1)).bind fun c n _ => (pmore_in0N kw p hp g n).map).from (Nat.le_succ _) h1).in0
    · exact ⟨Nat.le_refl _, .inr rfl⟩
theorem pjoined_inN {kw : List UInt8} {kind : Int} {p : Nat → Res CT} (hp : ∀ a, (p a).In L a) (a : Nat) : (pjoined T kw kind p a).In L a :=
  (hp a).bind fun _ n _ => (pmore_in0N T hL kw p hp _ n).map
theorem punit_inN : ∀ f a, (punit T f a).In L a
  | 0, a => Res.bad_in _ _
  | f + 1, a => by
    unfold punit
    split
    · next h => exact ((punit_inN f (a + 1)).map).from (Nat.le_succ _) (isB_ltN T hL h)
    · split
      · next h => exact ((pjoined_inN T hL (pjoined_inN T hL (punit_inN f)) (a + 1)).bind fun _ n _ => (pwant_in0N T hL _ n).map).from (Nat.le_succ _) (isB_ltN T hL h)
      · exact pcomp_inN T hL a
theorem pconj_inN (f a : Nat) : (pconj T f a).In L a := pjoined_inN T hL (punit_inN T hL f) a
theorem pcond_inN (f a : Nat) : (pcond T f a).In L a := pjoined_inN T hL (pconj_inN T hL f) a
theorem pcrit_inN (a : Nat) : (pcrit T a).In L a :=
  (pchoose_inN T hL _ a).bind fun _ n _ => by
    split
    · exact (pchoose_inN T hL _ n).in0
    · split
      · exact (pchoose_inN T hL _ n).in0
      · exact ⟨Nat.le_refl _, .inr rfl⟩
theorem psteps_inN : ∀ f a, (psteps T f a).In L a
  | 0, a => Res.bad_in _ _
  | f + 1, a => by
    unfold psteps
    split
    · next h => exact ⟨Nat.lt_succ_self _, isB_ltN T hL h⟩
    · split
      · next h =>
        exact ((pcond_inN T hL _ (a + 1)).bind fun c n _ => (((pwant_in0N T hL _ n).bind fun _ n _ => ((psteps_inN f n).bind fun t n _ => by
          split
          · exact (((pwant_in0N T hL _ (n + 1)).bind fun _ n _ => ((psteps_inN f n).bind fun e n _ => (psteps_inN f n).map.in0).in0).from (Nat.lt_succ_self _) (isB_ltN T hL ‹_›)).in0
          · exact (psteps_inN f n).map.in0).in0))).from (Nat.le_succ _) (isB_ltN T hL h)
      · exact (pcrit_inN T hL a).bind fun b n _ => (pwant_in0N T hL _ n).bind fun _ n _ => (psteps_inN f n).map.in0
theorem pzone_inN (a : Nat) : (pzone T a).In L a :=
  (pname_inN T hL a).bind fun _ n _ => ((pint_inN T hL n).bind fun i n _ => by
    split
    · exact (((pint_inN T hL (n + 1)).bind fun _ n _ => (pwant_in0N T hL _ n).map).from (Nat.le_succ _) (isB_ltN T hL ‹_›)).in0
    · exact (pwant_in0N T hL _ n).map).in0
theorem pzones_inN : ∀ f a, (pzones T f a).In L a
  | 0, a => Res.bad_in _ _
  | f + 1, a => by
    unfold pzones
    split
    · next h => exact ⟨Nat.lt_succ_self _, isB_ltN T hL h⟩
    · exact (pzone_inN T hL a).bind fun z n _ => (pzones_inN f n).map.in0
theorem prules_inN (a : Nat) : (prules T a).In L a :=
  (pwant_inN T hL).bind fun _ n _ => (((pname_inN T hL n).in0).bind fun _ n _ => (pwant_in0N T hL _ n).bind fun _ n _ => (pint_inN T hL n).in0.bind fun _ n _ => (pwant_in0N T hL _ n).bind fun _ n _ => (pint_inN T hL n).in0.bind fun _ n _ =>
    (pwant_in0N T hL _ n).bind fun _ n _ => (pint_inN T hL n).in0.bind fun _ n _ => (pwant_in0N T hL _ n).bind fun _ n _ => (psteps_inN T hL _ n).in0.bind fun _ n _ => (pwant_in0N T hL _ n).bind fun _ n _ => (pzones_inN T hL _ n).in0.bind fun _ n _ => (pwant_in0N T hL _ n).map)
end
end Go.Proofs.YticpjdjdimpglaaGreatDoor

/- Plain laws: the parse of tokens that stand within a longer row. No program. -/
namespace Go.Proofs.YticpjdjdimpglaaGreatDoor
set_option linter.unusedVariables false
set_option linter.unusedSimpArgs false

/-- T' holds at d the first N tokens of T (kinds and texts); from N on T has ends alone. -/
structure Sim (T T' : List Tok) (d N : Nat) : Prop where
  len : T.length + d ≤ T'.length
  same : ∀ i, i < N → (nx T' (i + d)).kind = (nx T i).kind ∧ (nx T' (i + d)).text = (nx T i).text
  ends : ∀ i, N ≤ i → (nx T i).kind = 5
  solid : ∀ i, i < N → (nx T i).kind ≠ 5
section
variable {T T' : List Tok} {d N : Nat}
theorem isB_same {i j : Nat} (h1 : (nx T' j).kind = (nx T i).kind) (h2 : (nx T' j).text = (nx T i).text) (s : List UInt8) : isB T' j s = isB T i s := by
  unfold isB
  rw [h1, h2]
theorem Sim.isB (h : Sim T T' d N) {i : Nat} (hi : i < N) (s : List UInt8) : isB T' (i + d) s = isB T i s := isB_same (h.same i hi).1 (h.same i hi).2 s
theorem Sim.yes (h : Sim T T' d N) {i : Nat} {s : List UInt8} (hb : Proofs.YticpjdjdimpglaaGreatDoor.isB T i s = true) : i < N ∧ Proofs.YticpjdjdimpglaaGreatDoor.isB T' (i + d) s = true := by
  have hi := isB_ltN T h.ends hb
  exact ⟨hi, (h.isB hi s).trans hb⟩
theorem pwant_sim (h : Sim T T' d N) : ∀ (ws : List (List UInt8)) {a n : Nat} {u : Unit}, pwant T ws a = .ok u n → pwant T' ws (a + d) = .ok u (n + d)
  | [], a, n, u, e => by
    unfold pwant at e ⊢
    cases e
    rfl
  | s :: r, a, n, u, e => by
    unfold pwant at e ⊢
    split at e
    · next hb =>
      rw [if_pos (h.yes hb).2]
      have := pwant_sim h r e
      rwa [show a + d + 1 = a + 1 + d by omega]
    · cases e
theorem pname_sim (h : Sim T T' d N) {a n : Nat} {x : List UInt8} (e : pname T a = .ok x n) : pname T' (a + d) = .ok x (n + d) := by
  unfold pname at e ⊢
  split at e
  · next hb =>
    have hi := nx_kindN T h.ends (a := a) (by rw [hb.1]; decide)
    rw [(h.same a hi).1, (h.same a hi).2, if_pos hb]
    cases e
    rw [show a + d + 1 = a + 1 + d by omega]
  · cases e
theorem pint_sim (h : Sim T T' d N) {a n : Nat} {x : Int} (e : pint T a = .ok x n) : pint T' (a + d) = .ok x (n + d) := by
  unfold pint at e ⊢
  split at e
  · next hb =>
    have hi := nx_kindN T h.ends (a := a) (by rw [hb]; decide)
    rw [(h.same a hi).1, (h.same a hi).2, if_pos hb]
    cases e
    rw [show a + d + 1 = a + 1 + d by omega]
  · cases e
theorem pchoose_sim (h : Sim T T' d N) {ws : List (List UInt8 × Int)} {a n : Nat} {x : Int} (e : pchoose T ws a = .ok x n) : pchoose T' ws (a + d) = .ok x (n + d) := by
  unfold pchoose at e ⊢
  split at e
  · next v hv =>
    split at e
    · next hb =>
      obtain ⟨hi, hb'⟩ := h.yes hb
      rw [(h.same a hi).2, hv]
      simp only
      rw [if_pos hb']
      cases e
      rw [show a + d + 1 = a + 1 + d by omega]
    · cases e
  · cases e
theorem pcomp_sim (h : Sim T T' d N) {a n : Nat} {x : CT} (e : pcomp T a = .ok x n) : pcomp T' (a + d) = .ok x (n + d) := by
  unfold pcomp at e ⊢
  obtain ⟨v, m, e1, e⟩ := Res.bind_ok e
  obtain ⟨op, k, e2, e⟩ := Res.bind_ok e
  obtain ⟨i, j, e3, e⟩ := Res.bind_ok e
  cases e
  rw [pchoose_sim h e1]
  show (pchoose T' wOps (m + d)).bind _ = _
  rw [pchoose_sim h e2]
  show (pint T' (k + d)).bind _ = _
  rw [pint_sim h e3]
  rfl

variable {M : Nat}
/-- Up to M what joins conditions is told alike. -/
def Told (T T' : List Tok) (d M : Nat) : Prop := ∀ i, i < M → ∀ kw, kw = kAnd ∨ kw = kOr → isB T i kw = false → isB T' (i + d) kw = false
theorem Sim.told (h : Sim T T' d N) : Told T T' d N := fun i hi kw _ e => (h.isB hi kw).trans e
theorem pmore_sim (h : Sim T T' d N) (hM : Told T T' d M) {kw : List UInt8} (hk : kw = kAnd ∨ kw = kOr) {p p' : Nat → Res CT} (hin : ∀ a, (p a).In N a)
    (hp : ∀ a x n, p a = .ok x n → n < M → p' (a + d) = .ok x (n + d)) : ∀ (g g' a : Nat) {n : Nat} {x : CF}, g ≤ g' → T.length ≤ a + g → pmore T kw p g a = .ok x n → n < M → pmore T' kw p' g' (a + d) = .ok x (n + d)
  | 0, g', a, n, x, _, hl, e, hn => by
    cases e
    cases g' with
    | zero => rfl
    | succ g' =>
      unfold pmore
      have hb : isB T a kw = false := by
        cases hq : isB T a kw
        · rfl
        · have := isB_lt T hq; omega
      rw [if_neg (by rw [hM a hn kw hk hb]; decide)]
  | g + 1, 0, a, n, x, hg, _, _, _ => absurd hg (by omega)
  | g + 1, g' + 1, a, n, x, hg, hl, e, hn => by
    unfold pmore at e ⊢
    split at e
    · next hb =>
      rw [if_pos (h.yes hb).2]
      obtain ⟨c, m, e1, e2⟩ := Res.bind_ok e
      have h1 := hin (a + 1)
      rw [e1] at h1
      obtain ⟨cs, e3, rfl⟩ := Res.map_ok e2
      have h2 := pmore_in0N T h.ends kw p hin g m
      rw [e3] at h2
      have hm : m < M := by have := h2.1; omega
      rw [show a + d + 1 = a + 1 + d by omega, hp _ _ _ e1 hm]
      show (pmore T' kw p' g' (m + d)).map _ = _
      rw [pmore_sim h hM hk hin hp g g' m (by omega) (by have := h1.1; omega) e3 hn]
      rfl
    · next hb =>
      cases e
      rw [if_neg (by rw [hM a hn kw hk (by simpa using hb)]; decide)]
theorem pjoined_sim (h : Sim T T' d N) (hM : Told T T' d M) {kw : List UInt8} (hk : kw = kAnd ∨ kw = kOr) {kind : Int} {p p' : Nat → Res CT} (hin : ∀ a, (p a).In N a)
    (hp : ∀ a x n, p a = .ok x n → n < M → p' (a + d) = .ok x (n + d)) {a n : Nat} {x : CT} (e : pjoined T kw kind p a = .ok x n) (hn : n < M) : pjoined T' kw kind p' (a + d) = .ok x (n + d) := by
  unfold pjoined at e ⊢
  obtain ⟨c, m, e1, e2⟩ := Res.bind_ok e
  obtain ⟨cs, e3, rfl⟩ := Res.map_ok e2
  have h2 := pmore_in0N T h.ends kw p hin (T.length - m) m
  rw [e3] at h2
  have hl := h.len
  rw [hp _ _ _ e1 (by have := h2.1; omega)]
  show (pmore T' kw p' (T'.length - (m + d)) (m + d)).map _ = _
  rw [pmore_sim h hM hk hin hp _ _ m (by omega) (by omega) e3 hn]
  rfl
theorem punit_sim (h : Sim T T' d N) (hM : Told T T' d M) : ∀ (f f' a : Nat) {n : Nat} {x : CT}, f ≤ f' → punit T f a = .ok x n → n < M → punit T' f' (a + d) = .ok x (n + d)
  | 0, _, a, n, x, _, e, _ => by cases e
  | f + 1, 0, a, n, x, hf, _, _ => absurd hf (by omega)
  | f + 1, f' + 1, a, n, x, hf, e, hn => by
    have hp : ∀ a x n, punit T f a = .ok x n → n < M → punit T' f' (a + d) = .ok x (n + d) := fun a x n e hn => punit_sim h hM f f' a (by omega) e hn
    have hin := punit_inN T h.ends (f + 1) a
    rw [e] at hin
    have ha : a < N := by
      have h1 := hin.1
      have h2 := hin.2
      omega
    unfold punit at e ⊢
    rw [h.isB ha, h.isB ha]
    split at e
    · next hb =>
      obtain ⟨c, e1, rfl⟩ := Res.map_ok e
      rw [if_pos hb, show a + d + 1 = a + 1 + d by omega, hp _ _ _ e1 hn]
      rfl
    · next hb =>
      rw [if_neg hb]
      split at e
      · next hb2 =>
        rw [if_pos hb2]
        obtain ⟨c, m, e1, e2⟩ := Res.bind_ok e
        obtain ⟨_, e3, rfl⟩ := Res.map_ok e2
        have h3 := pwant_inN T h.ends (s := kRP) (r := []) (a := m)
        rw [e3] at h3
        have hm : m < M := by have := h3.1; omega
        rw [show a + d + 1 = a + 1 + d by omega, pjoined_sim h hM (.inr rfl) (pjoined_inN T h.ends (punit_inN T h.ends f)) (fun a x n e hn => pjoined_sim h hM (.inl rfl) (punit_inN T h.ends f) hp e hn) e1 hm]
        show (pwant T' [kRP] (m + d)).map _ = _
        rw [pwant_sim h _ e3]
        rfl
      · next hb2 =>
        rw [if_neg hb2]
        exact pcomp_sim h e
theorem pconj_sim (h : Sim T T' d N) (hM : Told T T' d M) {f f' a n : Nat} {x : CT} (hf : f ≤ f') (e : pconj T f a = .ok x n) (hn : n < M) : pconj T' f' (a + d) = .ok x (n + d) :=
  pjoined_sim h hM (.inl rfl) (punit_inN T h.ends f) (fun a _ _ e hn => punit_sim h hM f f' a hf e hn) e hn
theorem pcond_sim (h : Sim T T' d N) (hM : Told T T' d M) {f f' a n : Nat} {x : CT} (hf : f ≤ f') (e : pcond T f a = .ok x n) (hn : n < M) : pcond T' f' (a + d) = .ok x (n + d) :=
  pjoined_sim h hM (.inr rfl) (pconj_inN T h.ends f) (fun _ _ _ e hn => pconj_sim h hM hf e hn) e hn
theorem pcrit_sim (h : Sim T T' d N) {a n : Nat} {x : Int} (e : pcrit T a = .ok x n) : pcrit T' (a + d) = .ok x (n + d) := by
  unfold pcrit at e ⊢
  obtain ⟨b, m, e1, e⟩ := Res.bind_ok e
  rw [pchoose_sim h e1]
  simp only [Res.bind]
  split at e
  · next h1 => rw [if_pos h1]; exact pchoose_sim h e
  · next h1 =>
    rw [if_neg h1]
    split at e
    · next h2 => rw [if_pos h2]; exact pchoose_sim h e
    · next h2 =>
      rw [if_neg h2]
      cases e
      rfl
theorem psteps_sim (h : Sim T T' d N) : ∀ (f f' a : Nat) {n : Nat} {x : SF}, f ≤ f' → psteps T f a = .ok x n → psteps T' f' (a + d) = .ok x (n + d)
  | 0, _, a, n, x, _, e => by cases e
  | f + 1, 0, a, n, x, hf, _ => absurd hf (by omega)
  | f + 1, f' + 1, a, n, x, hf, e => by
    have ih : ∀ {a n : Nat} {x : SF}, psteps T f a = .ok x n → psteps T' f' (a + d) = .ok x (n + d) := fun {a n x} e => psteps_sim h f f' a (by omega) e
    have hlt : ∀ {f a n : Nat} {x : SF}, psteps T f a = .ok x n → a < N := fun {f a n x} e => by
      have hin := psteps_inN T h.ends f a
      rw [e] at hin
      have h1 := hin.1
      have h2 := hin.2
      omega
    have ha := hlt e
    have hl := h.len
    unfold psteps at e ⊢
    rw [h.isB ha, h.isB ha]
    split at e
    · next hb =>
      rw [if_pos hb]
      cases e
      rw [show a + d + 1 = a + 1 + d by omega]
    · next hb =>
      rw [if_neg hb]
      split at e
      · next hb2 =>
        rw [if_pos hb2]
        obtain ⟨c, m, e1, e⟩ := Res.bind_ok e
        obtain ⟨_, m2, e2, e⟩ := Res.bind_ok e
        obtain ⟨t, m3, e3, e⟩ := Res.bind_ok e
        have h3 := pwant_inN T h.ends (s := kLB) (r := []) (a := m)
        rw [e2] at h3
        have hm : m < N := by have := h3.1; have := h3.2; omega
        rw [show a + d + 1 = a + 1 + d by omega, pcond_sim h h.told (show T.length ≤ T'.length by omega) e1 hm]
        show (pwant T' [kLB] (m + d)).bind _ = _
        rw [pwant_sim h _ e2]
        show (psteps T' f' (m2 + d)).bind _ = _
        rw [ih e3]
        simp only [Res.bind]
        have hm3 : m3 < N := by
          split at e
          · next hb3 => exact (h.yes hb3).1
          · next hb3 =>
            obtain ⟨r, e4, rfl⟩ := Res.map_ok e
            exact hlt e4
        rw [h.isB hm3]
        split at e
        · next hb3 =>
          rw [if_pos hb3]
          obtain ⟨_, m4, e4, e⟩ := Res.bind_ok e
          obtain ⟨el, m5, e5, e⟩ := Res.bind_ok e
          obtain ⟨r, e6, rfl⟩ := Res.map_ok e
          rw [show m3 + d + 1 = m3 + 1 + d by omega, pwant_sim h _ e4]
          simp only
          rw [ih e5]
          simp only
          rw [ih e6]
          rfl
        · next hb3 =>
          rw [if_neg hb3]
          obtain ⟨r, e6, rfl⟩ := Res.map_ok e
          rw [ih e6]
          rfl
      · next hb2 =>
        rw [if_neg hb2]
        obtain ⟨b, m, e1, e⟩ := Res.bind_ok e
        obtain ⟨_, m2, e2, e⟩ := Res.bind_ok e
        obtain ⟨r, e3, rfl⟩ := Res.map_ok e
        rw [pcrit_sim h e1]
        simp only [Res.bind]
        rw [pwant_sim h _ e2]
        simp only
        rw [ih e3]
        rfl
theorem pzone_sim (h : Sim T T' d N) {a n : Nat} {x : ZT} (e : pzone T a = .ok x n) : pzone T' (a + d) = .ok x (n + d) := by
  unfold pzone at e ⊢
  obtain ⟨s, m, e1, e⟩ := Res.bind_ok e
  obtain ⟨i, m2, e2, e⟩ := Res.bind_ok e
  rw [pname_sim h e1]
  simp only [Res.bind]
  rw [pint_sim h e2]
  simp only
  have hm2 : m2 < N := by
    split at e
    · next hb => exact (h.yes hb).1
    · obtain ⟨_, e3, _⟩ := Res.map_ok e
      have h3 := pwant_inN T h.ends (s := kSemi) (r := []) (a := m2)
      rw [e3] at h3
      have h4 := h3.1
      have h5 := h3.2
      omega
  rw [h.isB hm2]
  split at e
  · next hb =>
    rw [if_pos hb]
    obtain ⟨j, m3, e3, e⟩ := Res.bind_ok e
    obtain ⟨_, e4, rfl⟩ := Res.map_ok e
    rw [show m2 + d + 1 = m2 + 1 + d by omega, pint_sim h e3]
    simp only
    rw [pwant_sim h _ e4]
    rfl
  · next hb =>
    rw [if_neg hb]
    obtain ⟨_, e4, rfl⟩ := Res.map_ok e
    rw [pwant_sim h _ e4]
    rfl
theorem pzones_sim (h : Sim T T' d N) : ∀ (f f' a : Nat) {n : Nat} {x : List ZT}, f ≤ f' → pzones T f a = .ok x n → pzones T' f' (a + d) = .ok x (n + d)
  | 0, _, a, n, x, _, e => by cases e
  | f + 1, 0, a, n, x, hf, _ => absurd hf (by omega)
  | f + 1, f' + 1, a, n, x, hf, e => by
    have hin := pzones_inN T h.ends (f + 1) a
    rw [e] at hin
    have ha : a < N := by
      have h1 := hin.1
      have h2 := hin.2
      omega
    unfold pzones at e ⊢
    rw [h.isB ha]
    split at e
    · next hb =>
      rw [if_pos hb]
      cases e
      rw [show a + d + 1 = a + 1 + d by omega]
    · next hb =>
      rw [if_neg hb]
      obtain ⟨z, m, e1, e⟩ := Res.bind_ok e
      obtain ⟨r, e2, rfl⟩ := Res.map_ok e
      rw [pzone_sim h e1]
      simp only [Res.bind]
      rw [pzones_sim h f f' m (by omega) e2]
      rfl
theorem prules_sim (h : Sim T T' d N) {a n : Nat} {x : RT} (e : prules T a = .ok x n) : prules T' (a + d) = .ok x (n + d) := by
  have hl := h.len
  have hl' : T.length ≤ T'.length := by omega
  unfold prules at e ⊢
  obtain ⟨_, m1, e1, e⟩ := Res.bind_ok e
  obtain ⟨_, m2, e2, e⟩ := Res.bind_ok e
  obtain ⟨_, m3, e3, e⟩ := Res.bind_ok e
  obtain ⟨_, m4, e4, e⟩ := Res.bind_ok e
  obtain ⟨_, m5, e5, e⟩ := Res.bind_ok e
  obtain ⟨_, m6, e6, e⟩ := Res.bind_ok e
  obtain ⟨_, m7, e7, e⟩ := Res.bind_ok e
  obtain ⟨_, m8, e8, e⟩ := Res.bind_ok e
  obtain ⟨_, m9, e9, e⟩ := Res.bind_ok e
  obtain ⟨_, m10, e10, e⟩ := Res.bind_ok e
  obtain ⟨_, m11, e11, e⟩ := Res.bind_ok e
  obtain ⟨_, m12, e12, e⟩ := Res.bind_ok e
  obtain ⟨_, e13, rfl⟩ := Res.map_ok e
  rw [pwant_sim h _ e1]; simp only [Res.bind]
  rw [pname_sim h e2]; simp only
  rw [pwant_sim h _ e3]; simp only
  rw [pint_sim h e4]; simp only
  rw [pwant_sim h _ e5]; simp only
  rw [pint_sim h e6]; simp only
  rw [pwant_sim h _ e7]; simp only
  rw [pint_sim h e8]; simp only
  rw [pwant_sim h _ e9]; simp only
  rw [psteps_sim h _ _ _ hl' e10]; simp only
  rw [pwant_sim h _ e11]; simp only
  rw [pzones_sim h _ _ _ hl' e12]; simp only
  rw [pwant_sim h _ e13]; rfl
theorem pdoc_succ (T : List Tok) (f a : Nat) : pdoc T (f + 1) a = if (nx T a).kind = 5 then ([], [])
    else match prules T a with
      | .ok r n => (r :: (pdoc T f n).1, (pdoc T f n).2)
      | .bad n => ((pdoc T f (pskip T T.length (max n (a + 1)))).1, (nx T n).at_ :: (pdoc T f (pskip T T.length (max n (a + 1)))).2) := rfl
/-- Documents without problems. -/
theorem pdoc_sim (h : Sim T T' d N) (hN : N ≤ T.length) : ∀ (f a : Nat) (l : List RT), a ≤ N → T.length ≤ a + f → pdoc T f a = (l, []) → ∀ f', T'.length ≤ a + d + f' →
    ∃ f'', T'.length ≤ N + d + f'' ∧ pdoc T' f' (a + d) = (l ++ (pdoc T' f'' (N + d)).1, (pdoc T' f'' (N + d)).2)
  | 0, a, l, ha, hf, e, f', hf' => by
    cases e
    have : a = N := by omega
    subst this
    exact ⟨f', hf', rfl⟩
  | f + 1, a, l, ha, hf, e, f', hf' => by
    unfold pdoc at e
    split at e
    · next hk =>
      cases e
      have : a = N := by
        rcases Nat.lt_or_ge a N with h1 | h1
        · exact absurd hk (h.solid a h1)
        · omega
      subst this
      exact ⟨f', hf', rfl⟩
    · next hk =>
      have hlt := nx_kindN T h.ends hk
      cases hr : prules T a with
      | ok r n =>
        rw [hr] at e
        simp only [Prod.mk.injEq] at e
        have hin := prules_inN T h.ends a
        rw [hr] at hin
        have h1 := hin.1
        have h2 := hin.2
        have hl := h.len
        obtain ⟨f', rfl⟩ : ∃ q, f' = q + 1 := ⟨f' - 1, by omega⟩
        obtain ⟨f'', g1, g2⟩ := pdoc_sim h hN f n (pdoc T f n).1 h2 (by omega) (by rw [← e.2]) f' (by omega)
        refine ⟨f'', g1, ?_⟩
        rw [pdoc_succ, if_neg (by rw [(h.same a hlt).1]; exact hk), prules_sim h hr]
        simp only
        rw [g2, ← e.1]
        rfl
      | bad n =>
        rw [hr] at e
        simp at e
end
end Go.Proofs.YticpjdjdimpglaaGreatDoor

/- The three functions of chapter 13 in plain Lean; what they say of parentheses, and of texts behind one another. No program. -/
namespace Go.Proofs.YticpjdjdimpglaaGreatDoor
set_option linter.unusedVariables false
set_option linter.unusedSimpArgs false

/-- A text that consists of one thing: the thing, the offset and the code of the first error. -/
def topOf {α : Type} (z : α) (p : List Tok → Res α) (l : List UInt8) : α × Int × Int :=
  match (lex l).2 with
  | q :: _ => (z, q.at_, q.code)
  | [] => match pend (lex l).1 (p (lex l).1) with
    | .ok x _ => (x, 0, 0)
    | .bad n => (z, (nx (lex l).1 n).at_, 130)
def topCond : List UInt8 → CT × Int × Int := topOf CT.zero fun T => pcond T T.length 0
def topRules : List UInt8 → RT × Int × Int := topOf RT.zero fun T => prules T 0
theorem topOf_ok {α : Type} {z : α} {p : List Tok → Res α} {l : List UInt8} {x : α} {a : Int} (h : topOf z p l = (x, a, 0)) (hz : ∀ q ∈ (lex l).2, q.code = 60) :
    (lex l).2 = [] ∧ a = 0 ∧ ∃ n, p (lex l).1 = .ok x n ∧ (nx (lex l).1 n).kind = 5 := by
  unfold topOf at h
  split at h
  · next q r e =>
    have := hz q (by rw [e]; simp)
    simp only [Prod.mk.injEq] at h
    omega
  · next e =>
    refine ⟨e, ?_⟩
    unfold pend at h
    split at h
    · next y n e2 =>
      obtain ⟨y', m, e3, e4⟩ := Res.bind_ok e2
      split at e4
      · next hk =>
        cases e4
        simp only [Prod.mk.injEq] at h
        obtain ⟨rfl, h2, _⟩ := h
        exact ⟨h2.symm, n, e3, hk⟩
      · cases e4
    · simp at h
theorem topOf_mk {α : Type} {z : α} {p : List Tok → Res α} {l : List UInt8} {x : α} {n : Nat} (h1 : (lex l).2 = []) (h2 : p (lex l).1 = .ok x n) (h3 : (nx (lex l).1 n).kind = 5) : topOf z p l = (x, 0, 0) := by
  unfold topOf
  rw [h1]
  simp only
  rw [h2]
  unfold pend
  simp only [Res.bind]
  rw [if_pos h3]
theorem lex_code (l : List UInt8) : ∀ q ∈ (lex l).2, q.code = 60 := by
  obtain ⟨T, P, e, h⟩ := lex_inv l
  rw [e]
  exact fun q hq => (h.prob q hq).1

theorem nx_look {T : List Tok} {i : Nat} {x : Int × List UInt8} (h : (T.map look)[i]? = some x) : (nx T i).kind = x.1 ∧ (nx T i).text = x.2 := by
  rw [List.getElem?_map, Option.map_eq_some_iff] at h
  obtain ⟨t, h1, rfl⟩ := h
  unfold nx
  rw [h1]
  exact ⟨rfl, rfl⟩
theorem sim_of {T T' : List Tok} {X Y Z : List (Int × List UInt8)} (h : T.map look = X ++ [(5, [])]) (h' : T'.map look = Y ++ X ++ Z) (hz : Z ≠ []) (hX : ∀ x ∈ X, x.1 ≠ 5) : Sim T T' Y.length X.length := by
  have l1 : T.length = X.length + 1 := by rw [← List.length_map (f := look), h]; simp
  have l2 : T'.length = Y.length + X.length + Z.length := by rw [← List.length_map (f := look), h']; simp; omega
  have lz := List.length_pos_iff.2 hz
  have hx : ∀ i (hi : i < X.length), (T.map look)[i]? = some X[i] := fun i hi => by
    rw [h, List.getElem?_append_left hi, List.getElem?_eq_getElem hi]
  have hx' : ∀ i (hi : i < X.length), (T'.map look)[i + Y.length]? = some X[i] := fun i hi => by
    rw [h', List.getElem?_append_left (by simp; omega), List.getElem?_append_right (by omega), Nat.add_sub_cancel, List.getElem?_eq_getElem hi]
  refine ⟨by omega, fun i hi => ?_, fun i hi => ?_, fun i hi => ?_⟩
  · have e1 := nx_look (hx i hi)
    have e2 := nx_look (hx' i hi)
    exact ⟨e2.1.trans e1.1.symm, e2.2.trans e1.2.symm⟩
  · rcases Nat.eq_or_lt_of_le hi with rfl | hi
    · have : (T.map look)[X.length]? = some (5, []) := by rw [h]; simp
      exact (nx_look this).1
    · rw [nx_out T (by omega)]
  · rw [(nx_look (hx i hi)).1]
    exact hX _ (List.getElem_mem hi)
theorem isB_at {T : List Tok} {i : Nat} {k : Int} {t : List UInt8} (h : (T.map look)[i]? = some (k, t)) (s : List UInt8) : isB T i s = (t == s && (k == 4 || (k == 1 && kwB s))) := by
  unfold isB
  rw [(nx_look h).1, (nx_look h).2]

section
variable {T : List Tok} {kw : List UInt8} {kind : Int} {p : Nat → Res CT} {a n m : Nat} {c c' : CT}
theorem pjoined_one (h : p a = .ok c n) (hn : isB T n kw = false) : pjoined T kw kind p a = .ok c n := by
  unfold pjoined
  rw [h]
  have : ∀ g, pmore T kw p g n = .ok .nil n := by
    intro g
    cases g with
    | zero => rfl
    | succ g => unfold pmore; rw [if_neg (by rw [hn]; decide)]
  simp only [Res.bind]
  rw [this]
  rfl
theorem pjoined_two (h : p a = .ok c n) (hn : isB T n kw = true) (h2 : p (n + 1) = .ok c' m) (hm : isB T m kw = false) : pjoined T kw kind p a = .ok ⟨kind, 0, 0, .one c (.one c' .nil)⟩ m := by
  have hlt := isB_lt T hn
  obtain ⟨g, hg⟩ : ∃ g, T.length - n = g + 1 := ⟨T.length - n - 1, by omega⟩
  have : ∀ g, pmore T kw p g m = .ok .nil m := by
    intro g
    cases g with
    | zero => rfl
    | succ g => unfold pmore; rw [if_neg (by rw [hm]; decide)]
  unfold pjoined
  rw [h]
  simp only [Res.bind]
  rw [hg]
  unfold pmore
  rw [if_pos hn, h2]
  simp only [Res.bind]
  rw [this]
  rfl
end

/-- A condition's tokens in parentheses. -/
def parS (S : List (Int × List UInt8)) : List (Int × List UInt8) := (4, kLP) :: (S ++ [(4, kRP)])
theorem parS_len (S : List (Int × List UInt8)) : (parS S).length = S.length + 2 := by simp [parS]
/-- .. are read as this condition, wherever they stand. -/
theorem unit_par {l : List UInt8} {c : CT} {n : Nat} (h1 : pcond (lex l).1 (lex l).1.length 0 = .ok c n) (h2 : (nx (lex l).1 n).kind = 5)
    {T' : List Tok} {Y Z : List (Int × List UInt8)} (h' : T'.map look = Y ++ parS (lks l) ++ Z) {f d : Nat} (hf : (lex l).1.length ≤ f) (hd : d = Y.length) : punit T' (f + 1) d = .ok c (d + (parS (lks l)).length) := by
  subst hd
  have hT := lex_lks l
  have hk := lks_kind l
  have hs : Sim (lex l).1 T' (Y.length + 1) (lks l).length := by
    have := sim_of (Y := Y ++ [(4, kLP)]) (Z := (4, kRP) :: Z) hT (by rw [h']; simp [parS]) (by simp) hk
    simpa using this
  have g0 : (T'.map look)[Y.length]? = some (4, kLP) := by rw [h']; simp [parS]
  have gN : (T'.map look)[(lks l).length + (Y.length + 1)]? = some (4, kRP) := by
    rw [h', List.getElem?_append_left (by simp [parS]; omega), List.getElem?_append_right (by omega), show (lks l).length + (Y.length + 1) - Y.length = (lks l).length + 1 by omega]
    simp [parS]
  have hn : n = (lks l).length := by
    have := pcond_inN _ hs.ends (lex l).1.length 0
    rw [h1] at this
    have h3 := this.2
    rcases Nat.lt_or_ge n (lks l).length with h4 | h4
    · exact absurd h2 (hs.solid n h4)
    · omega
  subst hn
  have hM : Told (lex l).1 T' (Y.length + 1) ((lks l).length + 1) := fun i hi kw hkw hb => by
    rcases Nat.lt_or_ge i (lks l).length with h4 | h4
    · exact hs.told i h4 kw hkw hb
    · have : i = (lks l).length := by omega
      subst this
      rw [isB_at gN]
      rcases hkw with rfl | rfl <;> rfl
  have hc := pcond_sim hs hM hf h1 (by omega)
  unfold pcond pconj at hc
  unfold punit
  rw [isB_at g0, isB_at g0, if_neg (by decide), if_pos (by decide)]
  rw [Nat.zero_add] at hc
  rw [hc]
  simp only [Res.bind]
  unfold pwant
  rw [isB_at gN, if_pos (by decide)]
  simp only [pwant, Res.map]
  rw [parS_len]
  congr 1
  omega

def inner (l : List UInt8) : List UInt8 := 40 :: (l ++ [10, 41])
theorem inner_app (l r : List UInt8) : inner l ++ r = 40 :: (l ++ 10 :: 41 :: r) := by simp [inner]
theorem lks_inner {l : List UInt8} (r : List UInt8) (h : Clean l) : lks (inner l ++ r) = parS (lks l) ++ lks r := by
  rw [inner_app, lks_par _ _ (.inl rfl), lks_nl _ h, lks_par _ _ (.inr rfl)]
  simp [parS]
theorem clean_inner {l : List UInt8} (r : List UInt8) (h : Clean l) (k : Clean r) : Clean (inner l ++ r) := by
  rw [inner_app]
  exact clean_par _ _ (.inl rfl) (clean_nl h (clean_par _ _ (.inr rfl) k))
theorem clean_empty : Clean [] := by
  intro i hi
  rw [items_nil] at hi
  cases hi
theorem len_lks (l : List UInt8) : (lex l).1.length = (lks l).length + 1 := by rw [← List.length_map (f := look), lex_lks]; simp
def notNot (l : List UInt8) : List UInt8 := kNot ++ 32 :: (kNot ++ 32 :: inner l)
def orAnd (l : List UInt8) : List UInt8 := inner l ++ 32 :: (kOr ++ 32 :: (inner l ++ 32 :: (kAnd ++ 32 :: inner l)))
/-- The law on parentheses, negations and joints, of the parser in plain Lean. -/
theorem law_paren {l : List UInt8} {c : CT} {a : Int} (h : topCond l = (c, a, 0)) :
    topCond (inner l) = (c, 0, 0) ∧ topCond (notNot l) = (cnot (cnot c), 0, 0) ∧ topCond (orAnd l) = (⟨3, 0, 0, .one c (.one ⟨2, 0, 0, .one c (.one c .nil)⟩ .nil)⟩, 0, 0) := by
  obtain ⟨h0, _, n, h1, h2⟩ := topOf_ok h (lex_code l)
  have hc : Clean l := (clean_iff l).1 h0
  have hL := len_lks l
  refine ⟨?_, ?_, ?_⟩
  · have e : inner l = inner l ++ [] := by simp
    have k1 : (lex (inner l)).1.map look = [] ++ parS (lks l) ++ [(5, [])] := by rw [lex_lks, e, lks_inner _ hc, lks_nil]; simp
    have hlen := len_lks (inner l)
    rw [show lks (inner l) = parS (lks l) by rw [e, lks_inner _ hc, lks_nil]; simp, parS_len] at hlen
    have gE : ((lex (inner l)).1.map look)[0 + (parS (lks l)).length]? = some (5, []) := by rw [k1]; simp
    refine topOf_mk (n := 0 + (parS (lks l)).length) ((clean_iff _).2 (by rw [e]; exact clean_inner _ hc clean_empty)) ?_ (nx_look gE).1
    refine pjoined_one (pjoined_one ?_ (by rw [isB_at gE]; rfl)) (by rw [isB_at gE]; rfl)
    have := unit_par h1 h2 (d := 0) (f := (lex (inner l)).1.length - 1) k1 (by omega) rfl
    rwa [show (lex (inner l)).1.length - 1 + 1 = (lex (inner l)).1.length by omega] at this
  · have e : inner l = inner l ++ [] := by simp
    have ek : lks (notNot l) = [(1, kNot), (1, kNot)] ++ parS (lks l) := by
      unfold notNot
      rw [lks_word _ _ (by decide), lks_word _ _ (by decide), e, lks_inner _ hc, lks_nil]
      simp
    have k1 : (lex (notNot l)).1.map look = [(1, kNot), (1, kNot)] ++ parS (lks l) ++ [(5, [])] := by rw [lex_lks, ek]
    have hlen := len_lks (notNot l)
    rw [ek, List.length_append, parS_len] at hlen
    simp only [List.length_cons, List.length_nil] at hlen
    have gE : ((lex (notNot l)).1.map look)[2 + (parS (lks l)).length]? = some (5, []) := by
      rw [k1, List.getElem?_append_right (by simp; omega)]
      simp only [List.length_append, List.length_cons, List.length_nil]
      rw [show 2 + (parS (lks l)).length - (0 + 1 + 1 + (parS (lks l)).length) = 0 by omega]
      rfl
    have g0 : ((lex (notNot l)).1.map look)[0]? = some (1, kNot) := by rw [k1]; simp
    have g1 : ((lex (notNot l)).1.map look)[0 + 1]? = some (1, kNot) := by rw [k1]; simp
    refine topOf_mk (n := 2 + (parS (lks l)).length) ((clean_iff _).2 ?_) ?_ (nx_look gE).1
    · unfold notNot
      exact clean_word _ _ (by decide) (clean_word _ _ (by decide) (by rw [e]; exact clean_inner _ hc clean_empty))
    refine pjoined_one (pjoined_one ?_ (by rw [isB_at gE]; rfl)) (by rw [isB_at gE]; rfl)
    have := unit_par h1 h2 (d := 2) (f := (lex (notNot l)).1.length - 3) k1 (by omega) rfl
    obtain ⟨f, hf⟩ : ∃ f, (lex (notNot l)).1.length = f + 1 + 1 + 1 := ⟨(lex (notNot l)).1.length - 3, by omega⟩
    rw [hf] at this ⊢
    rw [show f + 1 + 1 + 1 - 3 = f by omega] at this
    unfold punit
    rw [isB_at g0, if_pos (by decide)]
    unfold punit
    rw [isB_at g1, if_pos (by decide), this]
    rfl
  · have e : inner l = inner l ++ [] := by simp
    have ek : lks (orAnd l) = parS (lks l) ++ (1, kOr) :: (parS (lks l) ++ (1, kAnd) :: parS (lks l)) := by
      unfold orAnd
      rw [lks_inner _ hc, lks_sp, lks_word _ _ (by decide), lks_inner _ hc, lks_sp, lks_word _ _ (by decide)]
      congr 3
      rw [e, lks_inner _ hc, lks_nil]
      simp
    have k0 : (lex (orAnd l)).1.map look = lks (orAnd l) ++ [(5, [])] := lex_lks _
    have hlen := len_lks (orAnd l)
    generalize hT : (lex (orAnd l)).1 = T' at *
    rw [ek] at k0 hlen
    have hq : (parS (lks l)).length = (lks l).length + 2 := parS_len _
    generalize hS : parS (lks l) = S at *
    have kA : T'.map look = [] ++ S ++ ((1, kOr) :: (S ++ (1, kAnd) :: S) ++ [(5, [])]) := by rw [k0]; simp
    have kB : T'.map look = (S ++ [(1, kOr)]) ++ S ++ ((1, kAnd) :: S ++ [(5, [])]) := by rw [k0]; simp
    have kC : T'.map look = (S ++ (1, kOr) :: (S ++ [(1, kAnd)])) ++ S ++ [(5, [])] := by rw [k0]; simp
    have uA := fun f hf => unit_par h1 h2 (T' := T') (Y := []) (f := f) (d := 0) (by rw [hS]; exact kA) hf rfl
    have uB := fun f hf => unit_par h1 h2 (T' := T') (Y := S ++ [(1, kOr)]) (f := f) (d := S.length + 1) (by rw [hS]; exact kB) hf (by simp)
    have uC := fun f hf => unit_par h1 h2 (T' := T') (Y := S ++ (1, kOr) :: (S ++ [(1, kAnd)])) (f := f) (d := S.length + 1 + S.length + 1) (by rw [hS]; exact kC) hf (by simp; omega)
    rw [hS] at uA uB uC
    have gA : (T'.map look)[0 + S.length]? = some (1, kOr) := by rw [kA]; simp
    have gB : (T'.map look)[S.length + 1 + S.length]? = some (1, kAnd) := by
      rw [kB, List.getElem?_append_right (by simp; omega)]
      simp only [List.length_append, List.length_cons, List.length_nil]
      rw [show S.length + 1 + S.length - (S.length + (0 + 1) + S.length) = 0 by omega]
      rfl
    have gC : (T'.map look)[S.length + 1 + S.length + 1 + S.length]? = some (5, []) := by
      rw [kC, List.getElem?_append_right (by simp; omega)]
      simp only [List.length_append, List.length_cons, List.length_nil]
      rw [show S.length + 1 + S.length + 1 + S.length - (S.length + (S.length + (0 + 1) + 1) + S.length) = 0 by omega]
      rfl
    simp only [List.length_append, List.length_cons] at hlen
    obtain ⟨f, hf⟩ : ∃ f, T'.length = f + 1 := ⟨T'.length - 1, by omega⟩
    have ha : pconj T' T'.length 0 = .ok c (0 + S.length) := by
      rw [hf]
      exact pjoined_one (uA f (by omega)) (by rw [isB_at gA]; rfl)
    have hb : pconj T' T'.length (S.length + 1) = .ok ⟨2, 0, 0, .one c (.one c .nil)⟩ (S.length + 1 + S.length + 1 + S.length) := by
      rw [hf]
      exact pjoined_two (uB f (by omega)) (by rw [isB_at gB]; decide) (uC f (by omega)) (by rw [isB_at gC]; rfl)
    have hres : pcond T' T'.length 0 = .ok ⟨3, 0, 0, .one c (.one ⟨2, 0, 0, .one c (.one c .nil)⟩ .nil)⟩ (S.length + 1 + S.length + 1 + S.length) :=
      pjoined_two ha (by rw [isB_at gA]; decide) (by rw [show 0 + S.length + 1 = S.length + 1 by omega]; exact hb) (by rw [isB_at gC]; rfl)
    refine topOf_mk (n := S.length + 1 + S.length + 1 + S.length) ((clean_iff _).2 ?_) (by rw [hT]; exact hres) (by rw [hT]; exact (nx_look gC).1)
    unfold orAnd
    exact clean_inner _ hc (clean_sp _ (clean_word _ _ (by decide) (clean_inner _ hc (clean_sp _ (clean_word _ _ (by decide) (by rw [e]; exact clean_inner _ hc clean_empty))))))
end Go.Proofs.YticpjdjdimpglaaGreatDoor

/- Plain laws of documents: one element; texts behind one another; white space; problems. No program. -/
namespace Go.Proofs.YticpjdjdimpglaaGreatDoor
set_option linter.unusedVariables false
set_option linter.unusedSimpArgs false

/-- A problem sorted in, behind those with the same offset. -/
def insP (x : Prob) : List Prob → List Prob
  | [] => [x]
  | y :: r => if x.at_ < y.at_ then x :: y :: r else y :: insP x r
def srt (l : List Prob) : List Prob := l.foldl (fun acc x => insP x acc) []
def synP (l : List UInt8) : List Prob := (pdoc (lex l).1 (lex l).1.length 0).2.map fun a => ⟨a, 130⟩
/-- A document's rules and problems. -/
def docR (l : List UInt8) : List RT := (pdoc (lex l).1 (lex l).1.length 0).1
def docP (l : List UInt8) : List Prob := (srt ((lex l).2 ++ synP l)).take 64
theorem insP_len (x : Prob) : ∀ l, (insP x l).length = l.length + 1
  | [] => rfl
  | y :: r => by
    unfold insP
    split
    · rfl
    · simp [insP_len x r]
theorem foldl_insP_len : ∀ (l acc : List Prob), (l.foldl (fun acc x => insP x acc) acc).length = acc.length + l.length
  | [], acc => rfl
  | x :: r, acc => by
    rw [List.foldl_cons, foldl_insP_len r, insP_len, List.length_cons]
    omega
theorem srt_len (l : List Prob) : (srt l).length = l.length := by
  unfold srt
  rw [foldl_insP_len]
  simp
theorem docP_nil {l : List UInt8} (h : (docP l).length = 0) : (lex l).2 = [] ∧ (pdoc (lex l).1 (lex l).1.length 0).2 = [] := by
  unfold docP at h
  rw [List.length_take, srt_len, List.length_append] at h
  unfold synP at h
  rw [List.length_map] at h
  exact ⟨List.eq_nil_of_length_eq_zero (by omega), List.eq_nil_of_length_eq_zero (by omega)⟩
theorem nil_docP {l : List UInt8} (h1 : (lex l).2 = []) (h2 : (pdoc (lex l).1 (lex l).1.length 0).2 = []) : docP l = [] := by
  unfold docP synP
  rw [h1, h2]
  rfl
theorem lex_end (l : List UInt8) : ∀ i, (lks l).length ≤ i → (nx (lex l).1 i).kind = 5 := (sim_of (Y := []) (Z := [(5, [])]) (lex_lks l) (by rw [lex_lks l]; rfl) (by simp) (lks_kind l)).ends
theorem lex_solid (l : List UInt8) : ∀ i, i < (lks l).length → (nx (lex l).1 i).kind ≠ 5 := (sim_of (Y := []) (Z := [(5, [])]) (lex_lks l) (by rw [lex_lks l]; rfl) (by simp) (lks_kind l)).solid
theorem pdoc_end {T : List Tok} {a : Nat} (h : (nx T a).kind = 5) (f : Nat) : pdoc T f a = ([], []) := by
  cases f with
  | zero => rfl
  | succ f => rw [pdoc_succ, if_pos h]

/-- The law on documents of one element. -/
theorem law_one_ok {l : List UInt8} {r : RT} {a : Int} (h : topRules l = (r, a, 0)) : a = 0 ∧ docR l = [r] ∧ docP l = [] := by
  obtain ⟨h0, ha, n, h1, h2⟩ := topOf_ok h (lex_code l)
  have hin := prules_in (lex l).1 0
  rw [h1] at hin
  have hl := len_lks l
  obtain ⟨f, hf⟩ : ∃ f, (lex l).1.length = f + 1 := ⟨_, hl⟩
  have hin2 := prules_inN _ (lex_end l) 0
  rw [h1] at hin2
  have h0k : (nx (lex l).1 0).kind ≠ 5 := lex_solid l 0 (by have := hin2.1; have := hin2.2; omega)
  have e : pdoc (lex l).1 (lex l).1.length 0 = ([r], []) := by
    rw [hf, pdoc_succ, if_neg h0k, h1]
    simp only
    rw [pdoc_end h2]
  exact ⟨ha, by unfold docR; rw [e], nil_docP h0 (by rw [e])⟩
theorem law_one_no {l : List UInt8} {r : RT} {a e : Int} (h : topRules l = (r, a, e)) (he : e ≠ 0) : (docP l).length > 0 ∨ (docR l).length ≠ 1 := by
  rcases Nat.eq_zero_or_pos (docP l).length with h0 | h0
  · right
    intro h1
    obtain ⟨g1, g2⟩ := docP_nil h0
    unfold docR at h1
    obtain ⟨f, hf⟩ : ∃ f, (lex l).1.length = f + 1 := ⟨_, len_lks l⟩
    apply he
    have : topRules l = ((prules (lex l).1 0).bind (fun x _ => Res.ok x 0) |> fun q => match q with | .ok x _ => x | .bad _ => RT.zero, 0, 0) := by
      rw [hf, pdoc_succ] at h1 g2
      split at h1
      · simp at h1
      · next hk =>
        rw [if_neg hk] at g2
        cases hr : prules (lex l).1 0 with
        | bad n => rw [hr] at g2; simp at g2
        | ok x n =>
          rw [hr] at g2 h1
          simp only [List.length_cons] at g2 h1
          have hn : (nx (lex l).1 n).kind = 5 := by
            have hin := prules_inN _ (lex_end l) 0
            rw [hr] at hin
            rcases Nat.lt_or_ge n (lks l).length with h3 | h3
            · exfalso
              have hk2 := lex_solid l n h3
              have hl := len_lks l
              obtain ⟨f', rfl⟩ : ∃ q, f = q + 1 := ⟨f - 1, by omega⟩
              rw [pdoc_succ, if_neg hk2] at h1 g2
              cases hr2 : prules (lex l).1 n with
              | bad m => rw [hr2] at g2; simp at g2
              | ok y m => rw [hr2] at h1; simp at h1
            · exact lex_end l n h3
          exact topOf_mk (n := n) g1 hr hn
    rw [h] at this
    simp only [Prod.mk.injEq] at this
    exact this.2.2
  · exact .inl h0

/-- The law on texts without problems, one behind the other. -/
theorem law_behind {u v : List UInt8} (hu : (docP u).length = 0) (hv : (docP v).length = 0) : docR (u ++ 10 :: v) = docR u ++ docR v ∧ docP (u ++ 10 :: v) = [] := by
  obtain ⟨u1, u2⟩ := docP_nil hu
  obtain ⟨v1, v2⟩ := docP_nil hv
  have cu := (clean_iff u).1 u1
  have cv := (clean_iff v).1 v1
  have hT' : (lex (u ++ 10 :: v)).1.map look = lks u ++ lks v ++ [(5, [])] := by rw [lex_lks, lks_nl v cu]
  have s1 : Sim (lex u).1 (lex (u ++ 10 :: v)).1 0 (lks u).length := sim_of (Y := []) (Z := lks v ++ [(5, [])]) (lex_lks u) (by rw [hT']; simp) (by simp) (lks_kind u)
  have s2 : Sim (lex v).1 (lex (u ++ 10 :: v)).1 (lks u).length (lks v).length := sim_of (Y := lks u) (Z := [(5, [])]) (lex_lks v) hT' (by simp) (lks_kind v)
  have hlu := len_lks u
  have hlv := len_lks v
  obtain ⟨f1, g1, e1⟩ := pdoc_sim s1 (by omega) (lex u).1.length 0 (docR u) (Nat.zero_le _) (by omega) (Prod.ext rfl u2) (lex (u ++ 10 :: v)).1.length (by omega)
  obtain ⟨f2, g2, e2⟩ := pdoc_sim s2 (by omega) (lex v).1.length 0 (docR v) (Nat.zero_le _) (by omega) (Prod.ext rfl v2) f1 (by omega)
  have he : (nx (lex (u ++ 10 :: v)).1 ((lks v).length + (lks u).length)).kind = 5 := by
    have : ((lex (u ++ 10 :: v)).1.map look)[(lks v).length + (lks u).length]? = some (5, []) := by
      rw [hT', List.getElem?_append_right (by simp; omega)]
      simp [Nat.add_comm]
    exact (nx_look this).1
  rw [pdoc_end he] at e2
  rw [Nat.zero_add] at e2
  rw [show (lks u).length + 0 = (lks u).length by omega, e2] at e1
  simp only [Nat.zero_add, List.append_nil] at e1
  have e1' : pdoc (lex (u ++ 10 :: v)).1 (lex (u ++ 10 :: v)).1.length 0 = (docR u ++ docR v, []) := e1
  refine ⟨?_, nil_docP ((clean_iff _).2 (clean_nl cu cv)) (by rw [e1'])⟩
  show (pdoc (lex (u ++ 10 :: v)).1 (lex (u ++ 10 :: v)).1.length 0).1 = _
  rw [e1']

section
variable {T T' : List Tok} (h : T.map look = T'.map look)
include h
theorem nx_alike (i : Nat) : (nx T' i).kind = (nx T i).kind ∧ (nx T' i).text = (nx T i).text := by
  have hi : (T.map look)[i]? = (T'.map look)[i]? := by rw [h]
  rw [List.getElem?_map, List.getElem?_map] at hi
  unfold nx
  cases e : T[i]? with
  | none =>
    rw [e] at hi
    cases e' : T'[i]? with
    | none => exact ⟨rfl, rfl⟩
    | some t' => rw [e'] at hi; cases hi
  | some t =>
    rw [e] at hi
    cases e' : T'[i]? with
    | none => rw [e'] at hi; cases hi
    | some t' =>
      rw [e'] at hi
      have hi' : look t = look t' := by simpa using hi
      exact ⟨(congrArg Prod.fst hi').symm, (congrArg Prod.snd hi').symm⟩
theorem len_alike : T'.length = T.length := by
  have := congrArg List.length h
  simpa using this.symm
theorem isB_alike : isB T' = isB T := by
  funext i s
  exact isB_same (nx_alike h i).1 (nx_alike h i).2 s
theorem pwant_alike : pwant T' = pwant T := by
  funext ws
  induction ws with
  | nil => rfl
  | cons s r ih =>
    funext a
    unfold pwant
    rw [isB_alike h, ih]
theorem pname_alike : pname T' = pname T := by
  funext a
  unfold pname
  rw [(nx_alike h a).1, (nx_alike h a).2]
theorem pint_alike : pint T' = pint T := by
  funext a
  unfold pint
  rw [(nx_alike h a).1, (nx_alike h a).2]
theorem pchoose_alike : pchoose T' = pchoose T := by
  funext ws a
  unfold pchoose
  rw [(nx_alike h a).2, isB_alike h]
theorem pcomp_alike : pcomp T' = pcomp T := by
  funext a
  unfold pcomp
  rw [pchoose_alike h, pint_alike h]
theorem pmore_alike : pmore T' = pmore T := by
  funext kw p g
  induction g with
  | zero => rfl
  | succ g ih =>
    funext a
    unfold pmore
    rw [isB_alike h, ih]
theorem pjoined_alike : pjoined T' = pjoined T := by
  funext kw kind p a
  unfold pjoined
  rw [pmore_alike h, len_alike h]
theorem punit_alike : punit T' = punit T := by
  funext f
  induction f with
  | zero => rfl
  | succ f ih =>
    funext a
    unfold punit
    rw [isB_alike h, ih, pjoined_alike h, pwant_alike h, pcomp_alike h]
theorem pcond_alike : pcond T' = pcond T := by
  funext f
  unfold pcond pconj
  rw [punit_alike h, pjoined_alike h]
theorem pcrit_alike : pcrit T' = pcrit T := by
  funext a
  unfold pcrit
  rw [pchoose_alike h]
theorem psteps_alike : psteps T' = psteps T := by
  funext f
  induction f with
  | zero => rfl
  | succ f ih =>
    funext a
    unfold psteps
    rw [isB_alike h, ih, pcond_alike h, pwant_alike h, pcrit_alike h, len_alike h]
theorem pzone_alike : pzone T' = pzone T := by
  funext a
  unfold pzone
  rw [isB_alike h, pname_alike h, pint_alike h, pwant_alike h]
theorem pzones_alike : pzones T' = pzones T := by
  funext f
  induction f with
  | zero => rfl
  | succ f ih =>
    funext a
    unfold pzones
    rw [isB_alike h, ih, pzone_alike h]
theorem prules_alike : prules T' = prules T := by
  funext a
  unfold prules
  rw [pname_alike h, pint_alike h, pwant_alike h, psteps_alike h, pzones_alike h, len_alike h]
end

theorem pend_alike {T T' : List Tok} (h : T.map look = T'.map look) {α : Type} (r : Res α) : pend T' r = pend T r := by
  unfold pend
  congr 1
  funext x n
  rw [(nx_alike h n).1]
/-- The law on white space: two texts with the same kinds and texts of tokens. -/
theorem law_space {u v : List UInt8} (hu : (lex u).2 = []) (hv : (lex v).2 = []) (h : (lex u).1.map look = (lex v).1.map look) :
    (∃ r, topRules u = (r, 0, 0) ∧ topRules v = (r, 0, 0)) ∨ ∃ n, n < (lex u).1.length ∧ topRules u = (RT.zero, (nx (lex u).1 n).at_, 130) ∧ topRules v = (RT.zero, (nx (lex v).1 n).at_, 130) := by
  have e1 : topRules u = match pend (lex u).1 (prules (lex u).1 0) with | .ok x _ => (x, 0, 0) | .bad n => (RT.zero, (nx (lex u).1 n).at_, 130) := by
    unfold topRules topOf
    rw [hu]
    simp only
    cases pend (lex u).1 (prules (lex u).1 0) <;> rfl
  have e2 : topRules v = match pend (lex u).1 (prules (lex u).1 0) with | .ok x _ => (x, 0, 0) | .bad n => (RT.zero, (nx (lex v).1 n).at_, 130) := by
    unfold topRules topOf
    rw [hv]
    simp only
    rw [pend_alike h, prules_alike h]
    cases pend (lex u).1 (prules (lex u).1 0) <;> rfl
  cases hr : pend (lex u).1 (prules (lex u).1 0) with
  | ok x n =>
    left
    refine ⟨x, ?_, ?_⟩
    · rw [e1, hr]
    · rw [e2, hr]
  | bad n =>
    right
    refine ⟨n, ?_, by rw [e1, hr], by rw [e2, hr]⟩
    have hl := len_lks u
    have hin := prules_inN _ (lex_end u) 0
    unfold pend at hr
    cases hp : prules (lex u).1 0 with
    | ok x m =>
      rw [hp] at hr hin
      simp only [Res.bind] at hr
      split at hr
      · cases hr
      · cases hr
        have := hin.2
        omega
    | bad m =>
      rw [hp] at hr hin
      cases hr
      have := hin.2
      omega
/-- The offsets of a text's tokens rise. -/
theorem lex_rise (l : List UInt8) : (lex l).1.Pairwise fun x y => x.at_ < y.at_ := by
  obtain ⟨T, P, e, h⟩ := lex_inv l
  rw [e]
  show (T ++ [(⟨5, [], l.length⟩ : Tok)]).Pairwise _
  rw [List.pairwise_append]
  refine ⟨h.tinc, List.pairwise_singleton _ _, fun x hx y hy => ?_⟩
  obtain rfl := List.mem_singleton.1 hy
  exact (h.tok x hx).2

/-- Sorted by offsets. -/
def Sorted (l : List Prob) : Prop := l.Pairwise fun x y => x.at_ ≤ y.at_
theorem insP_mem (x : Prob) : ∀ (l : List Prob) (y : Prob), y ∈ insP x l ↔ y = x ∨ y ∈ l
  | [], y => by simp [insP]
  | z :: r, y => by
    unfold insP
    split
    · simp
    · rw [List.mem_cons, insP_mem x r, List.mem_cons]
      constructor
      · rintro (h | h | h) <;> simp [h]
      · rintro (h | h | h) <;> simp [h]
theorem insP_sorted (x : Prob) : ∀ {l : List Prob}, Sorted l → Sorted (insP x l)
  | [], _ => List.pairwise_singleton _ _
  | y :: r, h => by
    unfold Sorted at *
    unfold insP
    rw [List.pairwise_cons] at h
    split
    · next hlt =>
      rw [List.pairwise_cons]
      refine ⟨fun z hz => ?_, List.pairwise_cons.2 h⟩
      rcases List.mem_cons.1 hz with rfl | hz
      · omega
      · have := h.1 z hz
        omega
    · next hlt =>
      rw [List.pairwise_cons]
      refine ⟨fun z hz => ?_, insP_sorted x h.2⟩
      rcases (insP_mem x r z).1 hz with rfl | hz
      · omega
      · exact h.1 z hz
theorem foldl_sorted : ∀ (l : List Prob) {acc : List Prob}, Sorted acc → Sorted (l.foldl (fun acc x => insP x acc) acc)
  | [], _, h => h
  | x :: r, _, h => foldl_sorted r (insP_sorted x h)
theorem srt_sorted (l : List Prob) : Sorted (srt l) := foldl_sorted l List.Pairwise.nil
theorem foldl_mem : ∀ (l acc : List Prob) (y : Prob), y ∈ l.foldl (fun acc x => insP x acc) acc ↔ y ∈ acc ∨ y ∈ l
  | [], acc, y => by simp
  | x :: r, acc, y => by
    rw [List.foldl_cons, foldl_mem r, insP_mem, List.mem_cons]
    constructor
    · rintro ((h | h) | h) <;> simp [h]
    · rintro (h | h | h) <;> simp [h]
theorem srt_mem (l : List Prob) (y : Prob) : y ∈ srt l ↔ y ∈ l := by
  unfold srt
  rw [foldl_mem]
  simp
theorem insP_sub (x : Prob) : ∀ l : List Prob, l.Sublist (insP x l)
  | [] => List.nil_sublist _
  | y :: r => by
    unfold insP
    split
    · exact List.sublist_cons_self _ _
    · exact (insP_sub x r).cons_cons y
theorem foldl_sub : ∀ (l acc : List Prob), acc.Sublist (l.foldl (fun acc x => insP x acc) acc)
  | [], acc => List.Sublist.refl _
  | x :: r, acc => (insP_sub x acc).trans (foldl_sub r _)
theorem insP_last (x : Prob) : ∀ (l : List Prob), (∀ y ∈ l, y.at_ ≤ x.at_) → insP x l = l ++ [x]
  | [], _ => rfl
  | y :: r, h => by
    unfold insP
    rw [if_neg (by have := h y (by simp); omega), insP_last x r (fun z hz => h z (by simp [hz]))]
    rfl
theorem foldl_done : ∀ (l acc : List Prob), Sorted (acc ++ l) → l.foldl (fun acc x => insP x acc) acc = acc ++ l
  | [], acc, _ => by simp
  | x :: r, acc, h => by
    have e : acc ++ x :: r = (acc ++ [x]) ++ r := by simp
    rw [List.foldl_cons, insP_last x acc (fun y hy => ?_), foldl_done r _ (by rw [← e]; exact h), e]
    unfold Sorted at h
    rw [List.pairwise_append] at h
    exact h.2.2 y hy x (by simp)
theorem srt_done {l : List Prob} (h : Sorted l) : srt l = l := by
  unfold srt
  rw [foldl_done l [] (by simpa using h)]
  rfl
theorem srt_app (l m : List Prob) : srt (l ++ m) = m.foldl (fun acc x => insP x acc) (srt l) := by
  unfold srt
  rw [List.foldl_append]
theorem lex_sorted (l : List UInt8) : Sorted (lex l).2 := by
  obtain ⟨T, P, e, h⟩ := lex_inv l
  rw [e]
  exact h.pinc.imp fun hxy => Int.le_of_lt hxy
/-- How many of the first list's are found in the second, one behind the other. -/
def found [DecidableEq Prob] : List Prob → List Prob → Nat
  | [], _ => 0
  | _ :: _, [] => 0
  | x :: r, y :: s => if x = y then found r s + 1 else found (x :: r) s
theorem found_sub [DecidableEq Prob] : ∀ (s r : List Prob), r.Sublist s → found r s = r.length
  | _, [], _ => by unfold found; rfl
  | [], x :: r, h => by cases h
  | y :: s, x :: r, h => by
    unfold found
    split
    · next e =>
      subst e
      rw [found_sub s r (by simpa using h)]
      rfl
    · next e =>
      rw [found_sub s (x :: r) ?_]
      rcases List.sublist_cons_iff.1 h with h | ⟨r', e', _⟩
      · exact h
      · simp only [List.cons.injEq] at e'
        exact absurd e'.1 e
theorem pdoc_at (l : List UInt8) : ∀ (f a : Nat), ∀ x ∈ (pdoc (lex l).1 f a).2, 0 ≤ x ∧ x ≤ l.length
  | 0, a, x, hx => by cases hx
  | f + 1, a, x, hx => by
    rw [pdoc_succ] at hx
    split at hx
    · cases hx
    · split at hx
      · exact pdoc_at l f _ x hx
      · next n _ =>
        rcases List.mem_cons.1 hx with rfl | hx
        · obtain ⟨T, P, e, h⟩ := lex_inv l
          rw [e]
          unfold nx
          cases hq : (T ++ [(⟨5, [], l.length⟩ : Tok)])[n]? with
          | none => simp
          | some t =>
            have ht : t ∈ T ++ [(⟨5, [], l.length⟩ : Tok)] := List.mem_of_getElem? hq
            rcases List.mem_append.1 ht with ht | ht
            · obtain ⟨⟨b, h1, h2, _⟩, _⟩ := h.tok t ht
              simp only [Option.getD]
              omega
            · obtain rfl := List.mem_singleton.1 ht
              simp
        · exact pdoc_at l f _ x hx
/-- The law on problems. -/
theorem law_probs [DecidableEq Prob] (l : List UInt8) : (docP l).length ≤ 64 ∧ Sorted (docP l) ∧ (∀ p ∈ docP l, 0 ≤ p.at_ ∧ p.at_ ≤ l.length ∧ (p.code = 60 ∨ p.code = 130)) ∧
    (found (lex l).2 (docP l) = (lex l).2.length ∨ (docP l).length = 64) := by
  have hle : (docP l).length ≤ 64 := by unfold docP; rw [List.length_take]; omega
  refine ⟨hle, ?_, ?_, ?_⟩
  · exact (srt_sorted _).sublist (List.take_sublist _ _)
  · intro p hp
    have h1 := (srt_mem _ p).1 (List.mem_of_mem_take hp)
    rcases List.mem_append.1 h1 with h2 | h2
    · obtain ⟨T, P, e, h⟩ := lex_inv l
      rw [e] at h2
      obtain ⟨g1, g2, g3, _⟩ := h.prob p h2
      exact ⟨g2, by omega, .inl g1⟩
    · obtain ⟨x, hx, rfl⟩ := List.mem_map.1 h2
      obtain ⟨g1, g2⟩ := pdoc_at l _ _ x hx
      exact ⟨g1, g2, .inr rfl⟩
  · rcases Nat.lt_or_ge (docP l).length 64 with h | h
    · left
      apply found_sub
      have e : docP l = srt ((lex l).2 ++ synP l) := by
        unfold docP at h ⊢
        rw [List.length_take] at h
        exact List.take_of_length_le (by omega)
      rw [e, srt_app, srt_done (lex_sorted l)]
      exact foldl_sub _ _
    · right
      omega
/-- A sorted list that has the same problems at each offset, in the same order, is the sorted list. -/
theorem sorted_unique : ∀ (l m : List Prob), Sorted l → Sorted m → (∀ k : Int, l.filter (fun p => p.at_ == k) = m.filter (fun p => p.at_ == k)) → l = m
  | [], [], _, _, _ => rfl
  | [], y :: m, _, _, h => by
    have := h y.at_
    rw [List.filter_cons_of_pos (by simp)] at this
    cases this
  | x :: l, [], _, _, h => by
    have := h x.at_
    rw [List.filter_cons_of_pos (by simp)] at this
    cases this
  | x :: l, y :: m, hl, hm, h => by
    have hxy : x.at_ = y.at_ := by
      have h1 : y.at_ ≤ x.at_ := by
        have := h x.at_
        rw [List.filter_cons_of_pos (by simp)] at this
        have hx : x ∈ (y :: m).filter (fun p => p.at_ == x.at_) := by rw [← this]; simp
        have hx' := (List.mem_filter.1 hx).1
        rcases List.mem_cons.1 hx' with e | e
        · rw [e]; omega
        · exact (List.pairwise_cons.1 hm).1 x e
      have h2 : x.at_ ≤ y.at_ := by
        have := h y.at_
        rw [List.filter_cons_of_pos (a := y) (by simp)] at this
        have hy : y ∈ (x :: l).filter (fun p => p.at_ == y.at_) := by rw [this]; simp
        have hy' := (List.mem_filter.1 hy).1
        rcases List.mem_cons.1 hy' with e | e
        · rw [e]; omega
        · exact (List.pairwise_cons.1 hl).1 y e
      omega
    have h0 := h x.at_
    rw [List.filter_cons_of_pos (by simp), List.filter_cons_of_pos (by simp [hxy])] at h0
    simp only [List.cons.injEq] at h0
    obtain ⟨rfl, h0⟩ := h0
    congr 1
    refine sorted_unique l m (List.pairwise_cons.1 hl).2 (List.pairwise_cons.1 hm).2 fun k => ?_
    by_cases hk : x.at_ = k
    · subst hk
      exact h0
    · have := h k
      rwa [List.filter_cons_of_neg (by simpa using hk), List.filter_cons_of_neg (by simpa using hk)] at this
theorem insP_filter (x : Prob) (k : Int) : ∀ {l : List Prob}, Sorted l → (insP x l).filter (fun p => p.at_ == k) = l.filter (fun p => p.at_ == k) ++ [x].filter (fun p => p.at_ == k)
  | [], _ => by simp [insP]
  | y :: r, h => by
    have h' := List.pairwise_cons.1 h
    unfold insP
    split
    · next hlt =>
      by_cases hk : x.at_ = k
      · rw [List.filter_cons_of_pos (by simpa using hk)]
        have e : (y :: r).filter (fun p => p.at_ == k) = [] := by
          rw [List.filter_eq_nil_iff]
          intro z hz
          rcases List.mem_cons.1 hz with rfl | hz
          · simp; omega
          · have := h'.1 z hz
            simp; omega
        rw [e]
        simp [hk]
      · rw [List.filter_cons_of_neg (by simpa using hk), List.filter_cons_of_neg (a := x) (by simpa using hk)]
        simp
    · by_cases hk : y.at_ = k
      · rw [List.filter_cons_of_pos (by simpa using hk), List.filter_cons_of_pos (by simpa using hk), insP_filter x k h'.2]
        rfl
      · rw [List.filter_cons_of_neg (by simpa using hk), List.filter_cons_of_neg (by simpa using hk), insP_filter x k h'.2]
theorem srt_filter (k : Int) : ∀ (l acc : List Prob), Sorted acc → (l.foldl (fun acc x => insP x acc) acc).filter (fun p => p.at_ == k) = acc.filter (fun p => p.at_ == k) ++ l.filter (fun p => p.at_ == k)
  | [], acc, _ => by simp
  | x :: r, acc, h => by
    rw [List.foldl_cons, srt_filter k r _ (insP_sorted x h), insP_filter x k h, List.append_assoc, ← List.filter_append]
    rfl
theorem srt_unique {l m : List Prob} (h : Sorted m) (hf : ∀ k : Int, m.filter (fun p => p.at_ == k) = l.filter (fun p => p.at_ == k)) : m = srt l := by
  refine sorted_unique m (srt l) h (srt_sorted l) fun k => ?_
  rw [hf k]
  unfold srt
  rw [srt_filter k l [] List.Pairwise.nil]
  rfl
end Go.Proofs.YticpjdjdimpglaaGreatDoor

/- Plain law: FormatCondParses. A printed condition is parsed to its core, and that is printed the same. No program. -/
namespace Go.Proofs.YticpjdjdimpglaaGreatDoor
set_option linter.unusedVariables false
set_option linter.unusedSimpArgs false

theorem at_of {T : List Tok} {X ts Y : List (Int × List UInt8)} (h : T.map look = X ++ ts ++ Y) : At T X.length ts := by
  intro i x hx
  have hi : i < ts.length := by
    rcases Nat.lt_or_ge i ts.length with h1 | h1
    · exact h1
    · rw [List.getElem?_eq_none h1] at hx; cases hx
  exact nx_look (by rw [h, List.append_assoc, List.getElem?_append_right (by omega), Nat.add_sub_cancel_left, List.getElem?_append_left hi]; exact hx)
theorem isB_end {T : List Tok} {a : Nat} (h : (nx T a).kind = 5) (s : List UInt8) : isB T a s = false := by
  unfold isB
  rw [h]
  simp
/-- A text that reads as a valid condition's tokens. -/
theorem top_text {c : CT} (h : okC c = true) (hd : dpt c ≤ 50) : topCond (ftext 100 c) = (cores c, 0, 0) := by
  have hr := (reads_text 100 c h [] rfl).1
  have hl : lks (ftext 100 c) = ptok 100 c := by have := hr.1; rw [lks_nil] at this; simpa using this
  have hcl : Clean (ftext 100 c) := by have := hr.2 clean_empty; simpa using this
  have hm : (lex (ftext 100 c)).1.map look = [] ++ ptok 100 c ++ [(5, [])] := by rw [lex_lks, hl]; rfl
  have hat := at_of hm
  have hend : (nx (lex (ftext 100 c)).1 (ptok 100 c).length).kind = 5 := by
    have := at_of (X := ptok 100 c) (ts := [(5, [])]) (Y := []) (T := (lex (ftext 100 c)).1) (by rw [hm]; simp)
    exact (At.head this).1.1
  have hp := (parse_all 100).2.2 c h (by omega) (lex (ftext 100 c)).1 0 (lex (ftext 100 c)).1.length (by omega) hat (by rw [Nat.zero_add]; exact isB_end hend _) (by rw [Nat.zero_add]; exact isB_end hend _)
  rw [Nat.zero_add] at hp
  exact topOf_mk ((clean_iff _).2 hcl) hp hend
theorem core_cor1 : ∀ (ps : CF) (k v n : Int), core (cor1 ps k v n) = cor1 ps k v n
  | .nil, k, v, n => by rw [cor1]; rfl
  | .cons k' v' n' ps' r', k, v, n => by
    by_cases h : (k = 2 ∨ k = 3) ∧ r' = .nil
    · rw [cor1, if_pos h]
      exact core_cor1 ps' k' v' n'
    · rw [cor1, if_neg h]
      show coreF k v n (.one (cor1 ps' k' v' n') (corF r')) = _
      unfold CF.one
      rw [coreF, if_neg]
      rintro ⟨h1, h2⟩
      refine h ⟨h1, ?_⟩
      cases r' with
      | nil => rfl
      | cons => rw [corF] at h2; cases h2
theorem core_cores (c : CT) : core (cores c) = cores c := core_cor1 c.ps c.k c.v c.n
theorem toL_ofL : ∀ l : List CT, (CF.ofL l).toL = l
  | [] => rfl
  | c :: r => by rw [CF.ofL, CF.one, CF.toL, toL_ofL r]
theorem cores_parts (c : CT) : (cores c).ps.toL = (core c).ps.toL.map cores := by rw [cores_def, corF_list, toL_ofL]
theorem text_cores : ∀ (f : Nat) (c : CT), ftext f (cores c) = ftext f c ∧ foper f (cores c) = foper f c
  | 0, c => ⟨rfl, rfl⟩
  | f + 1, c => by
    have ih := text_cores f
    have hk : (cores c).k = (core c).k ∧ (cores c).v = (core c).v ∧ (cores c).n = (core c).n := by rw [cores_def]; exact ⟨rfl, rfl, rfl⟩
    have hop : ∀ l : List CT, (l.map cores).map (foper f) = l.map (foper f) := fun l => by rw [List.map_map]; exact List.map_congr_left fun p _ => (ih p).2
    have hor : ∀ l : List CT, (l.map cores).map (fun p => if (core p).k = 3 then foper f p else ftext f p) = l.map (fun p => if (core p).k = 3 then foper f p else ftext f p) := fun l => by
      rw [List.map_map]
      refine List.map_congr_left fun p _ => ?_
      show (if (core (cores p)).k = 3 then foper f (cores p) else ftext f (cores p)) = _
      rw [core_cores, (ih p).1, (ih p).2, show (cores p).k = (core p).k by rw [cores_def]]
    refine ⟨?_, ?_⟩
    · unfold ftext
      simp only
      rw [core_cores, hk.1, hk.2.1, hk.2.2, cores_parts, hop, hor]
      congr 1
      congr 1
      cases (core c).ps.toL with
      | nil => rfl
      | cons p r => simp only [List.map_cons]; rw [(ih p).2]
    · unfold foper
      simp only
      have e1 : ftext f (core c) = ftext f c := by
        cases f with
        | zero => rfl
        | succ f => unfold ftext; simp only [core_idem]
      rw [core_cores, hk.1, (ih c).1, e1]
mutual
theorem corF_ok : ∀ F : CF, F.okB = true → (corF F).okB = true ∧ (corF F).num = F.num ∧ (corF F).cnt ≤ F.cnt ∧ (corF F).dep ≤ F.dep
  | .nil, _ => by rw [corF]; exact ⟨rfl, rfl, Nat.le_refl _, Nat.le_refl _⟩
  | .cons k v n ps r, h => by
    have e : (CF.one ⟨k, v, n, ps⟩ r).okB = true := h
    rw [okB_cons, Bool.and_eq_true] at e
    obtain ⟨h1, h2, h3⟩ := cor1_ok ps k v n e.1
    obtain ⟨g1, g2, g3, g4⟩ := corF_ok r e.2
    rw [corF]
    refine ⟨by rw [okB_cons, h1, g1]; rfl, ?_, ?_, ?_⟩
    · show (corF r).num + 1 = r.num + 1
      rw [g2]
    · show (cor1 ps k v n).ps.cnt + 1 + (corF r).cnt ≤ ps.cnt + 1 + r.cnt
      omega
    · show max ((cor1 ps k v n).ps.dep + 1) (corF r).dep ≤ max (ps.dep + 1) r.dep
      omega
theorem cor1_ok : ∀ (ps : CF) (k v n : Int), okC ⟨k, v, n, ps⟩ = true → okC (cor1 ps k v n) = true ∧ (cor1 ps k v n).ps.cnt ≤ ps.cnt ∧ (cor1 ps k v n).ps.dep ≤ ps.dep
  | .nil, k, v, n, h => by rw [cor1]; exact ⟨h, Nat.le_refl _, Nat.le_refl _⟩
  | .cons k' v' n' ps' r', k, v, n, h => by
    by_cases hs : (k = 2 ∨ k = 3) ∧ r' = .nil
    · rw [cor1, if_pos hs]
      have hk' : okC ⟨k', v', n', ps'⟩ = true := by
        rcases okC_cases h with h3 | h3 | h3
        · have := h3.1; simp only at this; omega
        · have := h3.1; simp only at this; omega
        · exact okB_mem h3.2.2.2.2.2 ⟨k', v', n', ps'⟩ (by simp [CF.toL])
      obtain ⟨h1, h2, h3⟩ := cor1_ok ps' k' v' n' hk'
      have e1 : (CF.cons k' v' n' ps' r').cnt = ps'.cnt + 1 + r'.cnt := rfl
      have e2 : (CF.cons k' v' n' ps' r').dep = max (ps'.dep + 1) r'.dep := rfl
      exact ⟨h1, by omega, by omega⟩
    · rw [cor1, if_neg hs]
      have hne : ¬ k = 1 := by
        intro e
        rcases okC_cases h with h3 | h3 | h3
        · cases h3.2.2.2.2.2
        · have := h3.1; simp only at this; omega
        · have := h3.1; simp only at this; omega
      have hF : (CF.cons k' v' n' ps' r').okB = true := by
        rcases okC_cases h with h3 | h3 | h3
        · cases h3.2.2.2.2.2
        · exact h3.2.2.2.2
        · exact h3.2.2.2.2.2
      have e : (CF.one ⟨k', v', n', ps'⟩ r').okB = true := hF
      rw [okB_cons, Bool.and_eq_true] at e
      obtain ⟨h1, h2, h3⟩ := cor1_ok ps' k' v' n' e.1
      obtain ⟨g1, g2, g3, g4⟩ := corF_ok r' e.2
      have hok : (CF.one (cor1 ps' k' v' n') (corF r')).okB = true := by rw [okB_cons, h1, g1]; rfl
      have hnum : (CF.one (cor1 ps' k' v' n') (corF r')).num = (CF.cons k' v' n' ps' r').num := by show (corF r').num + 1 = r'.num + 1; rw [g2]
      refine ⟨?_, ?_, ?_⟩
      · rw [okC_def] at h ⊢
        rw [if_neg hne] at h ⊢
        rw [hnum, hok]
        rw [hF] at h
        exact h
      · show (cor1 ps' k' v' n').ps.cnt + 1 + (corF r').cnt ≤ ps'.cnt + 1 + r'.cnt
        omega
      · show max ((cor1 ps' k' v' n').ps.dep + 1) (corF r').dep ≤ max (ps'.dep + 1) r'.dep
        omega
end
theorem tcond_zero {c : CT} (h : tcond c = 0) : (CF.one c .nil).cnt ≤ 256 ∧ (CF.one c .nil).dep ≤ 17 ∧ okC c = true := by
  unfold tcond at h
  split at h
  · omega
  · next h1 =>
    split at h
    · next h2 => exact ⟨by omega, by omega, h2⟩
    · omega
theorem tcond_cores {c : CT} (h : tcond c = 0) : tcond (cores c) = 0 := by
  obtain ⟨h1, h2, h3⟩ := tcond_zero h
  obtain ⟨g1, g2, g3⟩ := cor1_ok c.ps c.k c.v c.n h3
  have e1 : (CF.one c .nil).cnt = c.ps.cnt + 1 + 0 := rfl
  have e2 : (CF.one c .nil).dep = max (c.ps.dep + 1) 0 := rfl
  have e3 : (CF.one (cores c) .nil).cnt = (cores c).ps.cnt + 1 + 0 := rfl
  have e4 : (CF.one (cores c) .nil).dep = max ((cores c).ps.dep + 1) 0 := rfl
  have g2' : (cores c).ps.cnt ≤ c.ps.cnt := g2
  have g3' : (cores c).ps.dep ≤ c.ps.dep := g3
  unfold tcond
  rw [if_neg (by omega), if_pos]
  exact g1
/-- FormatCondParses, in plain Lean. -/
theorem law_condparses {c : CT} {s : List UInt8} (h : fcond c = (s, 0)) : topCond s = (cores c, 0, 0) ∧ fcond (cores c) = (s, 0) := by
  unfold fcond at h
  by_cases ht : tcond c = 0
  · rw [if_neg (by simp [ht])] at h
    obtain ⟨_, h2, h3⟩ := tcond_zero ht
    have hd : dpt c ≤ 50 := by
      have e2 : (CF.one c .nil).dep = max (c.ps.dep + 1) 0 := rfl
      show c.ps.dep + 1 ≤ 50
      omega
    injection h with h _
    subst h
    refine ⟨top_text h3 hd, ?_⟩
    unfold fcond
    rw [if_neg (by simp [tcond_cores ht]), (text_cores 100 c).1]
  · rw [if_pos ht] at h
    injection h with _ h
    exact absurd h ht
theorem law_condparses_no {c : CT} (h : (fcond c).2 ≠ 0) : (fcond c).1 = [] := by
  unfold fcond at h ⊢
  split
  · rfl
  · next h1 => rw [if_neg h1] at h; exact absurd rfl h
end Go.Proofs.YticpjdjdimpglaaGreatDoor

/- Plain laws: the tokens of printed rules, and their parse. No program. -/
namespace Go.Proofs.YticpjdjdimpglaaGreatDoor
set_option linter.unusedVariables false
set_option linter.unusedSimpArgs false

/-- The words of a criterion. -/
def critT (b : Int) : List (Int × List UInt8) := if b = 1 then [(1, kPoints)] else if b = 2 then [(1, kDiff)] else if b = 3 then [(1, kGoals)] else if b = 4 then [(1, kWins)] else if b = 5 then [(1, kAway), (1, kGoals)] else if b = 6 then [(1, kAway), (1, kWins)]
  else if b = 7 then [(1, kFair)] else if b = 8 then [(1, kHead), (1, kPoints)] else if b = 9 then [(1, kHead), (1, kDiff)] else if b = 10 then [(1, kHead), (1, kGoals)] else if b = 11 then [(1, kHead), (1, kAway)] else [(1, kLots)]
/-- The tokens of printed steps. -/
def ltok : SF → List (Int × List UInt8)
  | .nil => []
  | .cons k b ck cv cn cps th el r =>
    (if k = 1 then critT b ++ [(4, kSemi)]
     else (1, kIf) :: (ptok 100 ⟨ck, cv, cn, cps⟩ ++ (4, kLB) :: (ltok th ++ (4, kRB) :: (if 0 < el.num then (1, kElse) :: (4, kLB) :: (ltok el ++ [(4, kRB)]) else [])))) ++ ltok r
theorem reads_blanks : ∀ (ind : List UInt8), (∀ c ∈ ind, isBlankC c.toNat = true) → ∀ v, Reads ind [] v
  | [], _, v => Reads.nil v
  | c :: r, h, v => by
    have := (reads_blank (h c (by simp)) (r ++ v)).app (reads_blanks r (fun x hx => h x (by simp [hx])) v)
    simpa using this
theorem reads_two {s t : List UInt8} (hs : wordB s = true) (ht : wordB t = true) {v : List UInt8} (hv : Stop v) : Reads (s ++ 32 :: t) [(1, s), (1, t)] v := by
  have r1 := reads_word ht hv
  have r2 := (reads_sp (t ++ v)).app r1
  have r3 := (reads_word hs (v := [32] ++ t ++ v) (by show isInner _ = false; rfl)).app r2
  simpa using r3
theorem reads_crit (b : Int) (v : List UInt8) (hv : Stop v) : Reads (critW b) (critT b) v := by
  unfold critW critT
  by_cases h1 : b = 1
  · rw [if_pos h1, if_pos h1]
    exact reads_word (s := kPoints) (by decide) hv
  rw [if_neg h1, if_neg h1]
  by_cases h2 : b = 2
  · rw [if_pos h2, if_pos h2]
    exact reads_word (s := kDiff) (by decide) hv
  rw [if_neg h2, if_neg h2]
  by_cases h3 : b = 3
  · rw [if_pos h3, if_pos h3]
    exact reads_word (s := kGoals) (by decide) hv
  rw [if_neg h3, if_neg h3]
  by_cases h4 : b = 4
  · rw [if_pos h4, if_pos h4]
    exact reads_word (s := kWins) (by decide) hv
  rw [if_neg h4, if_neg h4]
  by_cases h5 : b = 5
  · rw [if_pos h5, if_pos h5]
    exact reads_two (s := kAway) (t := kGoals) (by decide) (by decide) hv
  rw [if_neg h5, if_neg h5]
  by_cases h6 : b = 6
  · rw [if_pos h6, if_pos h6]
    exact reads_two (s := kAway) (t := kWins) (by decide) (by decide) hv
  rw [if_neg h6, if_neg h6]
  by_cases h7 : b = 7
  · rw [if_pos h7, if_pos h7]
    exact reads_word (s := kFair) (by decide) hv
  rw [if_neg h7, if_neg h7]
  by_cases h8 : b = 8
  · rw [if_pos h8, if_pos h8]
    exact reads_two (s := kHead) (t := kPoints) (by decide) (by decide) hv
  rw [if_neg h8, if_neg h8]
  by_cases h9 : b = 9
  · rw [if_pos h9, if_pos h9]
    exact reads_two (s := kHead) (t := kDiff) (by decide) (by decide) hv
  rw [if_neg h9, if_neg h9]
  by_cases h10 : b = 10
  · rw [if_pos h10, if_pos h10]
    exact reads_two (s := kHead) (t := kGoals) (by decide) (by decide) hv
  rw [if_neg h10, if_neg h10]
  by_cases h11 : b = 11
  · rw [if_pos h11, if_pos h11]
    exact reads_two (s := kHead) (t := kAway) (by decide) (by decide) hv
  rw [if_neg h11, if_neg h11]
  exact reads_word (s := kLots) (by decide) hv
theorem stop32 (v : List UInt8) : Stop (32 :: v) := rfl
theorem stop59 (v : List UInt8) : Stop (59 :: v) := rfl
theorem reads_sgn (c : UInt8) (h : isSignC c.toNat = true ∧ c.toNat ≠ 60 ∧ c.toNat ≠ 62) (v : List UInt8) : Reads [c] [(4, [c])] v := reads_sign h.1 h.2 v
/-- Valid steps whose conditions are valid. -/
theorem okS_cons {k b ck cv cn : Int} {cps : CF} {th el r : SF} (h : (SF.cons k b ck cv cn cps th el r).okB = true) : ((k = 1 ∧ 1 ≤ b ∧ b ≤ 12 ∧ CT.isZ ⟨ck, cv, cn, cps⟩ = true ∧ th.num = 0 ∧ el.num = 0) ∨
    (k = 2 ∧ b = 0 ∧ okC ⟨ck, cv, cn, cps⟩ = true ∧ 0 < th.num ∧ th.okB = true ∧ el.okB = true)) ∧ r.okB = true := by
  unfold SF.okB at h
  rw [Bool.and_eq_true] at h
  refine ⟨?_, h.2⟩
  have h1 := h.1
  by_cases hk : k = 1
  · rw [if_pos hk] at h1
    simp only [Bool.and_eq_true, decide_eq_true_eq, beq_iff_eq] at h1
    exact .inl ⟨hk, h1.1.1.1.1, h1.1.1.1.2, h1.1.1.2, h1.1.2, h1.2⟩
  · rw [if_neg hk] at h1
    by_cases h2 : k = 2
    · rw [if_pos h2] at h1
      simp only [Bool.and_eq_true, decide_eq_true_eq] at h1
      exact .inr ⟨h2, h1.1.1.1.1, h1.1.1.1.2, h1.1.1.2, h1.1.2, h1.2⟩
    · rw [if_neg h2] at h1; cases h1
theorem reads_lines : ∀ (l : SF) (ind : List UInt8), l.okB = true → (∀ c ∈ ind, isBlankC c.toNat = true) → ∀ v, Reads (flines ind l) (ltok l) v
  | .nil, ind, _, _, v => Reads.nil v
  | .cons k b ck cv cn cps th el r, ind, h, hi, v => by
    obtain ⟨hc, hr⟩ := okS_cons h
    have hi2 : ∀ c ∈ ind ++ [32, 32], isBlankC c.toNat = true := fun c hc => by
      rcases List.mem_append.1 hc with h1 | h1
      · exact hi c h1
      · simp only [List.mem_cons, List.not_mem_nil, or_false, or_self] at h1
        subst h1; decide
    have er := reads_lines r ind hr hi v
    unfold flines ltok
    rcases hc with hc | hc
    · rw [if_pos hc.1, if_pos hc.1]
      have r1 := (reads_nl (flines ind r ++ v)).app er
      have r2 := (reads_sgn 59 (by decide) ([10] ++ flines ind r ++ v)).app r1
      have r3 := (reads_crit b ([59] ++ ([10] ++ flines ind r) ++ v) (stop59 _)).app r2
      have r4 := (reads_blanks ind hi (critW b ++ ([59] ++ ([10] ++ flines ind r)) ++ v)).app r3
      simpa using r4
    · have n1 : ¬ k = 1 := by omega
      rw [if_neg n1, if_neg n1]
      have r1 := (reads_nl (flines ind r ++ v)).app er
      -- the else part, and all behind it
      have key : Reads ((if 0 < el.num then [32, 101, 108, 115, 101, 32, 123, 10] ++ flines (ind ++ [32, 32]) el ++ ind ++ [125] else []) ++ ([10] ++ flines ind r)) ((if 0 < el.num then (1, kElse) :: (4, kLB) :: (ltok el ++ [(4, kRB)]) else []) ++ ltok r) v := by
        by_cases he : 0 < el.num
        · rw [if_pos he, if_pos he]
          have q1 := (reads_sgn 125 (by decide) ([10] ++ flines ind r ++ v)).app r1
          have q2 := (reads_blanks ind hi ([125] ++ ([10] ++ flines ind r) ++ v)).app q1
          have q3 := (reads_lines el (ind ++ [32, 32]) hc.2.2.2.2.2 hi2 (ind ++ ([125] ++ ([10] ++ flines ind r)) ++ v)).app q2
          have q4 := (reads_nl (flines (ind ++ [32, 32]) el ++ (ind ++ ([125] ++ ([10] ++ flines ind r))) ++ v)).app q3
          have q5 := (reads_sgn 123 (by decide) ([10] ++ (flines (ind ++ [32, 32]) el ++ (ind ++ ([125] ++ ([10] ++ flines ind r)))) ++ v)).app q4
          have q6 := (reads_sp ([123] ++ ([10] ++ (flines (ind ++ [32, 32]) el ++ (ind ++ ([125] ++ ([10] ++ flines ind r))))) ++ v)).app q5
          have q7 := (reads_word (s := kElse) (by decide) (v := [32] ++ ([123] ++ ([10] ++ (flines (ind ++ [32, 32]) el ++ (ind ++ ([125] ++ ([10] ++ flines ind r)))))) ++ v) (stop32 _)).app q6
          have q8 := (reads_sp (kElse ++ ([32] ++ ([123] ++ ([10] ++ (flines (ind ++ [32, 32]) el ++ (ind ++ ([125] ++ ([10] ++ flines ind r))))))) ++ v)).app q7
          simpa using q8
        · rw [if_neg he, if_neg he]
          simpa using r1
      obtain ⟨X, hX⟩ : ∃ X, X = (if 0 < el.num then [32, 101, 108, 115, 101, 32, 123, 10] ++ flines (ind ++ [32, 32]) el ++ ind ++ [125] else []) ++ ([10] ++ flines ind r) := ⟨_, rfl⟩
      rw [← hX] at key
      have p1 := (reads_sgn 125 (by decide) (X ++ v)).app key
      have p2 := (reads_blanks ind hi ([125] ++ X ++ v)).app p1
      have p3 := (reads_lines th (ind ++ [32, 32]) hc.2.2.2.2.1 hi2 (ind ++ ([125] ++ X) ++ v)).app p2
      have p4 := (reads_nl (flines (ind ++ [32, 32]) th ++ (ind ++ ([125] ++ X)) ++ v)).app p3
      have p5 := (reads_sgn 123 (by decide) ([10] ++ (flines (ind ++ [32, 32]) th ++ (ind ++ ([125] ++ X))) ++ v)).app p4
      have p6 := (reads_sp ([123] ++ ([10] ++ (flines (ind ++ [32, 32]) th ++ (ind ++ ([125] ++ X)))) ++ v)).app p5
      have p7 := ((reads_text 100 ⟨ck, cv, cn, cps⟩ hc.2.2.1 ([32] ++ ([123] ++ ([10] ++ (flines (ind ++ [32, 32]) th ++ (ind ++ ([125] ++ X))))) ++ v) (stop32 _)).1).app p6
      have p8 := (reads_sp (ftext 100 ⟨ck, cv, cn, cps⟩ ++ ([32] ++ ([123] ++ ([10] ++ (flines (ind ++ [32, 32]) th ++ (ind ++ ([125] ++ X)))))) ++ v)).app p7
      have p9 := (reads_word (s := kIf) (by decide) (v := [32] ++ (ftext 100 ⟨ck, cv, cn, cps⟩ ++ ([32] ++ ([123] ++ ([10] ++ (flines (ind ++ [32, 32]) th ++ (ind ++ ([125] ++ X))))))) ++ v) (stop32 _)).app p8
      have p10 := (reads_blanks ind hi (kIf ++ ([32] ++ (ftext 100 ⟨ck, cv, cn, cps⟩ ++ ([32] ++ ([123] ++ ([10] ++ (flines (ind ++ [32, 32]) th ++ (ind ++ ([125] ++ X)))))))) ++ v)).app p9
      rw [hX] at p10
      simpa using p10
end Go.Proofs.YticpjdjdimpglaaGreatDoor
