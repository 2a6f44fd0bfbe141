/- Plain laws: a comment before a token turns no token. No program. -/
import Derived.Test.YtbfgmbijmdbcmaaGreatDoorOffPlain
namespace Go.Proofs.YtbfgmbijmdbcmaaGreatDoor
set_option linter.unusedVariables false
set_option linter.unusedSimpArgs false

/-- Kinds and texts of the tokens. -/
def toks : List Item → List (Nat × List UInt8)
  | [] => []
  | i :: r => if i.kind = 6 ∨ i.kind = 0 then toks r else (i.kind, i.text) :: toks r
def look (t : Tok) : Int × List UInt8 := (t.kind, t.text)
theorem fin_toks : ∀ (I : List Item) (T : List Tok) (P : List Prob) (E : Int) (a : Nat), (fin T P E a I).1.map look = T.map look ++ (toks I).map (fun x => ((x.1 : Int), x.2)) ++ [(5, [])]
  | [], T, P, E, a => by simp [fin, toks, look]
  | i :: r, T, P, E, a => by
    unfold fin toks
    by_cases h6 : i.kind = 6
    · rw [if_pos h6, if_pos (.inl h6)]
      exact fin_toks r _ _ _ _
    · rw [if_neg h6]
      by_cases h0 : i.kind = 0
      · rw [if_pos h0, if_pos (show i.kind = 6 ∨ i.kind = 0 from .inr h0)]
        exact fin_toks r _ _ _ _
      · rw [if_neg h0, if_neg (by rintro (h | h); exact h6 h; exact h0 h), fin_toks r]
        simp [look]
theorem lex_toks (l : List UInt8) : (lex l).1.map look = (toks (items l)).map (fun x => ((x.1 : Int), x.2)) ++ [(5, [])] := by
  have := fin_toks (items l) [] [] (-1) 0
  simpa [lex] using this

/-- From u ++ v the lexer comes to v. -/
inductive Al : List UInt8 → List UInt8 → Prop
  | nil (v : List UInt8) : Al [] v
  | step (u v : List UInt8) : u ≠ [] → (stepItem (u ++ v)).len ≤ u.length → Al (u.drop (stepItem (u ++ v)).len) v → Al u v
/-- What begins a token, or the end. -/
def Opens (v : List UInt8) : Prop := v = [] ∨ Solid (bt v 0) ∧ v ≠ []

theorem step_kind_solid (l : List UInt8) (a : Nat) (h : a < l.length) (h6 : (stepItem (l.drop a)).kind ≠ 6) : Solid (bt l a) := by
  obtain ⟨c, hc, hd⟩ := drop_cons l a h
  rw [← hc]
  constructor
  · cases hb : isBlankC c.toNat
    · rfl
    · exfalso; apply h6; rw [hd]; simp [stepItem, hb]
  · intro h35
    apply h6
    rw [hd]
    unfold stepItem
    simp only
    split
    · rfl
    · first | rfl | rw [if_pos h35]
theorem fin_al (l : List UInt8) : ∀ (d a : Nat) (T : List Tok) (P : List Prob) (E : Int), l.length - a ≤ d → a ≤ l.length →
    ∀ t ∈ (fin T P E a (items (l.drop a))).1, t ∈ T ∨ ∃ b : Nat, t.at_ = b ∧ a ≤ b ∧ b ≤ l.length ∧ Al ((l.drop a).take (b - a)) (l.drop b) ∧ Opens (l.drop b) := by
  intro d
  have hend : ∀ (T : List Tok) (P : List Prob) (E : Int), ∀ t ∈ (fin T P E l.length (items (l.drop l.length))).1, t ∈ T ∨ ∃ b : Nat, t.at_ = b ∧ l.length ≤ b ∧ b ≤ l.length ∧ Al ((l.drop l.length).take (b - l.length)) (l.drop b) ∧ Opens (l.drop b) := by
    intro T P E t ht
    rw [drop_all l _ (Nat.le_refl _), items_nil] at ht
    simp only [fin, List.mem_append, List.mem_singleton] at ht
    rcases ht with ht | rfl
    · exact .inl ht
    · refine .inr ⟨l.length, rfl, Nat.le_refl _, Nat.le_refl _, ?_, .inl (drop_all l _ (Nat.le_refl _))⟩
      rw [drop_all l _ (Nat.le_refl _)]
      simp
      exact .nil _
  induction d with
  | zero =>
    intro a T P E hd ha
    have : a = l.length := by omega
    subst this
    exact hend T P E
  | succ d ih =>
    intro a T P E hd ha
    rcases Nat.eq_or_lt_of_le ha with rfl | hlt
    · exact hend T P E
    · have hpos := stepItem_pos (l.drop a)
      have hlen := stepItem_len (l.drop a) (drop_ne l a hlt)
      rw [List.length_drop] at hlen
      have hup : ∀ t : Int, (∃ b : Nat, t = (b : Int) ∧ a + (stepItem (l.drop a)).len ≤ b ∧ b ≤ l.length ∧ Al ((l.drop (a + (stepItem (l.drop a)).len)).take (b - (a + (stepItem (l.drop a)).len))) (l.drop b) ∧ Opens (l.drop b)) →
          ∃ b : Nat, t = (b : Int) ∧ a ≤ b ∧ b ≤ l.length ∧ Al ((l.drop a).take (b - a)) (l.drop b) ∧ Opens (l.drop b) := by
        rintro t ⟨b, rfl, h1, h2, h3, h4⟩
        refine ⟨b, rfl, by omega, h2, ?_, h4⟩
        have hj : (l.drop a).take (b - a) ++ l.drop b = l.drop a := by
          have : l.drop b = (l.drop a).drop (b - a) := by rw [List.drop_drop]; congr 1; omega
          rw [this, List.take_append_drop]
        have hl : ((l.drop a).take (b - a)).length = b - a := by simp; omega
        refine .step _ _ ?_ ?_ ?_
        · intro e
          rw [e] at hl
          simp at hl
          omega
        · rw [hj, hl]; omega
        · rw [hj]
          have : ((l.drop a).take (b - a)).drop (stepItem (l.drop a)).len = (l.drop (a + (stepItem (l.drop a)).len)).take (b - (a + (stepItem (l.drop a)).len)) := by
            rw [List.drop_take, List.drop_drop]
            congr 1
            omega
          rw [this]
          exact h3
      rw [items_cons _ (drop_ne l a hlt)]
      simp only [fin, List.drop_drop]
      by_cases h6 : (stepItem (l.drop a)).kind = 6
      · rw [if_pos h6]
        intro t ht
        rcases ih _ _ _ _ (by omega) (by omega) t ht with h | h
        · exact .inl h
        · exact .inr (hup _ h)
      · rw [if_neg h6]
        by_cases h0 : (stepItem (l.drop a)).kind = 0
        · rw [if_pos h0]
          intro t ht
          rcases ih _ _ _ _ (by omega) (by omega) t ht with h | h
          · exact .inl h
          · exact .inr (hup _ h)
        · rw [if_neg h0]
          intro t ht
          rcases ih _ _ _ _ (by omega) (by omega) t ht with h | h
          · rcases List.mem_append.1 h with h | h
            · exact .inl h
            · obtain rfl := List.mem_singleton.1 h
              refine .inr ⟨a, rfl, Nat.le_refl _, ha, ?_, .inr ⟨?_, drop_ne l a hlt⟩⟩
              · simp; exact .nil _
              · rw [bt_drop, Nat.add_zero]
                exact step_kind_solid l a hlt h6
          · exact .inr (hup _ h)
theorem lex_al (l : List UInt8) (t : Tok) (ht : t ∈ (lex l).1) : ∃ b : Nat, t.at_ = b ∧ b ≤ l.length ∧ Al (l.take b) (l.drop b) ∧ Opens (l.drop b) := by
  have h := fin_al l l.length 0 [] [] (-1) (by omega) (Nat.zero_le _) t (by simpa [lex] using ht)
  rcases h with h | ⟨b, h1, _, h2, h3, h4⟩
  · cases h
  · exact ⟨b, h1, h2, by simpa using h3, h4⟩

theorem qscan_nl (v : List UInt8) : qscan (10 :: v) = none := by
  rw [qscan.eq_def]
  simp only
  rw [if_neg (by decide), if_pos (by decide)]
/-- No quote closes: a rest that opens with '#', has no quote before its first byte 10. -/
theorem qscan_shut : ∀ (n : Nat) (r v : List UInt8), r.length ≤ n → (∀ c ∈ r, c.toNat ≠ 34 ∧ c.toNat ≠ 10) → qscan (r ++ 10 :: v) = none
  | n, [], v, _, _ => qscan_nl v
  | 0, c :: r, v, hn, _ => by simp at hn
  | n + 1, [c], v, hn, h => by
    have h1 := h c (by simp)
    show qscan (c :: 10 :: v) = none
    rw [qscan.eq_def]
    simp only
    rw [if_neg h1.1]
    split
    · rfl
    · split
      · rw [qscan_nl]; rfl
      · rw [if_neg (by decide), if_neg (by decide)]
  | n + 1, c :: d :: r, v, hn, h => by
    have h1 := h c (by simp)
    have h2 := h d (by simp)
    have i1 := qscan_shut n (d :: r) v (by simp at hn ⊢; omega) (fun x hx => h x (by simp at hx ⊢; exact .inr hx))
    have i2 := qscan_shut n r v (by simp at hn; omega) (fun x hx => h x (by simp [hx]))
    show qscan (c :: d :: (r ++ 10 :: v)) = none
    have i1' : qscan (d :: (r ++ 10 :: v)) = none := i1
    rw [qscan.eq_def]
    simp only
    rw [if_neg h1.1]
    split
    · rfl
    · split
      · rw [i1']; rfl
      · rw [i2]
        split
        · rfl
        · split <;> rfl
theorem qscan_hash (r v : List UInt8) (h : ∀ c ∈ r, c.toNat ≠ 34 ∧ c.toNat ≠ 10) : qscan (35 :: (r ++ 10 :: v)) = none := by
  have := qscan_shut (35 :: r).length (35 :: r) v (Nat.le_refl _) (by
    intro c hc
    rcases List.mem_cons.1 hc with rfl | hc
    · decide
    · exact h c hc)
  exact this
/-- The quote is found in u, or nowhere. -/
theorem qscan_local : ∀ (n : Nat) (u v z : List UInt8), u.length ≤ n → qscan z = none → bt z 0 = 35 → z ≠ [] →
    (∀ t k, qscan (u ++ v) = some (t, k) → k ≤ u.length) → qscan (u ++ z) = qscan (u ++ v)
  | n, [], v, z, _, hz, _, _, h => by
    show qscan z = qscan v
    cases hq : qscan v with
    | none => exact hz
    | some x =>
      have h1 := h x.1 x.2 (by simpa using hq)
      have h2 := (qscan_len v.length v (Nat.le_refl _) x.1 x.2 hq).2
      simp at h1
      omega
  | 0, c :: r, v, z, hn, _, _, _, _ => by simp at hn
  | n + 1, [c], v, z, hn, hz, h35, hne, h => by
    obtain ⟨z0, zr, rfl⟩ : ∃ z0 zr, z = z0 :: zr := by cases z with | nil => exact absurd rfl hne | cons a b => exact ⟨a, b, rfl⟩
    rw [bt_cons_zero] at h35
    show qscan (c :: z0 :: zr) = qscan (c :: v)
    have h' : ∀ t k, qscan (c :: v) = some (t, k) → k ≤ 1 := h
    rw [qscan.eq_def] at h'
    rw [qscan.eq_def, qscan.eq_def (c :: v)]
    simp only at h' ⊢
    split
    · rfl
    · split
      · rfl
      · rename_i h1 h2
        rw [if_neg h1, if_neg h2] at h'
        split
        · rename_i h3
          rw [if_pos h3] at h'
          rw [hz]
          cases hq : qscan v with
          | none => rfl
          | some x =>
            rw [hq] at h'
            have h5 := h' (c :: x.1) (x.2 + 1) rfl
            have h6 := (qscan_len v.length v (Nat.le_refl _) x.1 x.2 hq).2
            omega
        · rename_i h3
          rw [if_neg h3] at h'
          rw [if_neg (by omega), if_neg (by omega)]
          cases v with
          | nil => rfl
          | cons d v' =>
            simp only at h' ⊢
            split
            · rename_i h4
              rw [if_pos h4] at h'
              cases hq : qscan v' with
              | none => rfl
              | some x =>
                rw [hq] at h'
                have h5 := h' _ _ rfl
                omega
            · rename_i h4
              rw [if_neg h4] at h'
              split
              · rename_i h7
                rw [if_pos h7] at h'
                cases hq : qscan v' with
                | none => rfl
                | some x =>
                  rw [hq] at h'
                  have h5 := h' _ _ rfl
                  omega
              · rfl
  | n + 1, c :: d :: r, v, z, hn, hz, h35, hne, h => by
    have h' : ∀ t k, qscan (c :: d :: (r ++ v)) = some (t, k) → k ≤ r.length + 2 := fun t k hq => by have := h t k hq; simpa using this
    show qscan (c :: d :: (r ++ z)) = qscan (c :: d :: (r ++ v))
    rw [qscan.eq_def] at h'
    rw [qscan.eq_def, qscan.eq_def (c :: d :: (r ++ v))]
    simp only at h' ⊢
    split
    · rfl
    · split
      · rfl
      · rename_i h1 h2
        rw [if_neg h1, if_neg h2] at h'
        split
        · rename_i h3
          rw [if_pos h3] at h'
          have ih := qscan_local n (d :: r) v z (by simp at hn ⊢; omega) hz h35 hne (fun t k hq => by
            have hq' : qscan (d :: (r ++ v)) = some (t, k) := hq
            rw [hq'] at h'
            have := h' _ _ rfl
            simp; omega)
          have ih' : qscan (d :: (r ++ z)) = qscan (d :: (r ++ v)) := ih
          rw [ih']
        · rename_i h3
          rw [if_neg h3] at h'
          split
          · rename_i h4
            rw [if_pos h4] at h'
            have ih := qscan_local n r v z (by simp at hn; omega) hz h35 hne (fun t k hq => by
              rw [hq] at h'
              have := h' _ _ rfl
              omega)
            rw [ih]
          · rename_i h4
            rw [if_neg h4] at h'
            split
            · rename_i h7
              rw [if_pos h7] at h'
              have ih := qscan_local n r v z (by simp at hn; omega) hz h35 hne (fun t k hq => by
                rw [hq] at h'
                have := h' _ _ rfl
                omega)
              rw [ih]
            · rfl
theorem runLen_app (u v z : List UInt8) (hz : isInner (bt z 0) = false) (hle : runLen (u ++ v) ≤ u.length) : runLen (u ++ z) = runLen (u ++ v) := by
  induction u with
  | nil =>
    have h0 : runLen v = 0 := by simpa using hle
    show runLen z = runLen v
    rw [h0]
    cases z with
    | nil => rfl
    | cons a b =>
      rw [bt_cons_zero] at hz
      simp [runLen, hz]
  | cons c u ih =>
    show runLen (c :: (u ++ z)) = runLen (c :: (u ++ v))
    have hle' : runLen (c :: (u ++ v)) ≤ u.length + 1 := hle
    unfold runLen at hle' ⊢
    split
    · rename_i h
      rw [if_pos h] at hle'
      rw [ih (by omega)]
    · rfl
theorem lineLen_app (u v z : List UInt8) (hlt : lineLen (u ++ v) < u.length) : lineLen (u ++ z) = lineLen (u ++ v) := by
  induction u with
  | nil => simp at hlt
  | cons c u ih =>
    show lineLen (c :: (u ++ z)) = lineLen (c :: (u ++ v))
    have hlt' : lineLen (c :: (u ++ v)) < u.length + 1 := hlt
    unfold lineLen at hlt' ⊢
    split
    · rfl
    · rename_i h
      rw [if_neg h] at hlt'
      rw [ih (by omega)]
theorem lineLen_in (u v : List UInt8) (h : lineLen (u ++ v) = u.length) : lineLen v = 0 ∧ ∀ c ∈ u, c.toNat ≠ 10 := by
  induction u with
  | nil => exact ⟨h, by simp⟩
  | cons c u ih =>
    have h' : lineLen (c :: (u ++ v)) = u.length + 1 := h
    unfold lineLen at h'
    split at h'
    · omega
    · rename_i hc
      obtain ⟨i1, i2⟩ := ih (by omega)
      exact ⟨i1, fun x hx => by rcases List.mem_cons.1 hx with rfl | hx; exact hc; exact i2 x hx⟩
theorem lineLen_free (u v : List UInt8) (h : ∀ c ∈ u, c.toNat ≠ 10) : lineLen (u ++ 10 :: v) = u.length := by
  induction u with
  | nil => simp [lineLen]
  | cons c u ih =>
    show lineLen (c :: (u ++ 10 :: v)) = u.length + 1
    unfold lineLen
    rw [if_neg (h c (by simp)), ih (fun x hx => h x (by simp [hx]))]
/-- A step that stays in u is the same over another rest. -/
theorem next_local (u v z : List UInt8) (hu : u ≠ []) (hz : qscan z = none) (h35 : bt z 0 = 35) (hne : z ≠ []) (hle : (nextItem (u ++ v)).len ≤ u.length) : nextItem (u ++ z) = nextItem (u ++ v) := by
  cases u with
  | nil => exact absurd rfl hu
  | cons c u =>
    have hi : isInner (bt z 0) = false := by rw [h35]; rfl
    have ht : ∀ (k : Nat), k ≤ u.length + 1 → (c :: (u ++ z)).take k = (c :: (u ++ v)).take k := by
      intro k hk
      have e1 := List.take_append_of_le_length (l₁ := c :: u) (l₂ := z) (i := k) (by simpa using hk)
      have e2 := List.take_append_of_le_length (l₁ := c :: u) (l₂ := v) (i := k) (by simpa using hk)
      exact e1.trans e2.symm
    have hb : u ≠ [] → bt (u ++ z) 0 = bt (u ++ v) 0 := by
      intro hne
      cases u with
      | nil => exact absurd rfl hne
      | cons a b => rfl
    have hle' : (nextItem (c :: (u ++ v))).len ≤ u.length + 1 := hle
    show nextItem (c :: (u ++ z)) = nextItem (c :: (u ++ v))
    unfold nextItem at hle' ⊢
    simp only at hle' ⊢
    by_cases h1 : isLetter c.toNat = true
    · rw [if_pos h1] at hle'
      rw [if_pos h1, if_pos h1]
      have hr := runLen_app (c :: u) v z hi hle'
      have hr' : runLen (c :: (u ++ z)) = runLen (c :: (u ++ v)) := hr
      rw [hr', ht _ hle']
    · rw [if_neg h1] at hle'
      rw [if_neg h1, if_neg h1]
      by_cases h2 : (isDigit c.toNat || (c.toNat == 45 && isDigit (bt (u ++ v) 0))) = true
      · rw [if_pos h2] at hle'
        have hlr : runLen (u ++ v) + 1 ≤ u.length + 1 := by split at hle' <;> exact hle'
        have hr' := runLen_app u v z hi (by omega)
        have h2' : (isDigit c.toNat || (c.toNat == 45 && isDigit (bt (u ++ z) 0))) = true := by
          cases hd : isDigit c.toNat
          · rw [hd] at h2
            have h3 : isDigit (bt (u ++ v) 0) = true := by simp at h2; exact h2.2
            have hu : u ≠ [] := by
              rintro rfl
              have : isInner (bt v 0) = true := by
                have h3' : isDigit (bt v 0) = true := h3
                unfold isInner
                rw [h3']
                simp
              cases v with
              | nil => simp [bt] at this; exact absurd this (by decide)
              | cons a b =>
                rw [bt_cons_zero] at this
                simp [runLen, this] at hlr
            rw [hb hu]
            simpa using h2
          · simp
        rw [if_pos h2, if_pos h2', hr', ht _ hlr]
      · rw [if_neg h2] at hle'
        have h2' : ¬ (isDigit c.toNat || (c.toNat == 45 && isDigit (bt (u ++ z) 0))) = true := by
          by_cases hu : u = []
          · subst hu
            simp only [Bool.or_eq_true, Bool.and_eq_true, not_or] at h2 ⊢
            refine ⟨h2.1, ?_⟩
            rintro ⟨_, h⟩
            have : bt ([] ++ z) 0 = 35 := h35
            rw [this] at h
            exact absurd h (by decide)
          · rw [hb hu]; exact h2
        rw [if_neg h2, if_neg h2']
        by_cases h3 : isSignC c.toNat = true
        · rw [if_pos h3] at hle'
          rw [if_pos h3, if_pos h3]
          by_cases hu : u = []
          · subst hu
            have e1 : ¬ ((c.toNat == 60 || c.toNat == 62) && bt ([] ++ v) 0 == 61) = true := by
              intro e
              rw [if_pos e] at hle'
              simp at hle'
            have e2 : ¬ ((c.toNat == 60 || c.toNat == 62) && bt ([] ++ z) 0 == 61) = true := by
              have : bt ([] ++ z) 0 = 35 := h35
              rw [this]
              simp
            rw [if_neg e1, if_neg e2]
          · rw [hb hu, ht 2 (by have := List.length_pos_iff.2 hu; omega)]
        · rw [if_neg h3] at hle'
          rw [if_neg h3, if_neg h3]
          by_cases h4 : c.toNat = 34
          · rw [if_pos h4] at hle'
            rw [if_pos h4, if_pos h4]
            rw [qscan_local u.length u v z (Nat.le_refl _) hz h35 hne (fun t k hq => by
              rw [hq] at hle'
              simpa using hle')]
          · rw [if_neg h4, if_neg h4]
theorem toks_cons (i : Item) (r : List Item) : toks (i :: r) = if i.kind = 6 ∨ i.kind = 0 then toks r else (i.kind, i.text) :: toks r := rfl
/-- The lexer's steps over a comment and its line's end. -/
theorem items_hash (r v : List UInt8) (h : ∀ c ∈ r, c.toNat ≠ 10) : toks (items (35 :: (r ++ 10 :: v))) = toks (items v) := by
  have hl : lineLen (35 :: (r ++ 10 :: v)) = r.length + 1 := by
    have := lineLen_free (35 :: r) v (by intro c hc; rcases List.mem_cons.1 hc with rfl | hc; decide; exact h c hc)
    exact this
  have hs : stepItem (35 :: (r ++ 10 :: v)) = ⟨6, [], r.length + 1⟩ := by
    unfold stepItem
    simp only
    rw [if_neg (by decide), if_pos (by decide), hl]
  have hd : (35 :: (r ++ 10 :: v)).drop (r.length + 1) = 10 :: v := by simp
  have hs2 : stepItem (10 :: v) = ⟨6, [], 1⟩ := by
    unfold stepItem
    simp only
    rw [if_pos (by decide)]
  rw [items_cons _ (by simp), hs, toks_cons, if_pos (.inl rfl)]
  simp only
  rw [hd, items_cons _ (by simp), hs2, toks_cons, if_pos (.inl rfl)]
  rfl
theorem toks_al (r v : List UInt8) (hv : Opens v) (h : ∀ c ∈ r, c.toNat ≠ 34 ∧ c.toNat ≠ 10) : ∀ u, Al u v → toks (items (u ++ 35 :: (r ++ 10 :: v))) = toks (items (u ++ v)) := by
  intro u hu
  induction hu with
  | nil w => exact items_hash r _ (fun c hc => (h c hc).2)
  | step u w hne hle _ ih =>
    have ih' := ih hv
    have hz := qscan_hash r w h
    have h35 : bt (35 :: (r ++ 10 :: w)) 0 = 35 := rfl
    have hzn : (35 :: (r ++ 10 :: w)) ≠ [] := by simp
    have happ : ∀ x : List UInt8, u ++ x ≠ [] := fun x => by simp [hne]
    have main : stepItem (u ++ 35 :: (r ++ 10 :: w)) = stepItem (u ++ w) → toks (items (u ++ 35 :: (r ++ 10 :: w))) = toks (items (u ++ w)) := by
      intro e
      rw [items_cons _ (happ _), items_cons (u ++ w) (happ _), e, List.drop_append_of_le_length hle, List.drop_append_of_le_length hle, toks_cons, toks_cons, ih']
    cases u with
    | nil => exact absurd rfl hne
    | cons c u =>
      by_cases hb : isBlankC c.toNat = true
      · apply main
        show stepItem (c :: (u ++ 35 :: (r ++ 10 :: w))) = stepItem (c :: (u ++ w))
        unfold stepItem
        simp only
        rw [if_pos hb, if_pos hb]
      · by_cases h5 : c.toNat = 35
        · have e1 : stepItem (c :: u ++ w) = ⟨6, [], lineLen (c :: u ++ w)⟩ := by
            show stepItem (c :: (u ++ w)) = _
            unfold stepItem
            simp only
            rw [if_neg hb, if_pos h5]
            rfl
          have e2 : stepItem (c :: u ++ 35 :: (r ++ 10 :: w)) = ⟨6, [], lineLen (c :: u ++ 35 :: (r ++ 10 :: w))⟩ := by
            show stepItem (c :: (u ++ _)) = _
            unfold stepItem
            simp only
            rw [if_neg hb, if_pos h5]
            rfl
          rw [e1] at hle
          have hle2 : lineLen (c :: u ++ w) ≤ (c :: u).length := hle
          rcases Nat.lt_or_ge (lineLen (c :: u ++ w)) (c :: u).length with hlt | hge
          · apply main
            rw [e1, e2, lineLen_app _ _ _ hlt]
          · obtain ⟨hw0, hfree⟩ := lineLen_in (c :: u) w (by omega)
            have hw : w = [] := by
              rcases hv with hv | ⟨hs, hn⟩
              · exact hv
              · cases w with
                | nil => rfl
                | cons a b =>
                  exfalso
                  unfold lineLen at hw0
                  split at hw0
                  · rename_i ha
                    rw [bt_cons_zero] at hs
                    have := hs.1
                    rw [ha] at this
                    exact absurd this (by decide)
                  · omega
            subst hw
            have hl : lineLen (c :: u ++ 35 :: (r ++ [10])) = (c :: u ++ 35 :: r).length := by
              have := lineLen_free (c :: u ++ 35 :: r) [] (by
                intro x hx
                rcases List.mem_append.1 hx with hx | hx
                · exact hfree x hx
                · rcases List.mem_cons.1 hx with rfl | hx
                  · decide
                  · exact (h x hx).2)
              simpa using this
            have hd : (c :: u ++ 35 :: (r ++ [10])).drop (c :: u ++ 35 :: r).length = [10] := by
              have : (c :: u ++ 35 :: (r ++ [10])) = (c :: u ++ 35 :: r) ++ [10] := by simp
              rw [this, List.drop_left]
            have hs2 : stepItem [10] = ⟨6, [], 1⟩ := rfl
            rw [items_cons _ (happ _), e2, hl, toks_cons, if_pos (.inl rfl)]
            simp only
            rw [hd, items_cons _ (by simp), hs2, toks_cons, if_pos (.inl rfl)]
            have hl2 : lineLen (c :: u ++ []) = (c :: u).length := by simp only [List.append_nil] at hle2 hge ⊢; omega
            rw [items_cons (c :: u ++ []) (happ _), e1, toks_cons, if_pos (.inl rfl), hl2]
            simp
        · have e1 : ∀ x : List UInt8, stepItem (c :: u ++ x) = nextItem (c :: u ++ x) := by
            intro x
            show stepItem (c :: (u ++ x)) = nextItem (c :: (u ++ x))
            unfold stepItem
            simp only
            rw [if_neg hb, if_neg h5]
          apply main
          rw [e1, e1]
          rw [e1] at hle
          exact next_local (c :: u) w _ hne hz h35 hzn hle
/-- The law on comments, of the lexer in plain Lean. -/
theorem lex_comment (l r : List UInt8) (h : ∀ c ∈ r, c.toNat ≠ 34 ∧ c.toNat ≠ 10) (t : Tok) (ht : t ∈ (lex l).1) (b : Nat) (hb : t.at_ = b) :
    (lex (l.take b ++ 35 :: (r ++ 10 :: l.drop b))).1.map look = (lex l).1.map look := by
  obtain ⟨b', h1, h2, h3, h4⟩ := lex_al l t ht
  obtain rfl : b = b' := by omega
  rw [lex_toks, lex_toks, toks_al r _ h4 h _ h3, List.take_append_drop]
end Go.Proofs.YtbfgmbijmdbcmaaGreatDoor
