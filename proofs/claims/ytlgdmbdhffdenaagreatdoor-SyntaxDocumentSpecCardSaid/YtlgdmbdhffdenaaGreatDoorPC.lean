/- Plain laws: the offsets of the tokens and of the problems. No program. -/
import Derived.Test.YtlgdmbdhffdenaaGreatDoorLexLen
import Derived.Test.YtlgdmbdhffdenaaGreatDoorPB
namespace Go.Proofs.YtlgdmbdhffdenaaGreatDoor
set_option linter.unusedVariables false
set_option linter.unusedSimpArgs false

theorem step_next (s : List UInt8) (h : (stepItem s).kind ≠ 6) : s ≠ [] ∧ stepItem s = nextItem s := by
  cases s with
  | nil => exact absurd rfl h
  | cons c r =>
    refine ⟨by simp, ?_⟩
    by_cases h1 : isBlankC c.toNat = true
    · simp [stepItem, h1] at h
    · by_cases h2 : c.toNat = 35
      · exfalso
        apply h
        unfold stepItem
        simp only
        rw [if_neg h1, if_pos h2]
      · unfold stepItem
        simp only
        rw [if_neg h1, if_neg h2]
theorem nextItem_good (c : UInt8) (r : List UInt8) : (nextItem (c :: r)).kind ≤ 4 ∧ ((nextItem (c :: r)).kind = 3 → c.toNat = 34) ∧
    ((nextItem (c :: r)).kind ≠ 3 → (nextItem (c :: r)).kind ≠ 0 → (nextItem (c :: r)).text = (c :: r).take (nextItem (c :: r)).len) := by
  unfold nextItem
  simp only
  split
  · simp
  · split
    · split <;> simp
    · split
      · split <;> simp
      · split
        · split <;> simp_all
        · simp

/-- A token fits the bytes at its offset. -/
def Fits (l : List UInt8) (t : Tok) : Prop := ∃ a : Nat, t.at_ = a ∧ a < l.length ∧ t.kind ≠ 5 ∧ (t.kind = 3 → bt l a = 34) ∧
  (t.kind ≠ 3 → 0 < t.text.length ∧ a + t.text.length ≤ l.length ∧ (l.drop a).take t.text.length = t.text)
theorem fits_next (l : List UInt8) (a : Nat) (h : a < l.length) (h0 : (nextItem (l.drop a)).kind ≠ 0) : Fits l ⟨(nextItem (l.drop a)).kind, (nextItem (l.drop a)).text, a⟩ := by
  have hlen := nextItem_len (l.drop a) (drop_ne l a h)
  have hpos := nextItem_pos (l.drop a)
  obtain ⟨c, hc, hd⟩ := drop_cons l a h
  have hg := nextItem_good c (l.drop (a + 1))
  rw [← hd] at hg
  generalize hi : nextItem (l.drop a) = i at *
  obtain ⟨g1, g2, g3⟩ := hg
  rw [List.length_drop] at hlen
  refine ⟨a, rfl, h, ?_, ?_, ?_⟩
  · show ((i.kind : Nat) : Int) ≠ 5
    omega
  · intro e
    have e' : ((i.kind : Nat) : Int) = 3 := e
    rw [← hc]
    exact g2 (by omega)
  · intro e
    have e' : ¬ ((i.kind : Nat) : Int) = 3 := e
    have ht := g3 (by omega) h0
    have hl : i.text.length = i.len := by rw [ht, List.length_take, List.length_drop]; omega
    show 0 < i.text.length ∧ a + i.text.length ≤ l.length ∧ (l.drop a).take i.text.length = i.text
    rw [hl]
    exact ⟨hpos, by omega, ht.symm⟩

/-- The tokens and the problems that were found up to an offset. -/
structure Inv (l : List UInt8) (T : List Tok) (P : List Prob) (a : Nat) : Prop where
  tok : ∀ t ∈ T, Fits l t ∧ t.at_ < a
  tinc : T.Pairwise fun x y => x.at_ < y.at_
  prob : ∀ p ∈ P, p.code = 60 ∧ 0 ≤ p.at_ ∧ p.at_ < l.length ∧ p.at_ < a
  pinc : P.Pairwise fun x y => x.at_ < y.at_
  dis : ∀ t ∈ T, ∀ p ∈ P, t.at_ ≠ p.at_
  pl : P.length ≤ 64
theorem Inv.more {l : List UInt8} {T : List Tok} {P : List Prob} {a b : Nat} (h : Inv l T P a) (hb : a ≤ b) : Inv l T P b :=
  ⟨fun t ht => ⟨(h.tok t ht).1, by have := (h.tok t ht).2; omega⟩, h.tinc, fun p hp => by obtain ⟨h1, h2, h3, h4⟩ := h.prob p hp; exact ⟨h1, h2, h3, by omega⟩, h.pinc, h.dis, h.pl⟩
theorem Inv.push {l : List UInt8} {T : List Tok} {P : List Prob} {a b : Nat} (h : Inv l T P a) (t : Tok) (hf : Fits l t) (ha : t.at_ = a) (hb : a < b) : Inv l (T ++ [t]) P b := by
  refine ⟨fun x hx => ?_, ?_, (h.more (Nat.le_of_lt hb)).prob, h.pinc, fun x hx p hp => ?_, h.pl⟩
  · rcases List.mem_append.1 hx with hx | hx
    · exact (h.more (Nat.le_of_lt hb)).tok x hx
    · obtain rfl := List.mem_singleton.1 hx
      exact ⟨hf, by omega⟩
  · rw [List.pairwise_append]
    refine ⟨h.tinc, List.pairwise_singleton _ _, fun x hx y hy => ?_⟩
    obtain rfl := List.mem_singleton.1 hy
    have := (h.tok x hx).2
    omega
  · rcases List.mem_append.1 hx with hx | hx
    · exact h.dis x hx p hp
    · obtain rfl := List.mem_singleton.1 hx
      have := (h.prob p hp).2.2.2
      omega
theorem Inv.pushP {l : List UInt8} {T : List Tok} {P : List Prob} {a b : Nat} (h : Inv l T P a) (hl : a < l.length) (hb : a < b) (hP : P.length < 64) : Inv l T (P ++ [⟨a, 60⟩]) b := by
  refine ⟨(h.more (Nat.le_of_lt hb)).tok, h.tinc, fun x hx => ?_, ?_, fun x hx p hp => ?_, by simp; omega⟩
  · rcases List.mem_append.1 hx with hx | hx
    · exact (h.more (Nat.le_of_lt hb)).prob x hx
    · obtain rfl := List.mem_singleton.1 hx
      exact ⟨rfl, by show (0 : Int) ≤ (a : Nat); omega, by show ((a : Nat) : Int) < _; omega, by show ((a : Nat) : Int) < _; omega⟩
  · rw [List.pairwise_append]
    refine ⟨h.pinc, List.pairwise_singleton _ _, fun x hx y hy => ?_⟩
    obtain rfl := List.mem_singleton.1 hy
    exact (h.prob x hx).2.2.2
  · rcases List.mem_append.1 hp with hp | hp
    · exact h.dis x hx p hp
    · obtain rfl := List.mem_singleton.1 hp
      have := (h.tok x hx).2
      show x.at_ ≠ ((a : Nat) : Int)
      omega
theorem fin_inv (l : List UInt8) : ∀ (d a : Nat) (T : List Tok) (P : List Prob) (E : Int), l.length - a ≤ d → a ≤ l.length → Inv l T P a →
    ∃ T' P', fin T P E a (items (l.drop a)) = (T' ++ [⟨5, [], l.length⟩], P') ∧ Inv l T' P' l.length := by
  intro d
  induction d with
  | zero =>
    intro a T P E hd ha hi
    have : a = l.length := by omega
    subst this
    exact ⟨T, P, by rw [drop_all l _ (Nat.le_refl _), items_nil]; rfl, hi⟩
  | succ d ih =>
    intro a T P E hd ha hi
    rcases Nat.eq_or_lt_of_le ha with rfl | hlt
    · exact ⟨T, P, by rw [drop_all l _ (Nat.le_refl _), items_nil]; rfl, hi⟩
    · have hpos := stepItem_pos (l.drop a)
      have hlen := stepItem_len (l.drop a) (drop_ne l a hlt)
      rw [List.length_drop] at hlen
      rw [items_cons _ (drop_ne l a hlt)]
      simp only [fin, List.drop_drop]
      by_cases h6 : (stepItem (l.drop a)).kind = 6
      · rw [if_pos h6]
        exact ih _ _ _ _ (by omega) (by omega) (hi.more (by omega))
      · rw [if_neg h6]
        obtain ⟨_, hs⟩ := step_next _ h6
        by_cases h0 : (stepItem (l.drop a)).kind = 0
        · rw [if_pos h0]
          refine ih _ _ _ _ (by omega) (by omega) ?_
          split
          · rename_i h
            exact hi.pushP hlt (by omega) h.2
          · exact hi.more (by omega)
        · rw [if_neg h0]
          refine ih _ _ _ _ (by omega) (by omega) (hi.push _ ?_ rfl (by omega))
          rw [hs] at h0 ⊢
          exact fits_next l a hlt h0
/-- The law on offsets, of the lexer in plain Lean. -/
theorem lex_inv (l : List UInt8) : ∃ T P, lex l = (T ++ [⟨5, [], l.length⟩], P) ∧ Inv l T P l.length := by
  have := fin_inv l l.length 0 [] [] (-1) (by omega) (Nat.zero_le _) ⟨by simp, List.Pairwise.nil, by simp, List.Pairwise.nil, by simp, by simp⟩
  simpa [lex] using this
end Go.Proofs.YtlgdmbdhffdenaaGreatDoor

/- Plain laws: a comment before a token turns no token. No program. -/
namespace Go.Proofs.YtlgdmbdhffdenaaGreatDoor
set_option linter.unusedVariables false
set_option linter.unusedSimpArgs false

/-- Kinds and texts of the tokens. -/
def toks : List Item → List (Nat × List UInt8)
  | [] => []
  | i :: r => if i.kind = 6 ∨ i.kind = 0 then toks r else (i.kind, i.text) :: toks r
def look (t : Tok) : Int × List UInt8 := (t.kind, t.text)
theorem fin_toks : ∀ (I : List Item) (T : List Tok) (P : List Prob) (E : Int) (a : Nat), (fin T P E a I).1.map look = T.map look ++ (toks I).map (fun x => ((x.1 : Int), x.2)) ++ [(5, [])]
  | [], T, P, E, a => by simp [fin, toks, look]
  | i :: r, T, P, E, a => by
    unfold fin toks
    by_cases h6 : i.kind = 6
    · rw [if_pos h6, if_pos (.inl h6)]
      exact fin_toks r _ _ _ _
    · rw [if_neg h6]
      by_cases h0 : i.kind = 0
      · rw [if_pos h0, if_pos (show i.kind = 6 ∨ i.kind = 0 from .inr h0)]
        exact fin_toks r _ _ _ _
      · rw [if_neg h0, if_neg (by rintro (h | h); exact h6 h; exact h0 h), fin_toks r]
        simp [look]
theorem lex_toks (l : List UInt8) : (lex l).1.map look = (toks (items l)).map (fun x => ((x.1 : Int), x.2)) ++ [(5, [])] := by
  have := fin_toks (items l) [] [] (-1) 0
  simpa [lex] using this

/-- From u ++ v the lexer comes to v. -/
inductive Al : List UInt8 → List UInt8 → Prop
  | nil (v : List UInt8) : Al [] v
  | step (u v : List UInt8) : u ≠ [] → (stepItem (u ++ v)).len ≤ u.length → Al (u.drop (stepItem (u ++ v)).len) v → Al u v
/-- What begins a token, or the end. -/
def Opens (v : List UInt8) : Prop := v = [] ∨ Solid (bt v 0) ∧ v ≠ []

theorem step_kind_solid (l : List UInt8) (a : Nat) (h : a < l.length) (h6 : (stepItem (l.drop a)).kind ≠ 6) : Solid (bt l a) := by
  obtain ⟨c, hc, hd⟩ := drop_cons l a h
  rw [← hc]
  constructor
  · cases hb : isBlankC c.toNat
    · rfl
    · exfalso; apply h6; rw [hd]; simp [stepItem, hb]
  · intro h35
    apply h6
    rw [hd]
    unfold stepItem
    simp only
    split
    · rfl
    · first | rfl | rw [if_pos h35]
theorem fin_al (l : List UInt8) : ∀ (d a : Nat) (T : List Tok) (P : List Prob) (E : Int), l.length - a ≤ d → a ≤ l.length →
    ∀ t ∈ (fin T P E a (items (l.drop a))).1, t ∈ T ∨ ∃ b : Nat, t.at_ = b ∧ a ≤ b ∧ b ≤ l.length ∧ Al ((l.drop a).take (b - a)) (l.drop b) ∧ Opens (l.drop b) := by
  intro d
  have hend : ∀ (T : List Tok) (P : List Prob) (E : Int), ∀ t ∈ (fin T P E l.length (items (l.drop l.length))).1, t ∈ T ∨ ∃ b : Nat, t.at_ = b ∧ l.length ≤ b ∧ b ≤ l.length ∧ Al ((l.drop l.length).take (b - l.length)) (l.drop b) ∧ Opens (l.drop b) := by
    intro T P E t ht
    rw [drop_all l _ (Nat.le_refl _), items_nil] at ht
    simp only [fin, List.mem_append, List.mem_singleton] at ht
    rcases ht with ht | rfl
    · exact .inl ht
    · refine .inr ⟨l.length, rfl, Nat.le_refl _, Nat.le_refl _, ?_, .inl (drop_all l _ (Nat.le_refl _))⟩
      rw [drop_all l _ (Nat.le_refl _)]
      simp
      exact .nil _
  induction d with
  | zero =>
    intro a T P E hd ha
    have : a = l.length := by omega
    subst this
    exact hend T P E
  | succ d ih =>
    intro a T P E hd ha
    rcases Nat.eq_or_lt_of_le ha with rfl | hlt
    · exact hend T P E
    · have hpos := stepItem_pos (l.drop a)
      have hlen := stepItem_len (l.drop a) (drop_ne l a hlt)
      rw [List.length_drop] at hlen
      have hup : ∀ t : Int, (∃ b : Nat, t = (b : Int) ∧ a + (stepItem (l.drop a)).len ≤ b ∧ b ≤ l.length ∧ Al ((l.drop (a + (stepItem (l.drop a)).len)).take (b - (a + (stepItem (l.drop a)).len))) (l.drop b) ∧ Opens (l.drop b)) →
          ∃ b : Nat, t = (b : Int) ∧ a ≤ b ∧ b ≤ l.length ∧ Al ((l.drop a).take (b - a)) (l.drop b) ∧ Opens (l.drop b) := by
        rintro t ⟨b, rfl, h1, h2, h3, h4⟩
        refine ⟨b, rfl, by omega, h2, ?_, h4⟩
        have hj : (l.drop a).take (b - a) ++ l.drop b = l.drop a := by
          have : l.drop b = (l.drop a).drop (b - a) := by rw [List.drop_drop]; congr 1; omega
          rw [this, List.take_append_drop]
        have hl : ((l.drop a).take (b - a)).length = b - a := by simp; omega
        refine .step _ _ ?_ ?_ ?_
        · intro e
          rw [e] at hl
          simp at hl
          omega
        · rw [hj, hl]; omega
        · rw [hj]
          have : ((l.drop a).take (b - a)).drop (stepItem (l.drop a)).len = (l.drop (a + (stepItem (l.drop a)).len)).take (b - (a + (stepItem (l.drop a)).len)) := by
            rw [List.drop_take, List.drop_drop]
            congr 1
            omega
          rw [this]
          exact h3
      rw [items_cons _ (drop_ne l a hlt)]
      simp only [fin, List.drop_drop]
      by_cases h6 : (stepItem (l.drop a)).kind = 6
      · rw [if_pos h6]
        intro t ht
        rcases ih _ _ _ _ (by omega) (by omega) t ht with h | h
        · exact .inl h
        · exact .inr (hup _ h)
      · rw [if_neg h6]
        by_cases h0 : (stepItem (l.drop a)).kind = 0
        · rw [if_pos h0]
          intro t ht
          rcases ih _ _ _ _ (by omega) (by omega) t ht with h | h
          · exact .inl h
          · exact .inr (hup _ h)
        · rw [if_neg h0]
          intro t ht
          rcases ih _ _ _ _ (by omega) (by omega) t ht with h | h
          · rcases List.mem_append.1 h with h | h
            · exact .inl h
            · obtain rfl := List.mem_singleton.1 h
              refine .inr ⟨a, rfl, Nat.le_refl _, ha, ?_, .inr ⟨?_, drop_ne l a hlt⟩⟩
              · simp; exact .nil _
              · rw [bt_drop, Nat.add_zero]
                exact step_kind_solid l a hlt h6
          · exact .inr (hup _ h)
theorem lex_al (l : List UInt8) (t : Tok) (ht : t ∈ (lex l).1) : ∃ b : Nat, t.at_ = b ∧ b ≤ l.length ∧ Al (l.take b) (l.drop b) ∧ Opens (l.drop b) := by
  have h := fin_al l l.length 0 [] [] (-1) (by omega) (Nat.zero_le _) t (by simpa [lex] using ht)
  rcases h with h | ⟨b, h1, _, h2, h3, h4⟩
  · cases h
  · exact ⟨b, h1, h2, by simpa using h3, h4⟩

theorem qscan_nl (v : List UInt8) : qscan (10 :: v) = none := by
  rw [qscan.eq_def]
  simp only
  rw [if_neg (by decide), if_pos (by decide)]
/-- No quote closes: a rest that opens with '#', has no quote before its first byte 10. -/
theorem qscan_shut : ∀ (n : Nat) (r v : List UInt8), r.length ≤ n → (∀ c ∈ r, c.toNat ≠ 34 ∧ c.toNat ≠ 10) → qscan (r ++ 10 :: v) = none
  | n, [], v, _, _ => qscan_nl v
  | 0, c :: r, v, hn, _ => by simp at hn
  | n + 1, [c], v, hn, h => by
    have h1 := h c (by simp)
    show qscan (c :: 10 :: v) = none
    rw [qscan.eq_def]
    simp only
    rw [if_neg h1.1]
    split
    · rfl
    · split
      · rw [qscan_nl]; rfl
      · rw [if_neg (by decide), if_neg (by decide)]
  | n + 1, c :: d :: r, v, hn, h => by
    have h1 := h c (by simp)
    have h2 := h d (by simp)
    have i1 := qscan_shut n (d :: r) v (by simp at hn ⊢; omega) (fun x hx => h x (by simp at hx ⊢; exact .inr hx))
    have i2 := qscan_shut n r v (by simp at hn; omega) (fun x hx => h x (by simp [hx]))
    show qscan (c :: d :: (r ++ 10 :: v)) = none
    have i1' : qscan (d :: (r ++ 10 :: v)) = none := i1
    rw [qscan.eq_def]
    simp only
    rw [if_neg h1.1]
    split
    · rfl
    · split
      · rw [i1']; rfl
      · rw [i2]
        split
        · rfl
        · split <;> rfl
theorem qscan_hash (r v : List UInt8) (h : ∀ c ∈ r, c.toNat ≠ 34 ∧ c.toNat ≠ 10) : qscan (35 :: (r ++ 10 :: v)) = none := by
  have := qscan_shut (35 :: r).length (35 :: r) v (Nat.le_refl _) (by
    intro c hc
    rcases List.mem_cons.1 hc with rfl | hc
    · decide
    · exact h c hc)
  exact this
/-- The quote is found in u, or nowhere. -/
theorem qscan_local : ∀ (n : Nat) (u v z : List UInt8), u.length ≤ n → qscan z = none → bt z 0 = 35 → z ≠ [] →
    (∀ t k, qscan (u ++ v) = some (t, k) → k ≤ u.length) → qscan (u ++ z) = qscan (u ++ v)
  | n, [], v, z, _, hz, _, _, h => by
    show qscan z = qscan v
    cases hq : qscan v with
    | none => exact hz
    | some x =>
      have h1 := h x.1 x.2 (by simpa using hq)
      have h2 := (qscan_len v.length v (Nat.le_refl _) x.1 x.2 hq).2
      simp at h1
      omega
  | 0, c :: r, v, z, hn, _, _, _, _ => by simp at hn
  | n + 1, [c], v, z, hn, hz, h35, hne, h => by
    obtain ⟨z0, zr, rfl⟩ : ∃ z0 zr, z = z0 :: zr := by cases z with | nil => exact absurd rfl hne | cons a b => exact ⟨a, b, rfl⟩
    rw [bt_cons_zero] at h35
    show qscan (c :: z0 :: zr) = qscan (c :: v)
    have h' : ∀ t k, qscan (c :: v) = some (t, k) → k ≤ 1 := h
    rw [qscan.eq_def] at h'
    rw [qscan.eq_def, qscan.eq_def (c :: v)]
    simp only at h' ⊢
    split
    · rfl
    · split
      · rfl
      · rename_i h1 h2
        rw [if_neg h1, if_neg h2] at h'
        split
        · rename_i h3
          rw [if_pos h3] at h'
          rw [hz]
          cases hq : qscan v with
          | none => rfl
          | some x =>
            rw [hq] at h'
            have h5 := h' (c :: x.1) (x.2 + 1) rfl
            have h6 := (qscan_len v.length v (Nat.le_refl _) x.1 x.2 hq).2
            omega
        · rename_i h3
          rw [if_neg h3] at h'
          rw [if_neg (by omega), if_neg (by omega)]
          cases v with
          | nil => rfl
          | cons d v' =>
            simp only at h' ⊢
            split
            · rename_i h4
              rw [if_pos h4] at h'
              cases hq : qscan v' with
              | none => rfl
              | some x =>
                rw [hq] at h'
                have h5 := h' _ _ rfl
                omega
            · rename_i h4
              rw [if_neg h4] at h'
              split
              · rename_i h7
                rw [if_pos h7] at h'
                cases hq : qscan v' with
                | none => rfl
                | some x =>
                  rw [hq] at h'
                  have h5 := h' _ _ rfl
                  omega
              · rfl
  | n + 1, c :: d :: r, v, z, hn, hz, h35, hne, h => by
    have h' : ∀ t k, qscan (c :: d :: (r ++ v)) = some (t, k) → k ≤ r.length + 2 := fun t k hq => by have := h t k hq; simpa using this
    show qscan (c :: d :: (r ++ z)) = qscan (c :: d :: (r ++ v))
    rw [qscan.eq_def] at h'
    rw [qscan.eq_def, qscan.eq_def (c :: d :: (r ++ v))]
    simp only at h' ⊢
    split
    · rfl
    · split
      · rfl
      · rename_i h1 h2
        rw [if_neg h1, if_neg h2] at h'
        split
        · rename_i h3
          rw [if_pos h3] at h'
          have ih := qscan_local n (d :: r) v z (by simp at hn ⊢; omega) hz h35 hne (fun t k hq => by
            have hq' : qscan (d :: (r ++ v)) = some (t, k) := hq
            rw [hq'] at h'
            have := h' _ _ rfl
            simp; omega)
          have ih' : qscan (d :: (r ++ z)) = qscan (d :: (r ++ v)) := ih
          rw [ih']
        · rename_i h3
          rw [if_neg h3] at h'
          split
          · rename_i h4
            rw [if_pos h4] at h'
            have ih := qscan_local n r v z (by simp at hn; omega) hz h35 hne (fun t k hq => by
              rw [hq] at h'
              have := h' _ _ rfl
              omega)
            rw [ih]
          · rename_i h4
            rw [if_neg h4] at h'
            split
            · rename_i h7
              rw [if_pos h7] at h'
              have ih := qscan_local n r v z (by simp at hn; omega) hz h35 hne (fun t k hq => by
                rw [hq] at h'
                have := h' _ _ rfl
                omega)
              rw [ih]
            · rfl
theorem runLen_app (u v z : List UInt8) (hz : isInner (bt z 0) = false) (hle : runLen (u ++ v) ≤ u.length) : runLen (u ++ z) = runLen (u ++ v) := by
  induction u with
  | nil =>
    have h0 : runLen v = 0 := by simpa using hle
    show runLen z = runLen v
    rw [h0]
    cases z with
    | nil => rfl
    | cons a b =>
      rw [bt_cons_zero] at hz
      simp [runLen, hz]
  | cons c u ih =>
    show runLen (c :: (u ++ z)) = runLen (c :: (u ++ v))
    have hle' : runLen (c :: (u ++ v)) ≤ u.length + 1 := hle
    unfold runLen at hle' ⊢
    split
    · rename_i h
      rw [if_pos h] at hle'
      rw [ih (by omega)]
    · rfl
theorem lineLen_app (u v z : List UInt8) (hlt : lineLen (u ++ v) < u.length) : lineLen (u ++ z) = lineLen (u ++ v) := by
  induction u with
  | nil => simp at hlt
  | cons c u ih =>
    show lineLen (c :: (u ++ z)) = lineLen (c :: (u ++ v))
    have hlt' : lineLen (c :: (u ++ v)) < u.length + 1 := hlt
    unfold lineLen at hlt' ⊢
    split
    · rfl
    · rename_i h
      rw [if_neg h] at hlt'
      rw [ih (by omega)]
theorem lineLen_in (u v : List UInt8) (h : lineLen (u ++ v) = u.length) : lineLen v = 0 ∧ ∀ c ∈ u, c.toNat ≠ 10 := by
  induction u with
  | nil => exact ⟨h, by simp⟩
  | cons c u ih =>
    have h' : lineLen (c :: (u ++ v)) = u.length + 1 := h
    unfold lineLen at h'
    split at h'
    · omega
    · rename_i hc
      obtain ⟨i1, i2⟩ := ih (by omega)
      exact ⟨i1, fun x hx => by rcases List.mem_cons.1 hx with rfl | hx; exact hc; exact i2 x hx⟩
theorem lineLen_free (u v : List UInt8) (h : ∀ c ∈ u, c.toNat ≠ 10) : lineLen (u ++ 10 :: v) = u.length := by
  induction u with
  | nil => simp [lineLen]
  | cons c u ih =>
    show lineLen (c :: (u ++ 10 :: v)) = u.length + 1
    unfold lineLen
    rw [if_neg (h c (by simp)), ih (fun x hx => h x (by simp [hx]))]
/-- A step that stays in u is the same over another rest. -/
theorem next_local (u v z : List UInt8) (hu : u ≠ []) (hz : qscan z = none) (h35 : bt z 0 = 35) (hne : z ≠ []) (hle : (nextItem (u ++ v)).len ≤ u.length) : nextItem (u ++ z) = nextItem (u ++ v) := by
  cases u with
  | nil => exact absurd rfl hu
  | cons c u =>
    have hi : isInner (bt z 0) = false := by rw [h35]; rfl
    have ht : ∀ (k : Nat), k ≤ u.length + 1 → (c :: (u ++ z)).take k = (c :: (u ++ v)).take k := by
      intro k hk
      have e1 := List.take_append_of_le_length (l₁ := c :: u) (l₂ := z) (i := k) (by simpa using hk)
      have e2 := List.take_append_of_le_length (l₁ := c :: u) (l₂ := v) (i := k) (by simpa using hk)
      exact e1.trans e2.symm
    have hb : u ≠ [] → bt (u ++ z) 0 = bt (u ++ v) 0 := by
      intro hne
      cases u with
      | nil => exact absurd rfl hne
      | cons a b => rfl
    have hle' : (nextItem (c :: (u ++ v))).len ≤ u.length + 1 := hle
    show nextItem (c :: (u ++ z)) = nextItem (c :: (u ++ v))
    unfold nextItem at hle' ⊢
    simp only at hle' ⊢
    by_cases h1 : isLetter c.toNat = true
    · rw [if_pos h1] at hle'
      rw [if_pos h1, if_pos h1]
      have hr := runLen_app (c :: u) v z hi hle'
      have hr' : runLen (c :: (u ++ z)) = runLen (c :: (u ++ v)) := hr
      rw [hr', ht _ hle']
    · rw [if_neg h1] at hle'
      rw [if_neg h1, if_neg h1]
      by_cases h2 : (isDigit c.toNat || (c.toNat == 45 && isDigit (bt (u ++ v) 0))) = true
      · rw [if_pos h2] at hle'
        have hlr : runLen (u ++ v) + 1 ≤ u.length + 1 := by split at hle' <;> exact hle'
        have hr' := runLen_app u v z hi (by omega)
        have h2' : (isDigit c.toNat || (c.toNat == 45 && isDigit (bt (u ++ z) 0))) = true := by
          cases hd : isDigit c.toNat
          · rw [hd] at h2
            have h3 : isDigit (bt (u ++ v) 0) = true := by simp at h2; exact h2.2
            have hu : u ≠ [] := by
              rintro rfl
              have : isInner (bt v 0) = true := by
                have h3' : isDigit (bt v 0) = true := h3
                unfold isInner
                rw [h3']
                simp
              cases v with
              | nil => simp [bt] at this; exact absurd this (by decide)
              | cons a b =>
                rw [bt_cons_zero] at this
                simp [runLen, this] at hlr
            rw [hb hu]
            simpa using h2
          · simp
        rw [if_pos h2, if_pos h2', hr', ht _ hlr]
      · rw [if_neg h2] at hle'
        have h2' : ¬ (isDigit c.toNat || (c.toNat == 45 && isDigit (bt (u ++ z) 0))) = true := by
          by_cases hu : u = []
          · subst hu
            simp only [Bool.or_eq_true, Bool.and_eq_true, not_or] at h2 ⊢
            refine ⟨h2.1, ?_⟩
            rintro ⟨_, h⟩
            have : bt ([] ++ z) 0 = 35 := h35
            rw [this] at h
            exact absurd h (by decide)
          · rw [hb hu]; exact h2
        rw [if_neg h2, if_neg h2']
        by_cases h3 : isSignC c.toNat = true
        · rw [if_pos h3] at hle'
          rw [if_pos h3, if_pos h3]
          by_cases hu : u = []
          · subst hu
            have e1 : ¬ ((c.toNat == 60 || c.toNat == 62) && bt ([] ++ v) 0 == 61) = true := by
              intro e
              rw [if_pos e] at hle'
              simp at hle'
            have e2 : ¬ ((c.toNat == 60 || c.toNat == 62) && bt ([] ++ z) 0 == 61) = true := by
              have : bt ([] ++ z) 0 = 35 := h35
              rw [this]
              simp
            rw [if_neg e1, if_neg e2]
          · rw [hb hu, ht 2 (by have := List.length_pos_iff.2 hu; omega)]
        · rw [if_neg h3] at hle'
          rw [if_neg h3, if_neg h3]
          by_cases h4 : c.toNat = 34
          · rw [if_pos h4] at hle'
            rw [if_pos h4, if_pos h4]
            rw [qscan_local u.length u v z (Nat.le_refl _) hz h35 hne (fun t k hq => by
              rw [hq] at hle'
              simpa using hle')]
          · rw [if_neg h4, if_neg h4]
theorem toks_cons (i : Item) (r : List Item) : toks (i :: r) = if i.kind = 6 ∨ i.kind = 0 then toks r else (i.kind, i.text) :: toks r := rfl
/-- The lexer's steps over a comment and its line's end. -/
theorem items_hash (r v : List UInt8) (h : ∀ c ∈ r, c.toNat ≠ 10) : toks (items (35 :: (r ++ 10 :: v))) = toks (items v) := by
  have hl : lineLen (35 :: (r ++ 10 :: v)) = r.length + 1 := by
    have := lineLen_free (35 :: r) v (by intro c hc; rcases List.mem_cons.1 hc with rfl | hc; decide; exact h c hc)
    exact this
  have hs : stepItem (35 :: (r ++ 10 :: v)) = ⟨6, [], r.length + 1⟩ := by
    unfold stepItem
    simp only
    rw [if_neg (by decide), if_pos (by decide), hl]
  have hd : (35 :: (r ++ 10 :: v)).drop (r.length + 1) = 10 :: v := by simp
  have hs2 : stepItem (10 :: v) = ⟨6, [], 1⟩ := by
    unfold stepItem
    simp only
    rw [if_pos (by decide)]
  rw [items_cons _ (by simp), hs, toks_cons, if_pos (.inl rfl)]
  simp only
  rw [hd, items_cons _ (by simp), hs2, toks_cons, if_pos (.inl rfl)]
  rfl
theorem toks_al (r v : List UInt8) (hv : Opens v) (h : ∀ c ∈ r, c.toNat ≠ 34 ∧ c.toNat ≠ 10) : ∀ u, Al u v → toks (items (u ++ 35 :: (r ++ 10 :: v))) = toks (items (u ++ v)) := by
  intro u hu
  induction hu with
  | nil w => exact items_hash r _ (fun c hc => (h c hc).2)
  | step u w hne hle _ ih =>
    have ih' := ih hv
    have hz := qscan_hash r w h
    have h35 : bt (35 :: (r ++ 10 :: w)) 0 = 35 := rfl
    have hzn : (35 :: (r ++ 10 :: w)) ≠ [] := by simp
    have happ : ∀ x : List UInt8, u ++ x ≠ [] := fun x => by simp [hne]
    have main : stepItem (u ++ 35 :: (r ++ 10 :: w)) = stepItem (u ++ w) → toks (items (u ++ 35 :: (r ++ 10 :: w))) = toks (items (u ++ w)) := by
      intro e
      rw [items_cons _ (happ _), items_cons (u ++ w) (happ _), e, List.drop_append_of_le_length hle, List.drop_append_of_le_length hle, toks_cons, toks_cons, ih']
    cases u with
    | nil => exact absurd rfl hne
    | cons c u =>
      by_cases hb : isBlankC c.toNat = true
      · apply main
        show stepItem (c :: (u ++ 35 :: (r ++ 10 :: w))) = stepItem (c :: (u ++ w))
        unfold stepItem
        simp only
        rw [if_pos hb, if_pos hb]
      · by_cases h5 : c.toNat = 35
        · have e1 : stepItem (c :: u ++ w) = ⟨6, [], lineLen (c :: u ++ w)⟩ := by
            show stepItem (c :: (u ++ w)) = _
            unfold stepItem
            simp only
            rw [if_neg hb, if_pos h5]
            rfl
          have e2 : stepItem (c :: u ++ 35 :: (r ++ 10 :: w)) = ⟨6, [], lineLen (c :: u ++ 35 :: (r ++ 10 :: w))⟩ := by
            show stepItem (c :: (u ++ _)) = _
            unfold stepItem
            simp only
            rw [if_neg hb, if_pos h5]
            rfl
          rw [e1] at hle
          have hle2 : lineLen (c :: u ++ w) ≤ (c :: u).length := hle
          rcases Nat.lt_or_ge (lineLen (c :: u ++ w)) (c :: u).length with hlt | hge
          · apply main
            rw [e1, e2, lineLen_app _ _ _ hlt]
          · obtain ⟨hw0, hfree⟩ := lineLen_in (c :: u) w (by omega)
            have hw : w = [] := by
              rcases hv with hv | ⟨hs, hn⟩
              · exact hv
              · cases w with
                | nil => rfl
                | cons a b =>
                  exfalso
                  unfold lineLen at hw0
                  split at hw0
                  · rename_i ha
                    rw [bt_cons_zero] at hs
                    have := hs.1
                    rw [ha] at this
                    exact absurd this (by decide)
                  · omega
            subst hw
            have hl : lineLen (c :: u ++ 35 :: (r ++ [10])) = (c :: u ++ 35 :: r).length := by
              have := lineLen_free (c :: u ++ 35 :: r) [] (by
                intro x hx
                rcases List.mem_append.1 hx with hx | hx
                · exact hfree x hx
                · rcases List.mem_cons.1 hx with rfl | hx
                  · decide
                  · exact (h x hx).2)
              simpa using this
            have hd : (c :: u ++ 35 :: (r ++ [10])).drop (c :: u ++ 35 :: r).length = [10] := by
              have : (c :: u ++ 35 :: (r ++ [10])) = (c :: u ++ 35 :: r) ++ [10] := by simp
              rw [this, List.drop_left]
            have hs2 : stepItem [10] = ⟨6, [], 1⟩ := rfl
            rw [items_cons _ (happ _), e2, hl, toks_cons, if_pos (.inl rfl)]
            simp only
            rw [hd, items_cons _ (by simp), hs2, toks_cons, if_pos (.inl rfl)]
            have hl2 : lineLen (c :: u ++ []) = (c :: u).length := by simp only [List.append_nil] at hle2 hge ⊢; omega
            rw [items_cons (c :: u ++ []) (happ _), e1, toks_cons, if_pos (.inl rfl), hl2]
            simp
        · have e1 : ∀ x : List UInt8, stepItem (c :: u ++ x) = nextItem (c :: u ++ x) := by
            intro x
            show stepItem (c :: (u ++ x)) = nextItem (c :: (u ++ x))
            unfold stepItem
            simp only
            rw [if_neg hb, if_neg h5]
          apply main
          rw [e1, e1]
          rw [e1] at hle
          exact next_local (c :: u) w _ hne hz h35 hzn hle
/-- The law on comments, of the lexer in plain Lean. -/
theorem lex_comment (l r : List UInt8) (h : ∀ c ∈ r, c.toNat ≠ 34 ∧ c.toNat ≠ 10) (t : Tok) (ht : t ∈ (lex l).1) (b : Nat) (hb : t.at_ = b) :
    (lex (l.take b ++ 35 :: (r ++ 10 :: l.drop b))).1.map look = (lex l).1.map look := by
  obtain ⟨b', h1, h2, h3, h4⟩ := lex_al l t ht
  obtain rfl : b = b' := by omega
  rw [lex_toks, lex_toks, toks_al r _ h4 h _ h3, List.take_append_drop]
end Go.Proofs.YtlgdmbdhffdenaaGreatDoor

/- Plain laws: tokens that are joined with blanks come back. No program. -/
namespace Go.Proofs.YtlgdmbdhffdenaaGreatDoor
set_option linter.unusedVariables false
set_option linter.unusedSimpArgs false

/-- How a byte is written between quotes. -/
def esc1 (c : UInt8) : List UInt8 := if c.toNat = 34 then [92, 34] else if c.toNat = 92 then [92, 92] else if c.toNat = 10 then [92, 110] else [c]
def escape (s : List UInt8) : List UInt8 := s.flatMap esc1
/-- How a token is written. -/
def spell (t : Tok) : List UInt8 := if t.kind = 3 then 34 :: (escape t.text ++ [34]) else t.text
/-- What can be joined. -/
def okTok (t : Tok) : Bool := if t.kind = 1 then wordB t.text else if t.kind = 2 then intB t.text else if t.kind = 4 then signB t.text else if t.kind = 3 then textB t.text else false
/-- The joined bytes. -/
def joinB : List Tok → List UInt8
  | [] => []
  | t :: r => spell t ++ r.flatMap fun t => 32 :: spell t
theorem joinB_push (T : List Tok) (t : Tok) : joinB (T ++ [t]) = joinB T ++ (if T = [] then [] else [32]) ++ spell t := by
  cases T with
  | nil => simp [joinB]
  | cons a r => simp [joinB]
theorem spell_look {t t' : Tok} (h : look t = look t') : spell t = spell t' := by
  have h1 : t.kind = t'.kind := congrArg Prod.fst h
  have h2 : t.text = t'.text := congrArg Prod.snd h
  simp [spell, h1, h2]
theorem okTok_look {t t' : Tok} (h : look t = look t') : okTok t = okTok t' := by
  have h1 : t.kind = t'.kind := congrArg Prod.fst h
  have h2 : t.text = t'.text := congrArg Prod.snd h
  simp [okTok, h1, h2]
theorem flatMap_look {f : Tok → List UInt8} (hf : ∀ a b, look a = look b → f a = f b) : ∀ (T T' : List Tok), T.map look = T'.map look → T.flatMap f = T'.flatMap f
  | [], [], _ => rfl
  | [], _ :: _, h => by simp at h
  | _ :: _, [], h => by simp at h
  | a :: r, b :: r', h => by
    simp only [List.map_cons, List.cons.injEq] at h
    rw [List.flatMap_cons, List.flatMap_cons, hf a b h.1, flatMap_look hf r r' h.2]
theorem joinB_look (T T' : List Tok) (h : T.map look = T'.map look) : joinB T = joinB T' := by
  cases T with
  | nil => cases T' with
    | nil => rfl
    | cons b r' => simp at h
  | cons a r => cases T' with
    | nil => simp at h
    | cons b r' =>
      simp only [List.map_cons, List.cons.injEq] at h
      show spell a ++ r.flatMap (fun t => 32 :: spell t) = spell b ++ r'.flatMap (fun t => 32 :: spell t)
      rw [spell_look h.1, flatMap_look (fun a b e => by rw [spell_look e]) r r' h.2]

/-- What stands behind a token. -/
def Shut (v : List UInt8) : Prop := v = [] ∨ bt v 0 = 32
theorem Shut.inner {v : List UInt8} (h : Shut v) : isInner (bt v 0) = false := by
  rcases h with rfl | h
  · rfl
  · rw [h]; rfl
theorem Shut.ne61 {v : List UInt8} (h : Shut v) : (bt v 0 == 61) = false := by
  rcases h with rfl | h
  · rfl
  · rw [h]; rfl
theorem runLen_all (s v : List UInt8) (hs : ∀ c ∈ s, isInner c.toNat = true) (hv : isInner (bt v 0) = false) : runLen (s ++ v) = s.length := by
  induction s with
  | nil =>
    cases v with
    | nil => rfl
    | cons a b =>
      rw [bt_cons_zero] at hv
      simp [runLen, hv]
  | cons c s ih =>
    show runLen (c :: (s ++ v)) = s.length + 1
    unfold runLen
    rw [if_pos (hs c (by simp)), ih (fun x hx => hs x (by simp [hx]))]
theorem take_app (s v : List UInt8) (n : Nat) (hn : n = s.length) : (s ++ v).take n = s := by subst hn; simp
/-- The contents of a quoted text come back. -/
theorem qscan_escape (s v : List UInt8) (h : textB s = true) : qscan (escape s ++ 34 :: v) = some (s, (escape s).length + 1) := by
  induction s with
  | nil =>
    show qscan (34 :: v) = _
    rw [qscan.eq_def]
    simp only
    rw [if_pos (by decide)]
    rfl
  | cons c s ih =>
    have hc : c.toNat = 10 ∨ (32 ≤ c.toNat ∧ c.toNat ≤ 126) := by
      have := List.all_eq_true.1 h c (by simp)
      simpa using this
    have hs : textB s = true := by
      unfold textB at h ⊢
      rw [List.all_cons, Bool.and_eq_true] at h
      exact h.2
    have ih' := ih hs
    have e : escape (c :: s) = esc1 c ++ escape s := by simp [escape]
    rw [e, List.append_assoc, List.length_append]
    generalize escape s ++ 34 :: v = z at ih'
    unfold esc1
    split
    · rename_i h34
      have hc34 : c = 34 := UInt8.toNat_inj.1 h34
      subst hc34
      show qscan (92 :: 34 :: z) = _
      rw [qscan.eq_def]
      simp only
      rw [if_neg (by decide), if_neg (by decide), if_neg (by decide), if_pos (by decide), ih']
      simp; omega
    · split
      · rename_i h92
        have hc92 : c = 92 := UInt8.toNat_inj.1 h92
        subst hc92
        show qscan (92 :: 92 :: z) = _
        rw [qscan.eq_def]
        simp only
        rw [if_neg (by decide), if_neg (by decide), if_neg (by decide), if_pos (by decide), ih']
        simp; omega
      · split
        · rename_i h10
          have hc10 : c = 10 := UInt8.toNat_inj.1 h10
          subst hc10
          show qscan (92 :: 110 :: z) = _
          rw [qscan.eq_def]
          simp only
          rw [if_neg (by decide), if_neg (by decide), if_neg (by decide), if_neg (by decide), if_pos (by decide), ih']
          simp; omega
        · rename_i h1 h2 h3
          show qscan (c :: z) = _
          rw [qscan.eq_def]
          simp only
          rw [if_neg h1, if_neg (by omega), if_pos h2, ih']
          simp; omega
theorem letter_solid {c : Nat} (h : isLetter c = true) : isBlankC c = false ∧ c ≠ 35 := by
  constructor
  · cases hb : isBlankC c
    · rfl
    · rw [(blank_other hb).1] at h; cases h
  · rintro rfl; exact absurd h (by decide)
theorem digit_solid {c : Nat} (h : isDigit c = true) : isBlankC c = false ∧ c ≠ 35 := by
  constructor
  · cases hb : isBlankC c
    · rfl
    · rw [(blank_other hb).2.1] at h; cases h
  · rintro rfl; exact absurd h (by decide)
theorem sign_solid {c : Nat} (h : isSignC c = true) : isBlankC c = false ∧ c ≠ 35 := by
  constructor
  · cases hb : isBlankC c
    · rfl
    · rw [(blank_other hb).2.2] at h; cases h
  · rintro rfl; exact absurd h (by decide)
theorem step_of_solid (c : UInt8) (r : List UInt8) (h : isBlankC c.toNat = false ∧ c.toNat ≠ 35) : stepItem (c :: r) = nextItem (c :: r) := by
  unfold stepItem
  simp only
  rw [if_neg (by rw [h.1]; decide), if_neg h.2]
theorem digit_inner {c : Nat} (h : isDigit c = true) : isInner c = true := by simp [isInner, h]
theorem step_word (s v : List UInt8) (h : wordB s = true) (hv : Shut v) : stepItem (s ++ v) = ⟨1, s, s.length⟩ := by
  cases s with
  | nil => simp [wordB] at h
  | cons c s =>
    unfold wordB at h
    simp only [Bool.and_eq_true, List.all_eq_true] at h
    obtain ⟨⟨_, h1⟩, h2⟩ := h
    rw [bt_cons_zero] at h1
    have hr := runLen_all (c :: s) v h2 hv.inner
    have hr' : runLen (c :: (s ++ v)) = (c :: s).length := hr
    show stepItem (c :: (s ++ v)) = _
    rw [step_of_solid c _ (letter_solid h1)]
    unfold nextItem
    simp only
    rw [if_pos h1, hr']
    have := take_app (c :: s) v _ rfl
    have h' : (c :: (s ++ v)).take (c :: s).length = c :: s := this
    rw [h']
theorem step_digits (c : UInt8) (s v : List UInt8) (h1 : isDigit c.toNat = true ∨ (c.toNat = 45 ∧ isDigit (bt (s ++ v) 0) = true)) (h2 : ∀ x ∈ s, isDigit x.toNat = true) (hi : intB (c :: s) = true) (hv : Shut v) : stepItem (c :: s ++ v) = ⟨2, c :: s, (c :: s).length⟩ := by
  have hr := runLen_all s v (fun x hx => digit_inner (h2 x hx)) hv.inner
  show stepItem (c :: (s ++ v)) = _
  have hsol : isBlankC c.toNat = false ∧ c.toNat ≠ 35 := by
    rcases h1 with h1 | ⟨h1, _⟩
    · exact digit_solid h1
    · rw [h1]; exact ⟨by decide, by decide⟩
  have hnl : ¬ isLetter c.toNat = true := by
    rcases h1 with h1 | ⟨h1, _⟩
    · rw [isDigit_not_letter h1]; decide
    · rw [h1]; decide
  have hd : (isDigit c.toNat || (c.toNat == 45 && isDigit (bt (s ++ v) 0))) = true := by
    rcases h1 with h1 | ⟨h1, h3⟩
    · simp [h1]
    · simp [h1, h3]
  rw [step_of_solid c _ hsol]
  unfold nextItem
  simp only
  rw [if_neg hnl, if_pos hd, hr]
  have h' : (c :: (s ++ v)).take (s.length + 1) = c :: s := take_app (c :: s) v _ rfl
  rw [h', if_pos hi]
  rfl
theorem numB_all {s : List UInt8} (h : numB s = true) : s ≠ [] ∧ ∀ x ∈ s, isDigit x.toNat = true := by
  unfold numB at h
  simp only [Bool.and_eq_true, List.all_eq_true] at h
  refine ⟨?_, h.2⟩
  rintro rfl
  simp at h
theorem step_int (s v : List UInt8) (h : intB s = true) (hv : Shut v) : stepItem (s ++ v) = ⟨2, s, s.length⟩ := by
  have h0 := h
  unfold intB at h
  rw [Bool.or_eq_true] at h
  rcases h with h | h
  · have : s = [48] := by simpa using h
    subst this
    exact step_digits 48 [] v (.inl (by decide)) (by simp) h0 hv
  · cases s with
    | nil => simp [bt, numB] at h
    | cons c s =>
      rw [bt_cons_zero] at h
      split at h
      · rename_i h45
        obtain ⟨hn, ha⟩ := numB_all h
        have hn' : s ≠ [] := hn
        have ha' : ∀ x ∈ s, isDigit x.toNat = true := ha
        refine step_digits c s v (.inr ⟨h45, ?_⟩) ha' h0 hv
        cases s with
        | nil => exact absurd rfl hn'
        | cons d s' => exact ha' d (by simp)
      · obtain ⟨_, ha⟩ := numB_all h
        exact step_digits c s v (.inl (ha c (by simp))) (fun x hx => ha x (by simp [hx])) h0 hv
theorem step_signs (c : UInt8) (r : List UInt8) (h : isSignC c.toNat = true) : stepItem (c :: r) = if (c.toNat == 60 || c.toNat == 62) && bt r 0 == 61 then ⟨4, (c :: r).take 2, 2⟩ else ⟨4, [c], 1⟩ := by
  rw [step_of_solid c _ (sign_solid h)]
  unfold nextItem
  simp only
  have ho := sign_other h
  have h45 : (c.toNat == 45) = false := by
    cases hc : c.toNat == 45
    · rfl
    · rw [beq_iff_eq] at hc
      rw [hc] at h
      exact absurd h (by decide)
  rw [if_neg (by rw [ho.1]; decide), if_neg (by rw [ho.2, h45]; simp), if_pos h]
theorem step_sign (s v : List UInt8) (h : signB s = true) (hv : Shut v) : stepItem (s ++ v) = ⟨4, s, s.length⟩ := by
  unfold signB at h
  simp only [Bool.or_eq_true] at h
  rcases h with (h | h) | h
  · rw [Bool.and_eq_true] at h
    have hl : s.length = 1 := by simpa using h.1
    obtain ⟨c, rfl⟩ : ∃ c, s = [c] := by
      cases s with
      | nil => simp at hl
      | cons c s => cases s with
        | nil => exact ⟨c, rfl⟩
        | cons d s => simp at hl
    have hc : isSignC c.toNat = true := h.2
    show stepItem (c :: v) = _
    rw [step_signs c v hc, hv.ne61]
    simp
  · have : s = [60, 61] := by simpa using h
    subst this
    show stepItem (60 :: 61 :: v) = _
    rw [step_signs 60 _ (by decide)]
    rfl
  · have : s = [62, 61] := by simpa using h
    subst this
    show stepItem (62 :: 61 :: v) = _
    rw [step_signs 62 _ (by decide)]
    rfl
theorem step_text (s v : List UInt8) (h : textB s = true) : stepItem ((34 :: (escape s ++ [34])) ++ v) = ⟨3, s, (34 :: (escape s ++ [34])).length⟩ := by
  have e : (34 :: (escape s ++ [34])) ++ v = 34 :: (escape s ++ 34 :: v) := by simp
  rw [e, step_of_solid 34 _ (by decide)]
  unfold nextItem
  simp only
  rw [if_neg (by decide), if_neg (by simp; decide), if_neg (by decide), if_pos (by decide), qscan_escape s v h]
  simp
/-- The lexer's step over a token that was written. -/
theorem step_spell (t : Tok) (v : List UInt8) (h : okTok t = true) (hv : Shut v) : ∃ k : Nat, t.kind = k ∧ k ≠ 0 ∧ k ≠ 6 ∧ stepItem (spell t ++ v) = ⟨k, t.text, (spell t).length⟩ := by
  unfold okTok at h
  split at h
  · rename_i hk
    refine ⟨1, hk, by omega, by omega, ?_⟩
    have : spell t = t.text := by unfold spell; rw [if_neg (by omega)]
    rw [this]
    exact step_word _ v h hv
  · split at h
    · rename_i hk
      refine ⟨2, hk, by omega, by omega, ?_⟩
      have : spell t = t.text := by unfold spell; rw [if_neg (by omega)]
      rw [this]
      exact step_int _ v h hv
    · split at h
      · rename_i hk
        refine ⟨4, hk, by omega, by omega, ?_⟩
        have : spell t = t.text := by unfold spell; rw [if_neg (by omega)]
        rw [this]
        exact step_sign _ v h hv
      · split at h
        · rename_i hk
          refine ⟨3, hk, by omega, by omega, ?_⟩
          have : spell t = 34 :: (escape t.text ++ [34]) := by unfold spell; rw [if_pos hk]
          rw [this]
          exact step_text _ v h
        · cases h
theorem spell_ne (t : Tok) (h : okTok t = true) : spell t ≠ [] := by
  obtain ⟨k, _, _, _, h1⟩ := step_spell t [] h (.inl rfl)
  intro e
  rw [e] at h1
  have : stepItem [] = ⟨6, [], 1⟩ := rfl
  rw [show ([] : List UInt8) ++ [] = [] from rfl, this] at h1
  injection h1 with _ _ h3
  simp at h3
/-- The steps over joined tokens. -/
theorem items_rest : ∀ (r : List Tok), (∀ t ∈ r, okTok t = true) → (toks (items (r.flatMap fun t => 32 :: spell t))).map (fun x => ((x.1 : Int), x.2)) = r.map look ∧ ∀ i ∈ items (r.flatMap fun t => 32 :: spell t), i.kind ≠ 0
  | [], _ => by simp [items_nil, toks]
  | t :: r, h => by
    obtain ⟨i1, i2⟩ := items_rest r (fun x hx => h x (by simp [hx]))
    have hv : Shut (r.flatMap fun t => 32 :: spell t) := by
      cases r with
      | nil => exact .inl rfl
      | cons a b => exact .inr rfl
    obtain ⟨k, hk, hk0, hk6, hs⟩ := step_spell t _ (h t (by simp)) hv
    have hne := spell_ne t (h t (by simp))
    have hsp : stepItem (32 :: (spell t ++ r.flatMap fun t => 32 :: spell t)) = ⟨6, [], 1⟩ := by
      unfold stepItem
      simp only
      rw [if_pos (by decide)]
    have e : ((t :: r).flatMap fun t => 32 :: spell t) = 32 :: (spell t ++ r.flatMap fun t => 32 :: spell t) := by simp
    rw [e, items_cons _ (by simp), hsp]
    simp only [List.drop_succ_cons, List.drop_zero]
    rw [items_cons _ (by simp [hne]), hs]
    simp only
    rw [List.drop_left]
    refine ⟨?_, ?_⟩
    · rw [toks_cons, if_pos (.inl rfl), toks_cons, if_neg (by rintro (h | h); exact hk6 h; exact hk0 h), List.map_cons, i1, List.map_cons]
      simp [look, hk]
    · intro i hi
      rcases List.mem_cons.1 hi with rfl | hi
      · decide
      · rcases List.mem_cons.1 hi with rfl | hi
        · exact hk0
        · exact i2 i hi
theorem items_join (T : List Tok) (h : ∀ t ∈ T, okTok t = true) : (toks (items (joinB T))).map (fun x => ((x.1 : Int), x.2)) = T.map look ∧ ∀ i ∈ items (joinB T), i.kind ≠ 0 := by
  cases T with
  | nil => simp [joinB, items_nil, toks]
  | cons t r =>
    obtain ⟨i1, i2⟩ := items_rest r (fun x hx => h x (by simp [hx]))
    have hv : Shut (r.flatMap fun t => 32 :: spell t) := by
      cases r with
      | nil => exact .inl rfl
      | cons a b => exact .inr rfl
    obtain ⟨k, hk, hk0, hk6, hs⟩ := step_spell t _ (h t (by simp)) hv
    have hne := spell_ne t (h t (by simp))
    unfold joinB
    rw [items_cons _ (by simp [hne]), hs]
    simp only
    rw [List.drop_left]
    refine ⟨?_, ?_⟩
    · rw [toks_cons, if_neg (by rintro (h | h); exact hk6 h; exact hk0 h), List.map_cons, i1, List.map_cons]
      simp [look, hk]
    · intro i hi
      rcases List.mem_cons.1 hi with rfl | hi
      · exact hk0
      · exact i2 i hi
theorem fin_probs : ∀ (I : List Item) (T : List Tok) (P : List Prob) (E : Int) (a : Nat), (∀ i ∈ I, i.kind ≠ 0) → (fin T P E a I).2 = P
  | [], T, P, E, a, _ => rfl
  | i :: r, T, P, E, a, h => by
    unfold fin
    have h0 := h i (by simp)
    have hr := fun x hx => h x (List.mem_cons_of_mem i hx)
    split
    · exact fin_probs r _ _ _ _ hr
    · exact fin_probs r _ _ _ _ hr
/-- The law: joined tokens come back. -/
theorem lex_join (T : List Tok) (h : ∀ t ∈ T, okTok t = true) : (lex (joinB T)).1.map look = T.map look ++ [(5, [])] ∧ (lex (joinB T)).2 = [] := by
  obtain ⟨h1, h2⟩ := items_join T h
  exact ⟨by rw [lex_toks, h1], fin_probs _ _ _ _ _ h2⟩

/-- The contents of a quoted text can be quoted, and take no more bytes. -/
theorem qscan_text : ∀ (n : Nat) (s : List UInt8), s.length ≤ n → ∀ t k, qscan s = some (t, k) → textB t = true ∧ (escape t).length + 1 ≤ k
  | 0, s, hn, t, k, h => by
    have : s = [] := List.eq_nil_of_length_eq_zero (by omega)
    subst this
    simp [qscan] at h
  | n + 1, [], _, t, k, h => by simp [qscan] at h
  | n + 1, c :: r, hn, t, k, h => by
    have hcons : ∀ (d : UInt8) (s : List UInt8), escape (d :: s) = esc1 d ++ escape s := by intro d s; simp [escape]
    have htext : ∀ (d : UInt8) (s : List UInt8), (d.toNat = 10 ∨ (32 ≤ d.toNat ∧ d.toNat ≤ 126)) → textB s = true → textB (d :: s) = true := by
      intro d s hd hs
      unfold textB at hs ⊢
      rw [List.all_cons, hs]
      simpa using hd
    have hesc : ∀ d : UInt8, (esc1 d).length ≤ 2 := by intro d; unfold esc1; (repeat' split) <;> simp
    rw [qscan.eq_def] at h
    simp only at h
    split at h
    · injection h with h; injection h with h1 h2; subst h1 h2; simp [textB, escape]
    · split at h
      · cases h
      · rename_i hc1 hc2
        split at h
        · rename_i hc3
          cases hq : qscan r with
          | none => rw [hq] at h; cases h
          | some x =>
            have ih := qscan_text n r (by simp at hn; omega) x.1 x.2 (by rw [hq])
            rw [hq] at h
            simp at h
            obtain ⟨rfl, rfl⟩ := h
            refine ⟨htext _ _ (.inr (by omega)) ih.1, ?_⟩
            have : esc1 c = [c] := by unfold esc1; rw [if_neg hc1, if_neg hc3, if_neg (by omega)]
            rw [hcons, this]
            simp; omega
        · split at h
          · cases h
          · rename_i d r'
            split at h
            · rename_i hd
              cases hq : qscan r' with
              | none => rw [hq] at h; cases h
              | some x =>
                have ih := qscan_text n r' (by simp at hn; omega) x.1 x.2 (by rw [hq])
                rw [hq] at h
                simp at h
                obtain ⟨rfl, rfl⟩ := h
                refine ⟨htext _ _ (.inr (by omega)) ih.1, ?_⟩
                have := hesc d
                rw [hcons, List.length_append]
                omega
            · split at h
              · cases hq : qscan r' with
                | none => rw [hq] at h; cases h
                | some x =>
                  have ih := qscan_text n r' (by simp at hn; omega) x.1 x.2 (by rw [hq])
                  rw [hq] at h
                  simp at h
                  obtain ⟨rfl, rfl⟩ := h
                  refine ⟨htext _ _ (.inl (by decide)) ih.1, ?_⟩
                  have := hesc 10
                  rw [hcons, List.length_append]
                  omega
              · cases h
theorem runLen_inner (s : List UInt8) : ∀ c ∈ s.take (runLen s), isInner c.toNat = true := by
  induction s with
  | nil => simp [runLen]
  | cons c r ih =>
    unfold runLen
    split
    · rename_i h
      intro x hx
      rw [List.take_succ_cons] at hx
      rcases List.mem_cons.1 hx with rfl | hx
      · exact h
      · exact ih x hx
    · simp
/-- What the lexer finds can be joined, and takes no more bytes. -/
theorem next_ok (s : List UInt8) (a : Int) (h0 : (nextItem s).kind ≠ 0) : okTok ⟨(nextItem s).kind, (nextItem s).text, a⟩ = true ∧ (spell ⟨(nextItem s).kind, (nextItem s).text, a⟩).length ≤ (nextItem s).len := by
  cases s with
  | nil => simp [nextItem] at h0
  | cons c r =>
    unfold nextItem at h0 ⊢
    simp only at h0 ⊢
    by_cases h1 : isLetter c.toNat = true
    · rw [if_pos h1] at h0 ⊢
      refine ⟨?_, by simp [spell]; omega⟩
      show wordB ((c :: r).take (runLen (c :: r))) = true
      have hin : isInner c.toNat = true := by simp [isInner, h1]
      have hl : runLen (c :: r) = runLen r + 1 := by simp [runLen, hin]
      have ha := runLen_inner (c :: r)
      rw [hl] at ha ⊢
      rw [List.take_succ_cons] at ha ⊢
      unfold wordB
      rw [bt_cons_zero, h1, List.all_eq_true.2 ha]
      rfl
    · rw [if_neg h1] at h0 ⊢
      by_cases h2 : (isDigit c.toNat || (c.toNat == 45 && isDigit (bt r 0))) = true
      · rw [if_pos h2] at h0 ⊢
        by_cases h3 : intB ((c :: r).take (runLen r + 1)) = true
        · rw [if_pos h3] at h0 ⊢
          exact ⟨h3, by simp [spell]; omega⟩
        · rw [if_neg h3] at h0
          exact absurd rfl h0
      · rw [if_neg h2] at h0 ⊢
        by_cases h3 : isSignC c.toNat = true
        · rw [if_pos h3] at h0 ⊢
          by_cases h4 : ((c.toNat == 60 || c.toNat == 62) && bt r 0 == 61) = true
          · rw [if_pos h4] at h0 ⊢
            refine ⟨?_, by simp [spell]; omega⟩
            show signB ((c :: r).take 2) = true
            simp only [Bool.and_eq_true, Bool.or_eq_true, beq_iff_eq] at h4
            obtain ⟨d, r', rfl⟩ : ∃ d r', r = d :: r' := by
              cases r with
              | nil => have := h4.2; simp [bt] at this
              | cons d r' => exact ⟨d, r', rfl⟩
            rw [bt_cons_zero] at h4
            have hd : d = 61 := UInt8.toNat_inj.1 h4.2
            subst hd
            rcases h4.1 with hc | hc
            · have hc' : c = 60 := UInt8.toNat_inj.1 hc
              subst hc'
              rfl
            · have hc' : c = 62 := UInt8.toNat_inj.1 hc
              subst hc'
              rfl
          · rw [if_neg h4] at h0 ⊢
            refine ⟨?_, by simp [spell]⟩
            show signB [c] = true
            unfold signB
            rw [bt_cons_zero, h3]
            simp
        · rw [if_neg h3] at h0 ⊢
          by_cases h4 : c.toNat = 34
          · rw [if_pos h4] at h0 ⊢
            cases hq : qscan r with
            | none => rw [hq] at h0; exact absurd rfl h0
            | some x =>
              have := qscan_text r.length r (Nat.le_refl _) x.1 x.2 hq
              refine ⟨this.1, ?_⟩
              show (34 :: (escape x.1 ++ [34])).length ≤ x.2 + 1
              simp; omega
          · rw [if_neg h4] at h0
            exact absurd rfl h0
/-- The written length of tokens, each with a separator. -/
def wide (T : List Tok) : Nat := (T.map fun t => (spell t).length + 1).sum
theorem joinB_len (T : List Tok) : (joinB T).length ≤ wide T := by
  have : ∀ r : List Tok, (r.flatMap fun t => 32 :: spell t).length = wide r := by
    intro r
    induction r with
    | nil => rfl
    | cons a r ih => rw [List.flatMap_cons, List.length_append, ih]; simp [wide]
  cases T with
  | nil => simp [joinB]
  | cons t r =>
    unfold joinB
    rw [List.length_append, this]
    simp [wide]
theorem fin_ok (l : List UInt8) : ∀ (d a : Nat) (T : List Tok) (P : List Prob) (E : Int), l.length - a ≤ d → a ≤ l.length → (∀ t ∈ T, okTok t = true) → wide T ≤ 2 * a →
    ∃ T', (fin T P E a (items (l.drop a))).1 = T' ++ [⟨5, [], l.length⟩] ∧ (∀ t ∈ T', okTok t = true) ∧ wide T' ≤ 2 * l.length := by
  intro d
  induction d with
  | zero =>
    intro a T P E hd ha hT hw
    have : a = l.length := by omega
    subst this
    exact ⟨T, by rw [drop_all l _ (Nat.le_refl _), items_nil]; rfl, hT, hw⟩
  | succ d ih =>
    intro a T P E hd ha hT hw
    rcases Nat.eq_or_lt_of_le ha with rfl | hlt
    · exact ⟨T, by rw [drop_all l _ (Nat.le_refl _), items_nil]; rfl, hT, hw⟩
    · have hpos := stepItem_pos (l.drop a)
      have hlen := stepItem_len (l.drop a) (drop_ne l a hlt)
      rw [List.length_drop] at hlen
      rw [items_cons _ (drop_ne l a hlt)]
      simp only [fin, List.drop_drop]
      by_cases h6 : (stepItem (l.drop a)).kind = 6
      · rw [if_pos h6]
        exact ih _ _ _ _ (by omega) (by omega) hT (by omega)
      · rw [if_neg h6]
        obtain ⟨_, hs⟩ := step_next _ h6
        by_cases h0 : (stepItem (l.drop a)).kind = 0
        · rw [if_pos h0]
          exact ih _ _ _ _ (by omega) (by omega) hT (by omega)
        · rw [if_neg h0]
          rw [hs] at h0 hpos hlen ⊢
          obtain ⟨k1, k2⟩ := next_ok (l.drop a) (a : Int) h0
          refine ih _ _ _ _ (by omega) (by omega) (fun t ht => ?_) ?_
          · rcases List.mem_append.1 ht with ht | ht
            · exact hT t ht
            · obtain rfl := List.mem_singleton.1 ht
              exact k1
          · unfold wide at hw ⊢
            simp only [List.map_append, List.sum_append, List.map_cons, List.map_nil, List.sum_cons, List.sum_nil]
            omega
/-- The law: the tokens of a text can be joined. -/
theorem lex_ok (l : List UInt8) : ∃ T, (lex l).1 = T ++ [⟨5, [], l.length⟩] ∧ (∀ t ∈ T, okTok t = true) ∧ (joinB T).length ≤ 2 * l.length := by
  obtain ⟨T, h1, h2, h3⟩ := fin_ok l l.length 0 [] [] (-1) (by omega) (Nat.zero_le _) (by simp) (by simp [wide])
  exact ⟨T, by simpa [lex] using h1, h2, Nat.le_trans (joinB_len T) h3⟩
end Go.Proofs.YtlgdmbdhffdenaaGreatDoor

/- Plain laws: the lexer on a text without invalid bytes and a line's end and another text. No program. -/
namespace Go.Proofs.YtlgdmbdhffdenaaGreatDoor
set_option linter.unusedVariables false
set_option linter.unusedSimpArgs false

theorem qscan_app : ∀ (n : Nat) (r v : List UInt8) (x : List UInt8 × Nat), r.length ≤ n → qscan r = some x → qscan (r ++ v) = some x
  | _, [], v, x, _, h => by rw [qscan.eq_def] at h; cases h
  | 0, c :: r, v, x, hn, _ => by simp at hn
  | n + 1, c :: r, v, x, hn, h => by
    have hn' : r.length ≤ n := by simpa using hn
    show qscan (c :: (r ++ v)) = some x
    rw [qscan.eq_def] at h ⊢
    simp only at h ⊢
    split
    · next h1 => rw [if_pos h1] at h; exact h
    · next h1 =>
      rw [if_neg h1] at h
      split
      · next h2 => rw [if_pos h2] at h; cases h
      · next h2 =>
        rw [if_neg h2] at h
        split
        · next h3 =>
          rw [if_pos h3] at h
          obtain ⟨y, hy, rfl⟩ := Option.map_eq_some_iff.1 h
          rw [qscan_app n r v y hn' hy]
          rfl
        · next h3 =>
          rw [if_neg h3] at h
          cases r with
          | nil => cases h
          | cons e r' =>
            have hn2 : r'.length ≤ n := by simp at hn'; omega
            simp only [List.cons_append] at h ⊢
            split
            · next h4 =>
              rw [if_pos h4] at h
              obtain ⟨y, hy, rfl⟩ := Option.map_eq_some_iff.1 h
              rw [qscan_app n r' v y hn2 hy]
              rfl
            · next h4 =>
              rw [if_neg h4] at h
              split
              · next h5 =>
                rw [if_pos h5] at h
                obtain ⟨y, hy, rfl⟩ := Option.map_eq_some_iff.1 h
                rw [qscan_app n r' v y hn2 hy]
                rfl
              · next h5 => rw [if_neg h5] at h; cases h
theorem lineLen_nl : ∀ (u v : List UInt8), lineLen (u ++ 10 :: v) = lineLen u
  | [], v => by simp [lineLen]
  | c :: u, v => by
    show lineLen (c :: (u ++ 10 :: v)) = _
    unfold lineLen
    split
    · rfl
    · rw [lineLen_nl u v]
theorem runLen_nl : ∀ (u v : List UInt8), runLen (u ++ 10 :: v) = runLen u
  | [], v => by simp [runLen, isInner, isLetter, isDigit]
  | c :: u, v => by
    show runLen (c :: (u ++ 10 :: v)) = _
    unfold runLen
    split
    · rw [runLen_nl u v]
    · rfl
theorem step_nl (u v : List UInt8) (hu : u ≠ []) (hk : (stepItem u).kind ≠ 0) : stepItem (u ++ 10 :: v) = stepItem u := by
  cases u with
  | nil => exact absurd rfl hu
  | cons c u =>
    have ht : ∀ k, k ≤ u.length + 1 → (c :: (u ++ 10 :: v)).take k = (c :: u).take k := by
      intro k hk
      exact List.take_append_of_le_length (l₁ := c :: u) (l₂ := 10 :: v) (i := k) (by simpa using hk)
    have hb : ∀ q : Nat, q = 61 ∨ isDigit q = true → (bt (u ++ 10 :: v) 0 = q ↔ bt u 0 = q) := by
      intro q hq
      cases u with
      | nil =>
        have e1 : bt ([] ++ 10 :: v) 0 = 10 := rfl
        have e2 : bt ([] : List UInt8) 0 = 0 := rfl
        rw [e1, e2]
        rcases hq with rfl | hq
        · decide
        · constructor <;> rintro rfl <;> exact absurd hq (by decide)
      | cons a b => exact Iff.rfl
    have hd : isDigit (bt (u ++ 10 :: v) 0) = isDigit (bt u 0) := by
      cases u with
      | nil => rfl
      | cons a b => rfl
    have h61 : (bt (u ++ 10 :: v) 0 == 61) = (bt u 0 == 61) := by
      cases u with
      | nil => rfl
      | cons a b => rfl
    show stepItem (c :: (u ++ 10 :: v)) = _
    unfold stepItem at hk ⊢
    simp only at hk ⊢
    split
    · rfl
    · next h1 =>
      rw [if_neg h1] at hk
      split
      · next h2 =>
        have := lineLen_nl (c :: u) v
        have h3 : lineLen (c :: (u ++ 10 :: v)) = lineLen (c :: u) := this
        rw [h3]
      · next h2 =>
        rw [if_neg h2] at hk
        unfold nextItem at hk ⊢
        simp only at hk ⊢
        have hr : runLen (c :: (u ++ 10 :: v)) = runLen (c :: u) := runLen_nl (c :: u) v
        rw [hr, hd, h61, runLen_nl u v, ht _ (runLen_le (c :: u)), ht (runLen u + 1) (by have := runLen_le u; omega)]
        split
        · rfl
        · next h3 =>
          rw [if_neg h3] at hk
          split
          · rfl
          · next h4 =>
            rw [if_neg h4] at hk
            split
            · next h5 =>
              split
              · next h6 =>
                rw [ht 2 ?_]
                cases u with
                | nil => simp [bt] at h6
                | cons a b => simp
              · rfl
            · next h5 =>
              rw [if_neg h5] at hk
              split
              · next h6 =>
                rw [if_pos h6] at hk
                cases hq : qscan u with
                | none => rw [hq] at hk; exact absurd rfl hk
                | some x => rw [qscan_app u.length u _ x (Nat.le_refl _) hq]
              · rfl
/-- No invalid bytes. -/
def Clean (u : List UInt8) : Prop := ∀ i ∈ items u, i.kind ≠ 0
theorem Clean.step {u : List UInt8} (h : Clean u) (hu : u ≠ []) : (stepItem u).kind ≠ 0 ∧ Clean (u.drop (stepItem u).len) := by
  unfold Clean at h
  rw [items_cons u hu] at h
  exact ⟨h _ (by simp), fun i hi => h i (by simp [hi])⟩
theorem items_nl (v : List UInt8) : ∀ (n : Nat) (u : List UInt8), u.length ≤ n → Clean u → items (u ++ 10 :: v) = items u ++ ⟨6, [], 1⟩ :: items v
  | _, [], _, _ => by
    rw [items_nil, List.nil_append, List.nil_append, items_cons _ (by simp)]
    have hs2 : stepItem (10 :: v) = ⟨6, [], 1⟩ := by
      unfold stepItem
      simp only
      rw [if_pos (by decide)]
    rw [hs2]
    rfl
  | 0, c :: u, hn, _ => by simp at hn
  | n + 1, c :: u, hn, h => by
    have hne : c :: u ≠ [] := by simp
    obtain ⟨h1, h2⟩ := h.step hne
    have hl := stepItem_len (c :: u) hne
    have hp := stepItem_pos (c :: u)
    rw [items_cons (c :: u ++ 10 :: v) (by simp), step_nl _ v hne h1, items_cons (c :: u) hne, List.drop_append_of_le_length hl,
      items_nl v n _ (by rw [List.length_drop]; simp at hn ⊢; omega) h2]
    rfl
theorem fin_clean : ∀ (I : List Item) (T : List Tok) (E : Int) (a : Nat), E < a → (fin T [] E a I).2 = [] → ∀ i ∈ I, i.kind ≠ 0
  | [], _, _, _, _, _ => by simp
  | i :: r, T, E, a, hE, h => by
    unfold fin at h
    by_cases h6 : i.kind = 6
    · rw [if_pos h6] at h
      intro j hj
      rcases List.mem_cons.1 hj with rfl | hj
      · omega
      · exact fin_clean r _ _ _ (by omega) h j hj
    · rw [if_neg h6] at h
      by_cases h0 : i.kind = 0
      · rw [if_pos h0] at h
        exfalso
        rw [if_pos ⟨by omega, by simp⟩] at h
        have : ∀ (I : List Item) (T : List Tok) (P : List Prob) (E : Int) (a : Nat), P ≠ [] → (fin T P E a I).2 ≠ [] := by
          intro I
          induction I with
          | nil => intro T P E a hP; exact hP
          | cons i r ih =>
            intro T P E a hP
            unfold fin
            split
            · exact ih _ _ _ _ hP
            · split
              · apply ih
                split
                · simp
                · exact hP
              · exact ih _ _ _ _ hP
        exact this r _ _ _ _ (by simp) h
      · rw [if_neg h0] at h
        intro j hj
        rcases List.mem_cons.1 hj with rfl | hj
        · exact h0
        · exact fin_clean r _ _ _ (by omega) h j hj
theorem clean_fin : ∀ (I : List Item) (T : List Tok) (E : Int) (a : Nat), (∀ i ∈ I, i.kind ≠ 0) → (fin T [] E a I).2 = []
  | [], _, _, _, _ => rfl
  | i :: r, T, E, a, h => by
    unfold fin
    split
    · exact clean_fin r _ _ _ (fun j hj => h j (by simp [hj]))
    · rw [if_neg (h i (by simp))]
      exact clean_fin r _ _ _ (fun j hj => h j (by simp [hj]))
theorem clean_iff (l : List UInt8) : (lex l).2 = [] ↔ Clean l := ⟨fun h => fin_clean _ _ _ _ (by omega) h, fun h => clean_fin _ _ _ _ h⟩
theorem toks_app : ∀ (I J : List Item), toks (I ++ J) = toks I ++ toks J
  | [], _ => rfl
  | i :: r, J => by
    show toks (i :: (r ++ J)) = _
    rw [toks_cons, toks_cons]
    split
    · exact toks_app r J
    · rw [toks_app r J]; rfl
/-- Kinds and texts of a text's tokens ahead of the end. -/
def lks (l : List UInt8) : List (Int × List UInt8) := (toks (items l)).map fun x => ((x.1 : Int), x.2)
theorem lex_lks (l : List UInt8) : (lex l).1.map look = lks l ++ [(5, [])] := lex_toks l
theorem lks_nil : lks [] = [] := by unfold lks; rw [items_nil]; rfl
theorem lks_nl {u : List UInt8} (v : List UInt8) (h : Clean u) : lks (u ++ 10 :: v) = lks u ++ lks v := by
  unfold lks
  rw [items_nl v _ u (Nat.le_refl _) h, toks_app, List.map_append]
  rfl
theorem clean_nl {u v : List UInt8} (h : Clean u) (k : Clean v) : Clean (u ++ 10 :: v) := by
  intro i hi
  rw [items_nl v _ u (Nat.le_refl _) h] at hi
  rcases List.mem_append.1 hi with hi | hi
  · exact h i hi
  · rcases List.mem_cons.1 hi with rfl | hi
    · decide
    · exact k i hi
theorem items_one (c : UInt8) (v : List UInt8) (i : Item) (h : stepItem (c :: v) = i) (hi : i.len = 1) : items (c :: v) = i :: items v := by
  rw [items_cons _ (by simp), h, hi]
  rfl
/-- A sign of one byte that begins no longer one. -/
theorem step_par (c : UInt8) (v : List UInt8) (h : c = 40 ∨ c = 41) : stepItem (c :: v) = ⟨4, [c], 1⟩ := by
  rcases h with rfl | rfl
  · rw [step_of_solid _ _ (by decide)]
    unfold nextItem
    simp only
    rw [if_neg (by decide), if_neg (by simp [isDigit]), if_pos (by decide), if_neg (by simp)]
  · rw [step_of_solid _ _ (by decide)]
    unfold nextItem
    simp only
    rw [if_neg (by decide), if_neg (by simp [isDigit]), if_pos (by decide), if_neg (by simp)]
theorem lks_par (c : UInt8) (v : List UInt8) (h : c = 40 ∨ c = 41) : lks (c :: v) = (4, [c]) :: lks v := by
  unfold lks
  rw [items_one c v _ (step_par c v h) rfl, toks_cons, if_neg (by show ¬ (4 = 6 ∨ 4 = 0); decide)]
  rfl
theorem clean_par (c : UInt8) (v : List UInt8) (h : c = 40 ∨ c = 41) (k : Clean v) : Clean (c :: v) := by
  intro i hi
  rw [items_one c v _ (step_par c v h) rfl] at hi
  rcases List.mem_cons.1 hi with rfl | hi
  · show 4 ≠ 0
    decide
  · exact k i hi
theorem step_sp (v : List UInt8) : stepItem (32 :: v) = ⟨6, [], 1⟩ := by
  unfold stepItem
  simp only
  rw [if_pos (by decide)]
theorem lks_sp (v : List UInt8) : lks (32 :: v) = lks v := by
  unfold lks
  rw [items_one 32 v _ (step_sp v) rfl, toks_cons, if_pos (.inl rfl)]
theorem clean_sp (v : List UInt8) (k : Clean v) : Clean (32 :: v) := by
  intro i hi
  rw [items_one 32 v _ (step_sp v) rfl] at hi
  rcases List.mem_cons.1 hi with rfl | hi
  · decide
  · exact k i hi
theorem items_word (s v : List UInt8) (h : wordB s = true) : items (s ++ 32 :: v) = ⟨1, s, s.length⟩ :: items (32 :: v) := by
  rw [items_cons _ (by simp), step_word s (32 :: v) h (.inr rfl)]
  simp
theorem lks_word (s v : List UInt8) (h : wordB s = true) : lks (s ++ 32 :: v) = (1, s) :: lks v := by
  rw [← lks_sp v]
  unfold lks
  rw [items_word s v h, toks_cons, if_neg (by show ¬ (1 = 6 ∨ 1 = 0); decide)]
  rfl
theorem clean_word (s v : List UInt8) (h : wordB s = true) (k : Clean v) : Clean (s ++ 32 :: v) := by
  intro i hi
  rw [items_word s v h] at hi
  rcases List.mem_cons.1 hi with rfl | hi
  · show 1 ≠ 0
    decide
  · exact clean_sp v k i hi
/-- The kinds of tokens. -/
theorem lks_kind (l : List UInt8) : ∀ x ∈ lks l, x.1 ≠ 5 := by
  obtain ⟨T, hT, hok, _⟩ := lex_ok l
  have h := lex_lks l
  rw [hT, List.map_append] at h
  have h2 : T.map look = lks l := (List.append_inj' h rfl).1
  intro x hx
  rw [← h2] at hx
  obtain ⟨t, ht, rfl⟩ := List.mem_map.1 hx
  have := hok t ht
  intro e
  have e' : t.kind = 5 := e
  unfold okTok at this
  rw [e'] at this
  simp at this
end Go.Proofs.YtlgdmbdhffdenaaGreatDoor

/- The three functions of chapter 13 in plain Lean; what they say of parentheses, and of texts behind one another. No program. -/
namespace Go.Proofs.YtlgdmbdhffdenaaGreatDoor
set_option linter.unusedVariables false
set_option linter.unusedSimpArgs false

/-- A text that consists of one thing: the thing, the offset and the code of the first error. -/
def topOf {α : Type} (z : α) (p : List Tok → Res α) (l : List UInt8) : α × Int × Int :=
  match (lex l).2 with
  | q :: _ => (z, q.at_, q.code)
  | [] => match pend (lex l).1 (p (lex l).1) with
    | .ok x _ => (x, 0, 0)
    | .bad n => (z, (nx (lex l).1 n).at_, 130)
def topCond : List UInt8 → CT × Int × Int := topOf CT.zero fun T => pcond T T.length 0
def topRules : List UInt8 → RT × Int × Int := topOf RT.zero fun T => prules T 0
theorem topOf_ok {α : Type} {z : α} {p : List Tok → Res α} {l : List UInt8} {x : α} {a : Int} (h : topOf z p l = (x, a, 0)) (hz : ∀ q ∈ (lex l).2, q.code = 60) :
    (lex l).2 = [] ∧ a = 0 ∧ ∃ n, p (lex l).1 = .ok x n ∧ (nx (lex l).1 n).kind = 5 := by
  unfold topOf at h
  split at h
  · next q r e =>
    have := hz q (by rw [e]; simp)
    simp only [Prod.mk.injEq] at h
    omega
  · next e =>
    refine ⟨e, ?_⟩
    unfold pend at h
    split at h
    · next y n e2 =>
      obtain ⟨y', m, e3, e4⟩ := Res.bind_ok e2
      split at e4
      · next hk =>
        cases e4
        simp only [Prod.mk.injEq] at h
        obtain ⟨rfl, h2, _⟩ := h
        exact ⟨h2.symm, n, e3, hk⟩
      · cases e4
    · simp at h
theorem topOf_mk {α : Type} {z : α} {p : List Tok → Res α} {l : List UInt8} {x : α} {n : Nat} (h1 : (lex l).2 = []) (h2 : p (lex l).1 = .ok x n) (h3 : (nx (lex l).1 n).kind = 5) : topOf z p l = (x, 0, 0) := by
  unfold topOf
  rw [h1]
  simp only
  rw [h2]
  unfold pend
  simp only [Res.bind]
  rw [if_pos h3]
theorem lex_code (l : List UInt8) : ∀ q ∈ (lex l).2, q.code = 60 := by
  obtain ⟨T, P, e, h⟩ := lex_inv l
  rw [e]
  exact fun q hq => (h.prob q hq).1

theorem nx_look {T : List Tok} {i : Nat} {x : Int × List UInt8} (h : (T.map look)[i]? = some x) : (nx T i).kind = x.1 ∧ (nx T i).text = x.2 := by
  rw [List.getElem?_map, Option.map_eq_some_iff] at h
  obtain ⟨t, h1, rfl⟩ := h
  unfold nx
  rw [h1]
  exact ⟨rfl, rfl⟩
theorem sim_of {T T' : List Tok} {X Y Z : List (Int × List UInt8)} (h : T.map look = X ++ [(5, [])]) (h' : T'.map look = Y ++ X ++ Z) (hz : Z ≠ []) (hX : ∀ x ∈ X, x.1 ≠ 5) : Sim T T' Y.length X.length := by
  have l1 : T.length = X.length + 1 := by rw [← List.length_map (f := look), h]; simp
  have l2 : T'.length = Y.length + X.length + Z.length := by rw [← List.length_map (f := look), h']; simp; omega
  have lz := List.length_pos_iff.2 hz
  have hx : ∀ i (hi : i < X.length), (T.map look)[i]? = some X[i] := fun i hi => by
    rw [h, List.getElem?_append_left hi, List.getElem?_eq_getElem hi]
  have hx' : ∀ i (hi : i < X.length), (T'.map look)[i + Y.length]? = some X[i] := fun i hi => by
    rw [h', List.getElem?_append_left (by simp; omega), List.getElem?_append_right (by omega), Nat.add_sub_cancel, List.getElem?_eq_getElem hi]
  refine ⟨by omega, fun i hi => ?_, fun i hi => ?_, fun i hi => ?_⟩
  · have e1 := nx_look (hx i hi)
    have e2 := nx_look (hx' i hi)
    exact ⟨e2.1.trans e1.1.symm, e2.2.trans e1.2.symm⟩
  · rcases Nat.eq_or_lt_of_le hi with rfl | hi
    · have : (T.map look)[X.length]? = some (5, []) := by rw [h]; simp
      exact (nx_look this).1
    · rw [nx_out T (by omega)]
  · rw [(nx_look (hx i hi)).1]
    exact hX _ (List.getElem_mem hi)
theorem isB_at {T : List Tok} {i : Nat} {k : Int} {t : List UInt8} (h : (T.map look)[i]? = some (k, t)) (s : List UInt8) : isB T i s = (t == s && (k == 4 || (k == 1 && kwB s))) := by
  unfold isB
  rw [(nx_look h).1, (nx_look h).2]

section
variable {T : List Tok} {kw : List UInt8} {kind : Int} {p : Nat → Res CT} {a n m : Nat} {c c' : CT}
theorem pjoined_one (h : p a = .ok c n) (hn : isB T n kw = false) : pjoined T kw kind p a = .ok c n := by
  unfold pjoined
  rw [h]
  have : ∀ g, pmore T kw p g n = .ok .nil n := by
    intro g
    cases g with
    | zero => rfl
    | succ g => unfold pmore; rw [if_neg (by rw [hn]; decide)]
  simp only [Res.bind]
  rw [this]
  rfl
theorem pjoined_two (h : p a = .ok c n) (hn : isB T n kw = true) (h2 : p (n + 1) = .ok c' m) (hm : isB T m kw = false) : pjoined T kw kind p a = .ok ⟨kind, 0, 0, .one c (.one c' .nil)⟩ m := by
  have hlt := isB_lt T hn
  obtain ⟨g, hg⟩ : ∃ g, T.length - n = g + 1 := ⟨T.length - n - 1, by omega⟩
  have : ∀ g, pmore T kw p g m = .ok .nil m := by
    intro g
    cases g with
    | zero => rfl
    | succ g => unfold pmore; rw [if_neg (by rw [hm]; decide)]
  unfold pjoined
  rw [h]
  simp only [Res.bind]
  rw [hg]
  unfold pmore
  rw [if_pos hn, h2]
  simp only [Res.bind]
  rw [this]
  rfl
end

/-- A condition's tokens in parentheses. -/
def parS (S : List (Int × List UInt8)) : List (Int × List UInt8) := (4, kLP) :: (S ++ [(4, kRP)])
theorem parS_len (S : List (Int × List UInt8)) : (parS S).length = S.length + 2 := by simp [parS]
/-- .. are read as this condition, wherever they stand. -/
theorem unit_par {l : List UInt8} {c : CT} {n : Nat} (h1 : pcond (lex l).1 (lex l).1.length 0 = .ok c n) (h2 : (nx (lex l).1 n).kind = 5)
    {T' : List Tok} {Y Z : List (Int × List UInt8)} (h' : T'.map look = Y ++ parS (lks l) ++ Z) {f d : Nat} (hf : (lex l).1.length ≤ f) (hd : d = Y.length) : punit T' (f + 1) d = .ok c (d + (parS (lks l)).length) := by
  subst hd
  have hT := lex_lks l
  have hk := lks_kind l
  have hs : Sim (lex l).1 T' (Y.length + 1) (lks l).length := by
    have := sim_of (Y := Y ++ [(4, kLP)]) (Z := (4, kRP) :: Z) hT (by rw [h']; simp [parS]) (by simp) hk
    simpa using this
  have g0 : (T'.map look)[Y.length]? = some (4, kLP) := by rw [h']; simp [parS]
  have gN : (T'.map look)[(lks l).length + (Y.length + 1)]? = some (4, kRP) := by
    rw [h', List.getElem?_append_left (by simp [parS]; omega), List.getElem?_append_right (by omega), show (lks l).length + (Y.length + 1) - Y.length = (lks l).length + 1 by omega]
    simp [parS]
  have hn : n = (lks l).length := by
    have := pcond_inN _ hs.ends (lex l).1.length 0
    rw [h1] at this
    have h3 := this.2
    rcases Nat.lt_or_ge n (lks l).length with h4 | h4
    · exact absurd h2 (hs.solid n h4)
    · omega
  subst hn
  have hM : Told (lex l).1 T' (Y.length + 1) ((lks l).length + 1) := fun i hi kw hkw hb => by
    rcases Nat.lt_or_ge i (lks l).length with h4 | h4
    · exact hs.told i h4 kw hkw hb
    · have : i = (lks l).length := by omega
      subst this
      rw [isB_at gN]
      rcases hkw with rfl | rfl <;> rfl
  have hc := pcond_sim hs hM hf h1 (by omega)
  unfold pcond pconj at hc
  unfold punit
  rw [isB_at g0, isB_at g0, if_neg (by decide), if_pos (by decide)]
  rw [Nat.zero_add] at hc
  rw [hc]
  simp only [Res.bind]
  unfold pwant
  rw [isB_at gN, if_pos (by decide)]
  simp only [pwant, Res.map]
  rw [parS_len]
  congr 1
  omega

def inner (l : List UInt8) : List UInt8 := 40 :: (l ++ [10, 41])
theorem inner_app (l r : List UInt8) : inner l ++ r = 40 :: (l ++ 10 :: 41 :: r) := by simp [inner]
theorem lks_inner {l : List UInt8} (r : List UInt8) (h : Clean l) : lks (inner l ++ r) = parS (lks l) ++ lks r := by
  rw [inner_app, lks_par _ _ (.inl rfl), lks_nl _ h, lks_par _ _ (.inr rfl)]
  simp [parS]
theorem clean_inner {l : List UInt8} (r : List UInt8) (h : Clean l) (k : Clean r) : Clean (inner l ++ r) := by
  rw [inner_app]
  exact clean_par _ _ (.inl rfl) (clean_nl h (clean_par _ _ (.inr rfl) k))
theorem clean_empty : Clean [] := by
  intro i hi
  rw [items_nil] at hi
  cases hi
theorem len_lks (l : List UInt8) : (lex l).1.length = (lks l).length + 1 := by rw [← List.length_map (f := look), lex_lks]; simp
def notNot (l : List UInt8) : List UInt8 := kNot ++ 32 :: (kNot ++ 32 :: inner l)
def orAnd (l : List UInt8) : List UInt8 := inner l ++ 32 :: (kOr ++ 32 :: (inner l ++ 32 :: (kAnd ++ 32 :: inner l)))
/-- The law on parentheses, negations and joints, of the parser in plain Lean. -/
theorem law_paren {l : List UInt8} {c : CT} {a : Int} (h : topCond l = (c, a, 0)) :
    topCond (inner l) = (c, 0, 0) ∧ topCond (notNot l) = (cnot (cnot c), 0, 0) ∧ topCond (orAnd l) = (⟨3, 0, 0, .one c (.one ⟨2, 0, 0, .one c (.one c .nil)⟩ .nil)⟩, 0, 0) := by
  obtain ⟨h0, _, n, h1, h2⟩ := topOf_ok h (lex_code l)
  have hc : Clean l := (clean_iff l).1 h0
  have hL := len_lks l
  refine ⟨?_, ?_, ?_⟩
  · have e : inner l = inner l ++ [] := by simp
    have k1 : (lex (inner l)).1.map look = [] ++ parS (lks l) ++ [(5, [])] := by rw [lex_lks, e, lks_inner _ hc, lks_nil]; simp
    have hlen := len_lks (inner l)
    rw [show lks (inner l) = parS (lks l) by rw [e, lks_inner _ hc, lks_nil]; simp, parS_len] at hlen
    have gE : ((lex (inner l)).1.map look)[0 + (parS (lks l)).length]? = some (5, []) := by rw [k1]; simp
    refine topOf_mk (n := 0 + (parS (lks l)).length) ((clean_iff _).2 (by rw [e]; exact clean_inner _ hc clean_empty)) ?_ (nx_look gE).1
    refine pjoined_one (pjoined_one ?_ (by rw [isB_at gE]; rfl)) (by rw [isB_at gE]; rfl)
    have := unit_par h1 h2 (d := 0) (f := (lex (inner l)).1.length - 1) k1 (by omega) rfl
    rwa [show (lex (inner l)).1.length - 1 + 1 = (lex (inner l)).1.length by omega] at this
  · have e : inner l = inner l ++ [] := by simp
    have ek : lks (notNot l) = [(1, kNot), (1, kNot)] ++ parS (lks l) := by
      unfold notNot
      rw [lks_word _ _ (by decide), lks_word _ _ (by decide), e, lks_inner _ hc, lks_nil]
      simp
    have k1 : (lex (notNot l)).1.map look = [(1, kNot), (1, kNot)] ++ parS (lks l) ++ [(5, [])] := by rw [lex_lks, ek]
    have hlen := len_lks (notNot l)
    rw [ek, List.length_append, parS_len] at hlen
    simp only [List.length_cons, List.length_nil] at hlen
    have gE : ((lex (notNot l)).1.map look)[2 + (parS (lks l)).length]? = some (5, []) := by
      rw [k1, List.getElem?_append_right (by simp; omega)]
      simp only [List.length_append, List.length_cons, List.length_nil]
      rw [show 2 + (parS (lks l)).length - (0 + 1 + 1 + (parS (lks l)).length) = 0 by omega]
      rfl
    have g0 : ((lex (notNot l)).1.map look)[0]? = some (1, kNot) := by rw [k1]; simp
    have g1 : ((lex (notNot l)).1.map look)[0 + 1]? = some (1, kNot) := by rw [k1]; simp
    refine topOf_mk (n := 2 + (parS (lks l)).length) ((clean_iff _).2 ?_) ?_ (nx_look gE).1
    · unfold notNot
      exact clean_word _ _ (by decide) (clean_word _ _ (by decide) (by rw [e]; exact clean_inner _ hc clean_empty))
    refine pjoined_one (pjoined_one ?_ (by rw [isB_at gE]; rfl)) (by rw [isB_at gE]; rfl)
    have := unit_par h1 h2 (d := 2) (f := (lex (notNot l)).1.length - 3) k1 (by omega) rfl
    obtain ⟨f, hf⟩ : ∃ f, (lex (notNot l)).1.length = f + 1 + 1 + 1 := ⟨(lex (notNot l)).1.length - 3, by omega⟩
    rw [hf] at this ⊢
    rw [show f + 1 + 1 + 1 - 3 = f by omega] at this
    unfold punit
    rw [isB_at g0, if_pos (by decide)]
    unfold punit
    rw [isB_at g1, if_pos (by decide), this]
    rfl
  · have e : inner l = inner l ++ [] := by simp
    have ek : lks (orAnd l) = parS (lks l) ++ (1, kOr) :: (parS (lks l) ++ (1, kAnd) :: parS (lks l)) := by
      unfold orAnd
      rw [lks_inner _ hc, lks_sp, lks_word _ _ (by decide), lks_inner _ hc, lks_sp, lks_word _ _ (by decide)]
      congr 3
      rw [e, lks_inner _ hc, lks_nil]
      simp
    have k0 : (lex (orAnd l)).1.map look = lks (orAnd l) ++ [(5, [])] := lex_lks _
    have hlen := len_lks (orAnd l)
    generalize hT : (lex (orAnd l)).1 = T' at *
    rw [ek] at k0 hlen
    have hq : (parS (lks l)).length = (lks l).length + 2 := parS_len _
    generalize hS : parS (lks l) = S at *
    have kA : T'.map look = [] ++ S ++ ((1, kOr) :: (S ++ (1, kAnd) :: S) ++ [(5, [])]) := by rw [k0]; simp
    have kB : T'.map look = (S ++ [(1, kOr)]) ++ S ++ ((1, kAnd) :: S ++ [(5, [])]) := by rw [k0]; simp
    have kC : T'.map look = (S ++ (1, kOr) :: (S ++ [(1, kAnd)])) ++ S ++ [(5, [])] := by rw [k0]; simp
    have uA := fun f hf => unit_par h1 h2 (T' := T') (Y := []) (f := f) (d := 0) (by rw [hS]; exact kA) hf rfl
    have uB := fun f hf => unit_par h1 h2 (T' := T') (Y := S ++ [(1, kOr)]) (f := f) (d := S.length + 1) (by rw [hS]; exact kB) hf (by simp)
    have uC := fun f hf => unit_par h1 h2 (T' := T') (Y := S ++ (1, kOr) :: (S ++ [(1, kAnd)])) (f := f) (d := S.length + 1 + S.length + 1) (by rw [hS]; exact kC) hf (by simp; omega)
    rw [hS] at uA uB uC
    have gA : (T'.map look)[0 + S.length]? = some (1, kOr) := by rw [kA]; simp
    have gB : (T'.map look)[S.length + 1 + S.length]? = some (1, kAnd) := by
      rw [kB, List.getElem?_append_right (by simp; omega)]
      simp only [List.length_append, List.length_cons, List.length_nil]
      rw [show S.length + 1 + S.length - (S.length + (0 + 1) + S.length) = 0 by omega]
      rfl
    have gC : (T'.map look)[S.length + 1 + S.length + 1 + S.length]? = some (5, []) := by
      rw [kC, List.getElem?_append_right (by simp; omega)]
      simp only [List.length_append, List.length_cons, List.length_nil]
      rw [show S.length + 1 + S.length + 1 + S.length - (S.length + (S.length + (0 + 1) + 1) + S.length) = 0 by omega]
      rfl
    simp only [List.length_append, List.length_cons] at hlen
    obtain ⟨f, hf⟩ : ∃ f, T'.length = f + 1 := ⟨T'.length - 1, by omega⟩
    have ha : pconj T' T'.length 0 = .ok c (0 + S.length) := by
      rw [hf]
      exact pjoined_one (uA f (by omega)) (by rw [isB_at gA]; rfl)
    have hb : pconj T' T'.length (S.length + 1) = .ok ⟨2, 0, 0, .one c (.one c .nil)⟩ (S.length + 1 + S.length + 1 + S.length) := by
      rw [hf]
      exact pjoined_two (uB f (by omega)) (by rw [isB_at gB]; decide) (uC f (by omega)) (by rw [isB_at gC]; rfl)
    have hres : pcond T' T'.length 0 = .ok ⟨3, 0, 0, .one c (.one ⟨2, 0, 0, .one c (.one c .nil)⟩ .nil)⟩ (S.length + 1 + S.length + 1 + S.length) :=
      pjoined_two ha (by rw [isB_at gA]; decide) (by rw [show 0 + S.length + 1 = S.length + 1 by omega]; exact hb) (by rw [isB_at gC]; rfl)
    refine topOf_mk (n := S.length + 1 + S.length + 1 + S.length) ((clean_iff _).2 ?_) (by rw [hT]; exact hres) (by rw [hT]; exact (nx_look gC).1)
    unfold orAnd
    exact clean_inner _ hc (clean_sp _ (clean_word _ _ (by decide) (clean_inner _ hc (clean_sp _ (clean_word _ _ (by decide) (by rw [e]; exact clean_inner _ hc clean_empty))))))
end Go.Proofs.YtlgdmbdhffdenaaGreatDoor

/- Plain laws of documents: one element; texts behind one another; white space; problems. No program. -/
namespace Go.Proofs.YtlgdmbdhffdenaaGreatDoor
set_option linter.unusedVariables false
set_option linter.unusedSimpArgs false

/-- A problem sorted in, behind those with the same offset. -/
def insP (x : Prob) : List Prob → List Prob
  | [] => [x]
  | y :: r => if x.at_ < y.at_ then x :: y :: r else y :: insP x r
def srt (l : List Prob) : List Prob := l.foldl (fun acc x => insP x acc) []
def synP (l : List UInt8) : List Prob := (pdoc (lex l).1 (lex l).1.length 0).2.map fun a => ⟨a, 130⟩
/-- A document's rules and problems. -/
def docR (l : List UInt8) : List RT := (pdoc (lex l).1 (lex l).1.length 0).1
def docP (l : List UInt8) : List Prob := (srt ((lex l).2 ++ synP l)).take 64
theorem insP_len (x : Prob) : ∀ l, (insP x l).length = l.length + 1
  | [] => rfl
  | y :: r => by
    unfold insP
    split
    · rfl
    · simp [insP_len x r]
theorem foldl_insP_len : ∀ (l acc : List Prob), (l.foldl (fun acc x => insP x acc) acc).length = acc.length + l.length
  | [], acc => rfl
  | x :: r, acc => by
    rw [List.foldl_cons, foldl_insP_len r, insP_len, List.length_cons]
    omega
theorem srt_len (l : List Prob) : (srt l).length = l.length := by
  unfold srt
  rw [foldl_insP_len]
  simp
theorem docP_nil {l : List UInt8} (h : (docP l).length = 0) : (lex l).2 = [] ∧ (pdoc (lex l).1 (lex l).1.length 0).2 = [] := by
  unfold docP at h
  rw [List.length_take, srt_len, List.length_append] at h
  unfold synP at h
  rw [List.length_map] at h
  exact ⟨List.eq_nil_of_length_eq_zero (by omega), List.eq_nil_of_length_eq_zero (by omega)⟩
theorem nil_docP {l : List UInt8} (h1 : (lex l).2 = []) (h2 : (pdoc (lex l).1 (lex l).1.length 0).2 = []) : docP l = [] := by
  unfold docP synP
  rw [h1, h2]
  rfl
theorem lex_end (l : List UInt8) : ∀ i, (lks l).length ≤ i → (nx (lex l).1 i).kind = 5 := (sim_of (Y := []) (Z := [(5, [])]) (lex_lks l) (by rw [lex_lks l]; rfl) (by simp) (lks_kind l)).ends
theorem lex_solid (l : List UInt8) : ∀ i, i < (lks l).length → (nx (lex l).1 i).kind ≠ 5 := (sim_of (Y := []) (Z := [(5, [])]) (lex_lks l) (by rw [lex_lks l]; rfl) (by simp) (lks_kind l)).solid
theorem pdoc_end {T : List Tok} {a : Nat} (h : (nx T a).kind = 5) (f : Nat) : pdoc T f a = ([], []) := by
  cases f with
  | zero => rfl
  | succ f => rw [pdoc_succ, if_pos h]

/-- The law on documents of one element. -/
theorem law_one_ok {l : List UInt8} {r : RT} {a : Int} (h : topRules l = (r, a, 0)) : a = 0 ∧ docR l = [r] ∧ docP l = [] := by
  obtain ⟨h0, ha, n, h1, h2⟩ := topOf_ok h (lex_code l)
  have hin := prules_in (lex l).1 0
  rw [h1] at hin
  have hl := len_lks l
  obtain ⟨f, hf⟩ : ∃ f, (lex l).1.length = f + 1 := ⟨_, hl⟩
  have hin2 := prules_inN _ (lex_end l) 0
  rw [h1] at hin2
  have h0k : (nx (lex l).1 0).kind ≠ 5 := lex_solid l 0 (by have := hin2.1; have := hin2.2; omega)
  have e : pdoc (lex l).1 (lex l).1.length 0 = ([r], []) := by
    rw [hf, pdoc_succ, if_neg h0k, h1]
    simp only
    rw [pdoc_end h2]
  exact ⟨ha, by unfold docR; rw [e], nil_docP h0 (by rw [e])⟩
theorem law_one_no {l : List UInt8} {r : RT} {a e : Int} (h : topRules l = (r, a, e)) (he : e ≠ 0) : (docP l).length > 0 ∨ (docR l).length ≠ 1 := by
  rcases Nat.eq_zero_or_pos (docP l).length with h0 | h0
  · right
    intro h1
    obtain ⟨g1, g2⟩ := docP_nil h0
    unfold docR at h1
    obtain ⟨f, hf⟩ : ∃ f, (lex l).1.length = f + 1 := ⟨_, len_lks l⟩
    apply he
    have : topRules l = ((prules (lex l).1 0).bind (fun x _ => Res.ok x 0) |> fun q => match q with | .ok x _ => x | .bad _ => RT.zero, 0, 0) := by
      rw [hf, pdoc_succ] at h1 g2
      split at h1
      · simp at h1
      · next hk =>
        rw [if_neg hk] at g2
        cases hr : prules (lex l).1 0 with
        | bad n => rw [hr] at g2; simp at g2
        | ok x n =>
          rw [hr] at g2 h1
          simp only [List.length_cons] at g2 h1
          have hn : (nx (lex l).1 n).kind = 5 := by
            have hin := prules_inN _ (lex_end l) 0
            rw [hr] at hin
            rcases Nat.lt_or_ge n (lks l).length with h3 | h3
            · exfalso
              have hk2 := lex_solid l n h3
              have hl := len_lks l
              obtain ⟨f', rfl⟩ : ∃ q, f = q + 1 := ⟨f - 1, by omega⟩
              rw [pdoc_succ, if_neg hk2] at h1 g2
              cases hr2 : prules (lex l).1 n with
              | bad m => rw [hr2] at g2; simp at g2
              | ok y m => rw [hr2] at h1; simp at h1
            · exact lex_end l n h3
          exact topOf_mk (n := n) g1 hr hn
    rw [h] at this
    simp only [Prod.mk.injEq] at this
    exact this.2.2
  · exact .inl h0

/-- The law on texts without problems, one behind the other. -/
theorem law_behind {u v : List UInt8} (hu : (docP u).length = 0) (hv : (docP v).length = 0) : docR (u ++ 10 :: v) = docR u ++ docR v ∧ docP (u ++ 10 :: v) = [] := by
  obtain ⟨u1, u2⟩ := docP_nil hu
  obtain ⟨v1, v2⟩ := docP_nil hv
  have cu := (clean_iff u).1 u1
  have cv := (clean_iff v).1 v1
  have hT' : (lex (u ++ 10 :: v)).1.map look = lks u ++ lks v ++ [(5, [])] := by rw [lex_lks, lks_nl v cu]
  have s1 : Sim (lex u).1 (lex (u ++ 10 :: v)).1 0 (lks u).length := sim_of (Y := []) (Z := lks v ++ [(5, [])]) (lex_lks u) (by rw [hT']; simp) (by simp) (lks_kind u)
  have s2 : Sim (lex v).1 (lex (u ++ 10 :: v)).1 (lks u).length (lks v).length := sim_of (Y := lks u) (Z := [(5, [])]) (lex_lks v) hT' (by simp) (lks_kind v)
  have hlu := len_lks u
  have hlv := len_lks v
  obtain ⟨f1, g1, e1⟩ := pdoc_sim s1 (by omega) (lex u).1.length 0 (docR u) (Nat.zero_le _) (by omega) (Prod.ext rfl u2) (lex (u ++ 10 :: v)).1.length (by omega)
  obtain ⟨f2, g2, e2⟩ := pdoc_sim s2 (by omega) (lex v).1.length 0 (docR v) (Nat.zero_le _) (by omega) (Prod.ext rfl v2) f1 (by omega)
  have he : (nx (lex (u ++ 10 :: v)).1 ((lks v).length + (lks u).length)).kind = 5 := by
    have : ((lex (u ++ 10 :: v)).1.map look)[(lks v).length + (lks u).length]? = some (5, []) := by
      rw [hT', List.getElem?_append_right (by simp; omega)]
      simp [Nat.add_comm]
    exact (nx_look this).1
  rw [pdoc_end he] at e2
  rw [Nat.zero_add] at e2
  rw [show (lks u).length + 0 = (lks u).length by omega, e2] at e1
  simp only [Nat.zero_add, List.append_nil] at e1
  have e1' : pdoc (lex (u ++ 10 :: v)).1 (lex (u ++ 10 :: v)).1.length 0 = (docR u ++ docR v, []) := e1
  refine ⟨?_, nil_docP ((clean_iff _).2 (clean_nl cu cv)) (by rw [e1'])⟩
  show (pdoc (lex (u ++ 10 :: v)).1 (lex (u ++ 10 :: v)).1.length 0).1 = _
  rw [e1']

section
variable {T T' : List Tok} (h : T.map look = T'.map look)
include h
theorem nx_alike (i : Nat) : (nx T' i).kind = (nx T i).kind ∧ (nx T' i).text = (nx T i).text := by
  have hi : (T.map look)[i]? = (T'.map look)[i]? := by rw [h]
  rw [List.getElem?_map, List.getElem?_map] at hi
  unfold nx
  cases e : T[i]? with
  | none =>
    rw [e] at hi
    cases e' : T'[i]? with
    | none => exact ⟨rfl, rfl⟩
    | some t' => rw [e'] at hi; cases hi
  | some t =>
    rw [e] at hi
    cases e' : T'[i]? with
    | none => rw [e'] at hi; cases hi
    | some t' =>
      rw [e'] at hi
      have hi' : look t = look t' := by simpa using hi
      exact ⟨(congrArg Prod.fst hi').symm, (congrArg Prod.snd hi').symm⟩
theorem len_alike : T'.length = T.length := by
  have := congrArg List.length h
  simpa using this.symm
theorem isB_alike : isB T' = isB T := by
  funext i s
  exact isB_same (nx_alike h i).1 (nx_alike h i).2 s
theorem pwant_alike : pwant T' = pwant T := by
  funext ws
  induction ws with
  | nil => rfl
  | cons s r ih =>
    funext a
    unfold pwant
    rw [isB_alike h, ih]
theorem pname_alike : pname T' = pname T := by
  funext a
  unfold pname
  rw [(nx_alike h a).1, (nx_alike h a).2]
theorem pint_alike : pint T' = pint T := by
  funext a
  unfold pint
  rw [(nx_alike h a).1, (nx_alike h a).2]
theorem pchoose_alike : pchoose T' = pchoose T := by
  funext ws a
  unfold pchoose
  rw [(nx_alike h a).2, isB_alike h]
theorem pcomp_alike : pcomp T' = pcomp T := by
  funext a
  unfold pcomp
  rw [pchoose_alike h, pint_alike h]
theorem pmore_alike : pmore T' = pmore T := by
  funext kw p g
  induction g with
  | zero => rfl
  | succ g ih =>
    funext a
    unfold pmore
    rw [isB_alike h, ih]
theorem pjoined_alike : pjoined T' = pjoined T := by
  funext kw kind p a
  unfold pjoined
  rw [pmore_alike h, len_alike h]
theorem punit_alike : punit T' = punit T := by
  funext f
  induction f with
  | zero => rfl
  | succ f ih =>
    funext a
    unfold punit
    rw [isB_alike h, ih, pjoined_alike h, pwant_alike h, pcomp_alike h]
theorem pcond_alike : pcond T' = pcond T := by
  funext f
  unfold pcond pconj
  rw [punit_alike h, pjoined_alike h]
theorem pcrit_alike : pcrit T' = pcrit T := by
  funext a
  unfold pcrit
  rw [pchoose_alike h]
theorem psteps_alike : psteps T' = psteps T := by
  funext f
  induction f with
  | zero => rfl
  | succ f ih =>
    funext a
    unfold psteps
    rw [isB_alike h, ih, pcond_alike h, pwant_alike h, pcrit_alike h, len_alike h]
theorem pzone_alike : pzone T' = pzone T := by
  funext a
  unfold pzone
  rw [isB_alike h, pname_alike h, pint_alike h, pwant_alike h]
theorem pzones_alike : pzones T' = pzones T := by
  funext f
  induction f with
  | zero => rfl
  | succ f ih =>
    funext a
    unfold pzones
    rw [isB_alike h, ih, pzone_alike h]
theorem prules_alike : prules T' = prules T := by
  funext a
  unfold prules
  rw [pname_alike h, pint_alike h, pwant_alike h, psteps_alike h, pzones_alike h, len_alike h]
end

theorem pend_alike {T T' : List Tok} (h : T.map look = T'.map look) {α : Type} (r : Res α) : pend T' r = pend T r := by
  unfold pend
  congr 1
  funext x n
  rw [(nx_alike h n).1]
/-- The law on white space: two texts with the same kinds and texts of tokens. -/
theorem law_space {u v : List UInt8} (hu : (lex u).2 = []) (hv : (lex v).2 = []) (h : (lex u).1.map look = (lex v).1.map look) :
    (∃ r, topRules u = (r, 0, 0) ∧ topRules v = (r, 0, 0)) ∨ ∃ n, n < (lex u).1.length ∧ topRules u = (RT.zero, (nx (lex u).1 n).at_, 130) ∧ topRules v = (RT.zero, (nx (lex v).1 n).at_, 130) := by
  have e1 : topRules u = match pend (lex u).1 (prules (lex u).1 0) with | .ok x _ => (x, 0, 0) | .bad n => (RT.zero, (nx (lex u).1 n).at_, 130) := by
    unfold topRules topOf
    rw [hu]
    simp only
    cases pend (lex u).1 (prules (lex u).1 0) <;> rfl
  have e2 : topRules v = match pend (lex u).1 (prules (lex u).1 0) with | .ok x _ => (x, 0, 0) | .bad n => (RT.zero, (nx (lex v).1 n).at_, 130) := by
    unfold topRules topOf
    rw [hv]
    simp only
    rw [pend_alike h, prules_alike h]
    cases pend (lex u).1 (prules (lex u).1 0) <;> rfl
  cases hr : pend (lex u).1 (prules (lex u).1 0) with
  | ok x n =>
    left
    refine ⟨x, ?_, ?_⟩
    · rw [e1, hr]
    · rw [e2, hr]
  | bad n =>
    right
    refine ⟨n, ?_, by rw [e1, hr], by rw [e2, hr]⟩
    have hl := len_lks u
    have hin := prules_inN _ (lex_end u) 0
    unfold pend at hr
    cases hp : prules (lex u).1 0 with
    | ok x m =>
      rw [hp] at hr hin
      simp only [Res.bind] at hr
      split at hr
      · cases hr
      · cases hr
        have := hin.2
        omega
    | bad m =>
      rw [hp] at hr hin
      cases hr
      have := hin.2
      omega
/-- The offsets of a text's tokens rise. -/
theorem lex_rise (l : List UInt8) : (lex l).1.Pairwise fun x y => x.at_ < y.at_ := by
  obtain ⟨T, P, e, h⟩ := lex_inv l
  rw [e]
  show (T ++ [(⟨5, [], l.length⟩ : Tok)]).Pairwise _
  rw [List.pairwise_append]
  refine ⟨h.tinc, List.pairwise_singleton _ _, fun x hx y hy => ?_⟩
  obtain rfl := List.mem_singleton.1 hy
  exact (h.tok x hx).2

/-- Sorted by offsets. -/
def Sorted (l : List Prob) : Prop := l.Pairwise fun x y => x.at_ ≤ y.at_
theorem insP_mem (x : Prob) : ∀ (l : List Prob) (y : Prob), y ∈ insP x l ↔ y = x ∨ y ∈ l
  | [], y => by simp [insP]
  | z :: r, y => by
    unfold insP
    split
    · simp
    · rw [List.mem_cons, insP_mem x r, List.mem_cons]
      constructor
      · rintro (h | h | h) <;> simp [h]
      · rintro (h | h | h) <;> simp [h]
theorem insP_sorted (x : Prob) : ∀ {l : List Prob}, Sorted l → Sorted (insP x l)
  | [], _ => List.pairwise_singleton _ _
  | y :: r, h => by
    unfold Sorted at *
    unfold insP
    rw [List.pairwise_cons] at h
    split
    · next hlt =>
      rw [List.pairwise_cons]
      refine ⟨fun z hz => ?_, List.pairwise_cons.2 h⟩
      rcases List.mem_cons.1 hz with rfl | hz
      · omega
      · have := h.1 z hz
        omega
    · next hlt =>
      rw [List.pairwise_cons]
      refine ⟨fun z hz => ?_, insP_sorted x h.2⟩
      rcases (insP_mem x r z).1 hz with rfl | hz
      · omega
      · exact h.1 z hz
theorem foldl_sorted : ∀ (l : List Prob) {acc : List Prob}, Sorted acc → Sorted (l.foldl (fun acc x => insP x acc) acc)
  | [], _, h => h
  | x :: r, _, h => foldl_sorted r (insP_sorted x h)
theorem srt_sorted (l : List Prob) : Sorted (srt l) := foldl_sorted l List.Pairwise.nil
theorem foldl_mem : ∀ (l acc : List Prob) (y : Prob), y ∈ l.foldl (fun acc x => insP x acc) acc ↔ y ∈ acc ∨ y ∈ l
  | [], acc, y => by simp
  | x :: r, acc, y => by
    rw [List.foldl_cons, foldl_mem r, insP_mem, List.mem_cons]
    constructor
    · rintro ((h | h) | h) <;> simp [h]
    · rintro (h | h | h) <;> simp [h]
theorem srt_mem (l : List Prob) (y : Prob) : y ∈ srt l ↔ y ∈ l := by
  unfold srt
  rw [foldl_mem]
  simp
theorem insP_sub (x : Prob) : ∀ l : List Prob, l.Sublist (insP x l)
  | [] => List.nil_sublist _
  | y :: r => by
    unfold insP
    split
    · exact List.sublist_cons_self _ _
    · exact (insP_sub x r).cons_cons y
theorem foldl_sub : ∀ (l acc : List Prob), acc.Sublist (l.foldl (fun acc x => insP x acc) acc)
  | [], acc => List.Sublist.refl _
  | x :: r, acc => (insP_sub x acc).trans (foldl_sub r _)
theorem insP_last (x : Prob) : ∀ (l : List Prob), (∀ y ∈ l, y.at_ ≤ x.at_) → insP x l = l ++ [x]
  | [], _ => rfl
  | y :: r, h => by
    unfold insP
    rw [if_neg (by have := h y (by simp); omega), insP_last x r (fun z hz => h z (by simp [hz]))]
    rfl
theorem foldl_done : ∀ (l acc : List Prob), Sorted (acc ++ l) → l.foldl (fun acc x => insP x acc) acc = acc ++ l
  | [], acc, _ => by simp
  | x :: r, acc, h => by
    have e : acc ++ x :: r = (acc ++ [x]) ++ r := by simp
    rw [List.foldl_cons, insP_last x acc (fun y hy => ?_), foldl_done r _ (by rw [← e]; exact h), e]
    unfold Sorted at h
    rw [List.pairwise_append] at h
    exact h.2.2 y hy x (by simp)
theorem srt_done {l : List Prob} (h : Sorted l) : srt l = l := by
  unfold srt
  rw [foldl_done l [] (by simpa using h)]
  rfl
theorem srt_app (l m : List Prob) : srt (l ++ m) = m.foldl (fun acc x => insP x acc) (srt l) := by
  unfold srt
  rw [List.foldl_append]
theorem lex_sorted (l : List UInt8) : Sorted (lex l).2 := by
  obtain ⟨T, P, e, h⟩ := lex_inv l
  rw [e]
  exact h.pinc.imp fun hxy => Int.le_of_lt hxy
/-- How many of the first list's are found in the second, one behind the other. -/
def found [DecidableEq Prob] : List Prob → List Prob → Nat
  | [], _ => 0
  | _ :: _, [] => 0
  | x :: r, y :: s => if x = y then found r s + 1 else found (x :: r) s
theorem found_sub [DecidableEq Prob] : ∀ (s r : List Prob), r.Sublist s → found r s = r.length
  | _, [], _ => by unfold found; rfl
  | [], x :: r, h => by cases h
  | y :: s, x :: r, h => by
    unfold found
    split
    · next e =>
      subst e
      rw [found_sub s r (by simpa using h)]
      rfl
    · next e =>
      rw [found_sub s (x :: r) ?_]
      rcases List.sublist_cons_iff.1 h with h | ⟨r', e', _⟩
      · exact h
      · simp only [List.cons.injEq] at e'
        exact absurd e'.1 e
theorem pdoc_at (l : List UInt8) : ∀ (f a : Nat), ∀ x ∈ (pdoc (lex l).1 f a).2, 0 ≤ x ∧ x ≤ l.length
  | 0, a, x, hx => by cases hx
  | f + 1, a, x, hx => by
    rw [pdoc_succ] at hx
    split at hx
    · cases hx
    · split at hx
      · exact pdoc_at l f _ x hx
      · next n _ =>
        rcases List.mem_cons.1 hx with rfl | hx
        · obtain ⟨T, P, e, h⟩ := lex_inv l
          rw [e]
          unfold nx
          cases hq : (T ++ [(⟨5, [], l.length⟩ : Tok)])[n]? with
          | none => simp
          | some t =>
            have ht : t ∈ T ++ [(⟨5, [], l.length⟩ : Tok)] := List.mem_of_getElem? hq
            rcases List.mem_append.1 ht with ht | ht
            · obtain ⟨⟨b, h1, h2, _⟩, _⟩ := h.tok t ht
              simp only [Option.getD]
              omega
            · obtain rfl := List.mem_singleton.1 ht
              simp
        · exact pdoc_at l f _ x hx
/-- The law on problems. -/
theorem law_probs [DecidableEq Prob] (l : List UInt8) : (docP l).length ≤ 64 ∧ Sorted (docP l) ∧ (∀ p ∈ docP l, 0 ≤ p.at_ ∧ p.at_ ≤ l.length ∧ (p.code = 60 ∨ p.code = 130)) ∧
    (found (lex l).2 (docP l) = (lex l).2.length ∨ (docP l).length = 64) := by
  have hle : (docP l).length ≤ 64 := by unfold docP; rw [List.length_take]; omega
  refine ⟨hle, ?_, ?_, ?_⟩
  · exact (srt_sorted _).sublist (List.take_sublist _ _)
  · intro p hp
    have h1 := (srt_mem _ p).1 (List.mem_of_mem_take hp)
    rcases List.mem_append.1 h1 with h2 | h2
    · obtain ⟨T, P, e, h⟩ := lex_inv l
      rw [e] at h2
      obtain ⟨g1, g2, g3, _⟩ := h.prob p h2
      exact ⟨g2, by omega, .inl g1⟩
    · obtain ⟨x, hx, rfl⟩ := List.mem_map.1 h2
      obtain ⟨g1, g2⟩ := pdoc_at l _ _ x hx
      exact ⟨g1, g2, .inr rfl⟩
  · rcases Nat.lt_or_ge (docP l).length 64 with h | h
    · left
      apply found_sub
      have e : docP l = srt ((lex l).2 ++ synP l) := by
        unfold docP at h ⊢
        rw [List.length_take] at h
        exact List.take_of_length_le (by omega)
      rw [e, srt_app, srt_done (lex_sorted l)]
      exact foldl_sub _ _
    · right
      omega
/-- A sorted list that has the same problems at each offset, in the same order, is the sorted list. -/
theorem sorted_unique : ∀ (l m : List Prob), Sorted l → Sorted m → (∀ k : Int, l.filter (fun p => p.at_ == k) = m.filter (fun p => p.at_ == k)) → l = m
  | [], [], _, _, _ => rfl
  | [], y :: m, _, _, h => by
    have := h y.at_
    rw [List.filter_cons_of_pos (by simp)] at this
    cases this
  | x :: l, [], _, _, h => by
    have := h x.at_
    rw [List.filter_cons_of_pos (by simp)] at this
    cases this
  | x :: l, y :: m, hl, hm, h => by
    have hxy : x.at_ = y.at_ := by
      have h1 : y.at_ ≤ x.at_ := by
        have := h x.at_
        rw [List.filter_cons_of_pos (by simp)] at this
        have hx : x ∈ (y :: m).filter (fun p => p.at_ == x.at_) := by rw [← this]; simp
        have hx' := (List.mem_filter.1 hx).1
        rcases List.mem_cons.1 hx' with e | e
        · rw [e]; omega
        · exact (List.pairwise_cons.1 hm).1 x e
      have h2 : x.at_ ≤ y.at_ := by
        have := h y.at_
        rw [List.filter_cons_of_pos (a := y) (by simp)] at this
        have hy : y ∈ (x :: l).filter (fun p => p.at_ == y.at_) := by rw [this]; simp
        have hy' := (List.mem_filter.1 hy).1
        rcases List.mem_cons.1 hy' with e | e
        · rw [e]; omega
        · exact (List.pairwise_cons.1 hl).1 y e
      omega
    have h0 := h x.at_
    rw [List.filter_cons_of_pos (by simp), List.filter_cons_of_pos (by simp [hxy])] at h0
    simp only [List.cons.injEq] at h0
    obtain ⟨rfl, h0⟩ := h0
    congr 1
    refine sorted_unique l m (List.pairwise_cons.1 hl).2 (List.pairwise_cons.1 hm).2 fun k => ?_
    by_cases hk : x.at_ = k
    · subst hk
      exact h0
    · have := h k
      rwa [List.filter_cons_of_neg (by simpa using hk), List.filter_cons_of_neg (by simpa using hk)] at this
theorem insP_filter (x : Prob) (k : Int) : ∀ {l : List Prob}, Sorted l → (insP x l).filter (fun p => p.at_ == k) = l.filter (fun p => p.at_ == k) ++ [x].filter (fun p => p.at_ == k)
  | [], _ => by simp [insP]
  | y :: r, h => by
    have h' := List.pairwise_cons.1 h
    unfold insP
    split
    · next hlt =>
      by_cases hk : x.at_ = k
      · rw [List.filter_cons_of_pos (by simpa using hk)]
        have e : (y :: r).filter (fun p => p.at_ == k) = [] := by
          rw [List.filter_eq_nil_iff]
          intro z hz
          rcases List.mem_cons.1 hz with rfl | hz
          · simp; omega
          · have := h'.1 z hz
            simp; omega
        rw [e]
        simp [hk]
      · rw [List.filter_cons_of_neg (by simpa using hk), List.filter_cons_of_neg (a := x) (by simpa using hk)]
        simp
    · by_cases hk : y.at_ = k
      · rw [List.filter_cons_of_pos (by simpa using hk), List.filter_cons_of_pos (by simpa using hk), insP_filter x k h'.2]
        rfl
      · rw [List.filter_cons_of_neg (by simpa using hk), List.filter_cons_of_neg (by simpa using hk), insP_filter x k h'.2]
theorem srt_filter (k : Int) : ∀ (l acc : List Prob), Sorted acc → (l.foldl (fun acc x => insP x acc) acc).filter (fun p => p.at_ == k) = acc.filter (fun p => p.at_ == k) ++ l.filter (fun p => p.at_ == k)
  | [], acc, _ => by simp
  | x :: r, acc, h => by
    rw [List.foldl_cons, srt_filter k r _ (insP_sorted x h), insP_filter x k h, List.append_assoc, ← List.filter_append]
    rfl
theorem srt_unique {l m : List Prob} (h : Sorted m) (hf : ∀ k : Int, m.filter (fun p => p.at_ == k) = l.filter (fun p => p.at_ == k)) : m = srt l := by
  refine sorted_unique m (srt l) h (srt_sorted l) fun k => ?_
  rw [hf k]
  unfold srt
  rw [srt_filter k l [] List.Pairwise.nil]
  rfl
end Go.Proofs.YtlgdmbdhffdenaaGreatDoor

/- The parser's values at the chapter's examples. -/
namespace Go.Proofs.YtlgdmbdhffdenaaGreatDoor
set_option linter.unusedVariables false
set_option linter.unusedSimpArgs false

def itemsF : Nat → List UInt8 → List Item
  | 0, _ => []
  | n + 1, s => if s.isEmpty then [] else stepItem s :: itemsF n (s.drop (stepItem s).len)
theorem items_fuel : ∀ (n : Nat) (s : List UInt8), s.length ≤ n → items s = itemsF n s
  | 0, s, h => by
    obtain rfl : s = [] := List.eq_nil_of_length_eq_zero (by omega)
    rw [items_nil]; rfl
  | n + 1, s, h => by
    unfold itemsF
    by_cases hs : s = []
    · subst hs
      rw [items_nil]; rfl
    · have h1 := stepItem_pos s
      have h2 := List.length_pos_iff.2 hs
      rw [items_cons s hs, items_fuel n _ (by rw [List.length_drop]; omega), if_neg (by simpa using hs)]
theorem lex_fuel (l : List UInt8) : lex l = fin [] [] (-1) 0 (itemsF l.length l) := by unfold lex; rw [items_fuel _ _ (Nat.le_refl _)]
abbrev tx1 : List UInt8 := [116, 105, 101, 100, 32, 62, 32, 50, 32, 97, 110, 100, 32, 110, 111, 116, 32, 102, 105, 110, 105, 115, 104, 101, 100, 32, 61, 32, 49]
abbrev tx2 : List UInt8 := [116, 105, 101, 100, 32, 62, 32]
abbrev tx3 : List UInt8 := [112, 111, 105, 110, 116, 115, 59]
abbrev tx4 : List UInt8 := [114, 117, 108, 101, 115, 32, 97, 32, 123, 32, 119, 105, 110, 32, 51, 32, 100, 114, 97, 119, 32, 49, 32, 108, 111, 115, 115, 32, 48, 59, 32, 111, 114, 100, 101, 114, 32, 123, 32, 112, 111, 105, 110, 116, 115, 59, 32, 125, 32, 122, 111, 110, 101, 115, 32, 123, 32, 116, 111, 112, 32, 49, 59, 32, 125, 32, 125]
abbrev tx5 : List UInt8 := [114, 117, 108, 101, 115, 32, 97, 32, 123, 32, 119, 105, 110, 32, 51, 32, 100, 114, 97, 119, 32, 49, 32, 108, 111, 115, 115, 32, 48, 32, 111, 114, 100, 101, 114, 32, 123, 32, 125, 32, 122, 111, 110, 101, 115, 32, 123, 32, 125, 32, 125, 10, 114, 117, 108, 101, 115, 32, 97, 32, 123, 32, 119, 105, 110, 32, 51, 32, 100, 114, 97, 119, 32, 49, 32, 108, 111, 115, 115, 32, 48, 59, 32, 111, 114, 100, 101, 114, 32, 123, 32, 112, 111, 105, 110, 116, 115, 59, 32, 125, 32, 122, 111, 110, 101, 115, 32, 123, 32, 116, 111, 112, 32, 49, 59, 32, 125, 32, 125]
theorem ex1 : topCond tx1 = (⟨2, 0, 0, .one ⟨1, 1, 3, .nil⟩ (.one ⟨4, 0, 0, .one ⟨2, 0, 0, .one ⟨1, 3, 1, .nil⟩ (.one (cnot ⟨1, 3, 2, .nil⟩) .nil)⟩ .nil⟩ .nil)⟩, 0, 0) := by
  unfold topCond topOf
  rw [lex_fuel]
  decide +kernel
theorem ex2 : (topCond tx2).2 = (7, 130) := by
  unfold topCond topOf
  rw [lex_fuel]
  decide +kernel
theorem ex3 : (topRules tx3).2 = (0, 130) := by
  unfold topRules topOf
  rw [lex_fuel]
  decide +kernel
theorem ex4 : topRules tx4 = (⟨[97], 3, 1, 0, .one 1 1 .zero .nil .nil .nil, [⟨[116, 111, 112], 1, 1⟩]⟩, 0, 0) := by
  unfold topRules topOf
  rw [lex_fuel]
  decide +kernel
theorem ex5 : (docR tx5).length = 1 ∧ (lex tx5).2.length = 0 ∧ (synP tx5).map (fun p => (p.at_, p.code)) = [(30, 130)] := by
  unfold docR synP
  rw [lex_fuel]
  decide +kernel
theorem ex6 : docR [] = [] ∧ (lex []).2.length = 0 ∧ synP [] = [] := by
  unfold docR synP
  rw [lex_fuel]
  exact ⟨rfl, rfl, rfl⟩
end Go.Proofs.YtlgdmbdhffdenaaGreatDoor
