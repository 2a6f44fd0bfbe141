/- Plain laws: tokens that are joined with blanks come back. No program. -/
import Derived.Test.YtbfgmbijmdbcmaaGreatDoorComPlain
namespace Go.Proofs.YtbfgmbijmdbcmaaGreatDoor
set_option linter.unusedVariables false
set_option linter.unusedSimpArgs false

/-- How a byte is written between quotes. -/
def esc1 (c : UInt8) : List UInt8 := if c.toNat = 34 then [92, 34] else if c.toNat = 92 then [92, 92] else if c.toNat = 10 then [92, 110] else [c]
def escape (s : List UInt8) : List UInt8 := s.flatMap esc1
/-- How a token is written. -/
def spell (t : Tok) : List UInt8 := if t.kind = 3 then 34 :: (escape t.text ++ [34]) else t.text
/-- What can be joined. -/
def okTok (t : Tok) : Bool := if t.kind = 1 then wordB t.text else if t.kind = 2 then intB t.text else if t.kind = 4 then signB t.text else if t.kind = 3 then textB t.text else false
/-- The joined bytes. -/
def joinB : List Tok → List UInt8
  | [] => []
  | t :: r => spell t ++ r.flatMap fun t => 32 :: spell t
theorem joinB_push (T : List Tok) (t : Tok) : joinB (T ++ [t]) = joinB T ++ (if T = [] then [] else [32]) ++ spell t := by
  cases T with
  | nil => simp [joinB]
  | cons a r => simp [joinB]
theorem spell_look {t t' : Tok} (h : look t = look t') : spell t = spell t' := by
  have h1 : t.kind = t'.kind := congrArg Prod.fst h
  have h2 : t.text = t'.text := congrArg Prod.snd h
  simp [spell, h1, h2]
theorem okTok_look {t t' : Tok} (h : look t = look t') : okTok t = okTok t' := by
  have h1 : t.kind = t'.kind := congrArg Prod.fst h
  have h2 : t.text = t'.text := congrArg Prod.snd h
  simp [okTok, h1, h2]
theorem flatMap_look {f : Tok → List UInt8} (hf : ∀ a b, look a = look b → f a = f b) : ∀ (T T' : List Tok), T.map look = T'.map look → T.flatMap f = T'.flatMap f
  | [], [], _ => rfl
  | [], _ :: _, h => by simp at h
  | _ :: _, [], h => by simp at h
  | a :: r, b :: r', h => by
    simp only [List.map_cons, List.cons.injEq] at h
    rw [List.flatMap_cons, List.flatMap_cons, hf a b h.1, flatMap_look hf r r' h.2]
theorem joinB_look (T T' : List Tok) (h : T.map look = T'.map look) : joinB T = joinB T' := by
  cases T with
  | nil => cases T' with
    | nil => rfl
    | cons b r' => simp at h
  | cons a r => cases T' with
    | nil => simp at h
    | cons b r' =>
      simp only [List.map_cons, List.cons.injEq] at h
      show spell a ++ r.flatMap (fun t => 32 :: spell t) = spell b ++ r'.flatMap (fun t => 32 :: spell t)
      rw [spell_look h.1, flatMap_look (fun a b e => by rw [spell_look e]) r r' h.2]

/-- What stands behind a token. -/
def Shut (v : List UInt8) : Prop := v = [] ∨ bt v 0 = 32
theorem Shut.inner {v : List UInt8} (h : Shut v) : isInner (bt v 0) = false := by
  rcases h with rfl | h
  · rfl
  · rw [h]; rfl
theorem Shut.ne61 {v : List UInt8} (h : Shut v) : (bt v 0 == 61) = false := by
  rcases h with rfl | h
  · rfl
  · rw [h]; rfl
theorem runLen_all (s v : List UInt8) (hs : ∀ c ∈ s, isInner c.toNat = true) (hv : isInner (bt v 0) = false) : runLen (s ++ v) = s.length := by
  induction s with
  | nil =>
    cases v with
    | nil => rfl
    | cons a b =>
      rw [bt_cons_zero] at hv
      simp [runLen, hv]
  | cons c s ih =>
    show runLen (c :: (s ++ v)) = s.length + 1
    unfold runLen
    rw [if_pos (hs c (by simp)), ih (fun x hx => hs x (by simp [hx]))]
theorem take_app (s v : List UInt8) (n : Nat) (hn : n = s.length) : (s ++ v).take n = s := by subst hn; simp
/-- The contents of a quoted text come back. -/
theorem qscan_escape (s v : List UInt8) (h : textB s = true) : qscan (escape s ++ 34 :: v) = some (s, (escape s).length + 1) := by
  induction s with
  | nil =>
    show qscan (34 :: v) = _
    rw [qscan.eq_def]
    simp only
    rw [if_pos (by decide)]
    rfl
  | cons c s ih =>
    have hc : c.toNat = 10 ∨ (32 ≤ c.toNat ∧ c.toNat ≤ 126) := by
      have := List.all_eq_true.1 h c (by simp)
      simpa using this
    have hs : textB s = true := by
      unfold textB at h ⊢
      rw [List.all_cons, Bool.and_eq_true] at h
      exact h.2
    have ih' := ih hs
    have e : escape (c :: s) = esc1 c ++ escape s := by simp [escape]
    rw [e, List.append_assoc, List.length_append]
    generalize escape s ++ 34 :: v = z at ih'
    unfold esc1
    split
    · rename_i h34
      have hc34 : c = 34 := UInt8.toNat_inj.1 h34
      subst hc34
      show qscan (92 :: 34 :: z) = _
      rw [qscan.eq_def]
      simp only
      rw [if_neg (by decide), if_neg (by decide), if_neg (by decide), if_pos (by decide), ih']
      simp; omega
    · split
      · rename_i h92
        have hc92 : c = 92 := UInt8.toNat_inj.1 h92
        subst hc92
        show qscan (92 :: 92 :: z) = _
        rw [qscan.eq_def]
        simp only
        rw [if_neg (by decide), if_neg (by decide), if_neg (by decide), if_pos (by decide), ih']
        simp; omega
      · split
        · rename_i h10
          have hc10 : c = 10 := UInt8.toNat_inj.1 h10
          subst hc10
          show qscan (92 :: 110 :: z) = _
          rw [qscan.eq_def]
          simp only
          rw [if_neg (by decide), if_neg (by decide), if_neg (by decide), if_neg (by decide), if_pos (by decide), ih']
          simp; omega
        · rename_i h1 h2 h3
          show qscan (c :: z) = _
          rw [qscan.eq_def]
          simp only
          rw [if_neg h1, if_neg (by omega), if_pos h2, ih']
          simp; omega
theorem letter_solid {c : Nat} (h : isLetter c = true) : isBlankC c = false ∧ c ≠ 35 := by
  constructor
  · cases hb : isBlankC c
    · rfl
    · rw [(blank_other hb).1] at h; cases h
  · rintro rfl; exact absurd h (by decide)
theorem digit_solid {c : Nat} (h : isDigit c = true) : isBlankC c = false ∧ c ≠ 35 := by
  constructor
  · cases hb : isBlankC c
    · rfl
    · rw [(blank_other hb).2.1] at h; cases h
  · rintro rfl; exact absurd h (by decide)
theorem sign_solid {c : Nat} (h : isSignC c = true) : isBlankC c = false ∧ c ≠ 35 := by
  constructor
  · cases hb : isBlankC c
    · rfl
    · rw [(blank_other hb).2.2] at h; cases h
  · rintro rfl; exact absurd h (by decide)
theorem step_of_solid (c : UInt8) (r : List UInt8) (h : isBlankC c.toNat = false ∧ c.toNat ≠ 35) : stepItem (c :: r) = nextItem (c :: r) := by
  unfold stepItem
  simp only
  rw [if_neg (by rw [h.1]; decide), if_neg h.2]
theorem digit_inner {c : Nat} (h : isDigit c = true) : isInner c = true := by simp [isInner, h]
theorem step_word (s v : List UInt8) (h : wordB s = true) (hv : Shut v) : stepItem (s ++ v) = ⟨1, s, s.length⟩ := by
  cases s with
  | nil => simp [wordB] at h
  | cons c s =>
    unfold wordB at h
    simp only [Bool.and_eq_true, List.all_eq_true] at h
    obtain ⟨⟨_, h1⟩, h2⟩ := h
    rw [bt_cons_zero] at h1
    have hr := runLen_all (c :: s) v h2 hv.inner
    have hr' : runLen (c :: (s ++ v)) = (c :: s).length := hr
    show stepItem (c :: (s ++ v)) = _
    rw [step_of_solid c _ (letter_solid h1)]
    unfold nextItem
    simp only
    rw [if_pos h1, hr']
    have := take_app (c :: s) v _ rfl
    have h' : (c :: (s ++ v)).take (c :: s).length = c :: s := this
    rw [h']
theorem step_digits (c : UInt8) (s v : List UInt8) (h1 : isDigit c.toNat = true ∨ (c.toNat = 45 ∧ isDigit (bt (s ++ v) 0) = true)) (h2 : ∀ x ∈ s, isDigit x.toNat = true) (hi : intB (c :: s) = true) (hv : Shut v) : stepItem (c :: s ++ v) = ⟨2, c :: s, (c :: s).length⟩ := by
  have hr := runLen_all s v (fun x hx => digit_inner (h2 x hx)) hv.inner
  show stepItem (c :: (s ++ v)) = _
  have hsol : isBlankC c.toNat = false ∧ c.toNat ≠ 35 := by
    rcases h1 with h1 | ⟨h1, _⟩
    · exact digit_solid h1
    · rw [h1]; exact ⟨by decide, by decide⟩
  have hnl : ¬ isLetter c.toNat = true := by
    rcases h1 with h1 | ⟨h1, _⟩
    · rw [isDigit_not_letter h1]; decide
    · rw [h1]; decide
  have hd : (isDigit c.toNat || (c.toNat == 45 && isDigit (bt (s ++ v) 0))) = true := by
    rcases h1 with h1 | ⟨h1, h3⟩
    · simp [h1]
    · simp [h1, h3]
  rw [step_of_solid c _ hsol]
  unfold nextItem
  simp only
  rw [if_neg hnl, if_pos hd, hr]
  have h' : (c :: (s ++ v)).take (s.length + 1) = c :: s := take_app (c :: s) v _ rfl
  rw [h', if_pos hi]
  rfl
theorem numB_all {s : List UInt8} (h : numB s = true) : s ≠ [] ∧ ∀ x ∈ s, isDigit x.toNat = true := by
  unfold numB at h
  simp only [Bool.and_eq_true, List.all_eq_true] at h
  refine ⟨?_, h.2⟩
  rintro rfl
  simp at h
theorem step_int (s v : List UInt8) (h : intB s = true) (hv : Shut v) : stepItem (s ++ v) = ⟨2, s, s.length⟩ := by
  have h0 := h
  unfold intB at h
  rw [Bool.or_eq_true] at h
  rcases h with h | h
  · have : s = [48] := by simpa using h
    subst this
    exact step_digits 48 [] v (.inl (by decide)) (by simp) h0 hv
  · cases s with
    | nil => simp [bt, numB] at h
    | cons c s =>
      rw [bt_cons_zero] at h
      split at h
      · rename_i h45
        obtain ⟨hn, ha⟩ := numB_all h
        have hn' : s ≠ [] := hn
        have ha' : ∀ x ∈ s, isDigit x.toNat = true := ha
        refine step_digits c s v (.inr ⟨h45, ?_⟩) ha' h0 hv
        cases s with
        | nil => exact absurd rfl hn'
        | cons d s' => exact ha' d (by simp)
      · obtain ⟨_, ha⟩ := numB_all h
        exact step_digits c s v (.inl (ha c (by simp))) (fun x hx => ha x (by simp [hx])) h0 hv
theorem step_signs (c : UInt8) (r : List UInt8) (h : isSignC c.toNat = true) : stepItem (c :: r) = if (c.toNat == 60 || c.toNat == 62) && bt r 0 == 61 then ⟨4, (c :: r).take 2, 2⟩ else ⟨4, [c], 1⟩ := by
  rw [step_of_solid c _ (sign_solid h)]
  unfold nextItem
  simp only
  have ho := sign_other h
  have h45 : (c.toNat == 45) = false := by
    cases hc : c.toNat == 45
    · rfl
    · rw [beq_iff_eq] at hc
      rw [hc] at h
      exact absurd h (by decide)
  rw [if_neg (by rw [ho.1]; decide), if_neg (by rw [ho.2, h45]; simp), if_pos h]
theorem step_sign (s v : List UInt8) (h : signB s = true) (hv : Shut v) : stepItem (s ++ v) = ⟨4, s, s.length⟩ := by
  unfold signB at h
  simp only [Bool.or_eq_true] at h
  rcases h with (h | h) | h
  · rw [Bool.and_eq_true] at h
    have hl : s.length = 1 := by simpa using h.1
    obtain ⟨c, rfl⟩ : ∃ c, s = [c] := by
      cases s with
      | nil => simp at hl
      | cons c s => cases s with
        | nil => exact ⟨c, rfl⟩
        | cons d s => simp at hl
    have hc : isSignC c.toNat = true := h.2
    show stepItem (c :: v) = _
    rw [step_signs c v hc, hv.ne61]
    simp
  · have : s = [60, 61] := by simpa using h
    subst this
    show stepItem (60 :: 61 :: v) = _
    rw [step_signs 60 _ (by decide)]
    rfl
  · have : s = [62, 61] := by simpa using h
    subst this
    show stepItem (62 :: 61 :: v) = _
    rw [step_signs 62 _ (by decide)]
    rfl
theorem step_text (s v : List UInt8) (h : textB s = true) : stepItem ((34 :: (escape s ++ [34])) ++ v) = ⟨3, s, (34 :: (escape s ++ [34])).length⟩ := by
  have e : (34 :: (escape s ++ [34])) ++ v = 34 :: (escape s ++ 34 :: v) := by simp
  rw [e, step_of_solid 34 _ (by decide)]
  unfold nextItem
  simp only
  rw [if_neg (by decide), if_neg (by simp; decide), if_neg (by decide), if_pos (by decide), qscan_escape s v h]
  simp
/-- The lexer's step over a token that was written. -/
theorem step_spell (t : Tok) (v : List UInt8) (h : okTok t = true) (hv : Shut v) : ∃ k : Nat, t.kind = k ∧ k ≠ 0 ∧ k ≠ 6 ∧ stepItem (spell t ++ v) = ⟨k, t.text, (spell t).length⟩ := by
  unfold okTok at h
  split at h
  · rename_i hk
    refine ⟨1, hk, by omega, by omega, ?_⟩
    have : spell t = t.text := by unfold spell; rw [if_neg (by omega)]
    rw [this]
    exact step_word _ v h hv
  · split at h
    · rename_i hk
      refine ⟨2, hk, by omega, by omega, ?_⟩
      have : spell t = t.text := by unfold spell; rw [if_neg (by omega)]
      rw [this]
      exact step_int _ v h hv
    · split at h
      · rename_i hk
        refine ⟨4, hk, by omega, by omega, ?_⟩
        have : spell t = t.text := by unfold spell; rw [if_neg (by omega)]
        rw [this]
        exact step_sign _ v h hv
      · split at h
        · rename_i hk
          refine ⟨3, hk, by omega, by omega, ?_⟩
          have : spell t = 34 :: (escape t.text ++ [34]) := by unfold spell; rw [if_pos hk]
          rw [this]
          exact step_text _ v h
        · cases h
theorem spell_ne (t : Tok) (h : okTok t = true) : spell t ≠ [] := by
  obtain ⟨k, _, _, _, h1⟩ := step_spell t [] h (.inl rfl)
  intro e
  rw [e] at h1
  have : stepItem [] = ⟨6, [], 1⟩ := rfl
  rw [show ([] : List UInt8) ++ [] = [] from rfl, this] at h1
  injection h1 with _ _ h3
  simp at h3
/-- The steps over joined tokens. -/
theorem items_rest : ∀ (r : List Tok), (∀ t ∈ r, okTok t = true) → (toks (items (r.flatMap fun t => 32 :: spell t))).map (fun x => ((x.1 : Int), x.2)) = r.map look ∧ ∀ i ∈ items (r.flatMap fun t => 32 :: spell t), i.kind ≠ 0
  | [], _ => by simp [items_nil, toks]
  | t :: r, h => by
    obtain ⟨i1, i2⟩ := items_rest r (fun x hx => h x (by simp [hx]))
    have hv : Shut (r.flatMap fun t => 32 :: spell t) := by
      cases r with
      | nil => exact .inl rfl
      | cons a b => exact .inr rfl
    obtain ⟨k, hk, hk0, hk6, hs⟩ := step_spell t _ (h t (by simp)) hv
    have hne := spell_ne t (h t (by simp))
    have hsp : stepItem (32 :: (spell t ++ r.flatMap fun t => 32 :: spell t)) = ⟨6, [], 1⟩ := by
      unfold stepItem
      simp only
      rw [if_pos (by decide)]
    have e : ((t :: r).flatMap fun t => 32 :: spell t) = 32 :: (spell t ++ r.flatMap fun t => 32 :: spell t) := by simp
    rw [e, items_cons _ (by simp), hsp]
    simp only [List.drop_succ_cons, List.drop_zero]
    rw [items_cons _ (by simp [hne]), hs]
    simp only
    rw [List.drop_left]
    refine ⟨?_, ?_⟩
    · rw [toks_cons, if_pos (.inl rfl), toks_cons, if_neg (by rintro (h | h); exact hk6 h; exact hk0 h), List.map_cons, i1, List.map_cons]
      simp [look, hk]
    · intro i hi
      rcases List.mem_cons.1 hi with rfl | hi
      · decide
      · rcases List.mem_cons.1 hi with rfl | hi
        · exact hk0
        · exact i2 i hi
theorem items_join (T : List Tok) (h : ∀ t ∈ T, okTok t = true) : (toks (items (joinB T))).map (fun x => ((x.1 : Int), x.2)) = T.map look ∧ ∀ i ∈ items (joinB T), i.kind ≠ 0 := by
  cases T with
  | nil => simp [joinB, items_nil, toks]
  | cons t r =>
    obtain ⟨i1, i2⟩ := items_rest r (fun x hx => h x (by simp [hx]))
    have hv : Shut (r.flatMap fun t => 32 :: spell t) := by
      cases r with
      | nil => exact .inl rfl
      | cons a b => exact .inr rfl
    obtain ⟨k, hk, hk0, hk6, hs⟩ := step_spell t _ (h t (by simp)) hv
    have hne := spell_ne t (h t (by simp))
    unfold joinB
    rw [items_cons _ (by simp [hne]), hs]
    simp only
    rw [List.drop_left]
    refine ⟨?_, ?_⟩
    · rw [toks_cons, if_neg (by rintro (h | h); exact hk6 h; exact hk0 h), List.map_cons, i1, List.map_cons]
      simp [look, hk]
    · intro i hi
      rcases List.mem_cons.1 hi with rfl | hi
      · exact hk0
      · exact i2 i hi
theorem fin_probs : ∀ (I : List Item) (T : List Tok) (P : List Prob) (E : Int) (a : Nat), (∀ i ∈ I, i.kind ≠ 0) → (fin T P E a I).2 = P
  | [], T, P, E, a, _ => rfl
  | i :: r, T, P, E, a, h => by
    unfold fin
    have h0 := h i (by simp)
    have hr := fun x hx => h x (List.mem_cons_of_mem i hx)
    split
    · exact fin_probs r _ _ _ _ hr
    · exact fin_probs r _ _ _ _ hr
/-- The law: joined tokens come back. -/
theorem lex_join (T : List Tok) (h : ∀ t ∈ T, okTok t = true) : (lex (joinB T)).1.map look = T.map look ++ [(5, [])] ∧ (lex (joinB T)).2 = [] := by
  obtain ⟨h1, h2⟩ := items_join T h
  exact ⟨by rw [lex_toks, h1], fin_probs _ _ _ _ _ h2⟩

/-- The contents of a quoted text can be quoted, and take no more bytes. -/
theorem qscan_text : ∀ (n : Nat) (s : List UInt8), s.length ≤ n → ∀ t k, qscan s = some (t, k) → textB t = true ∧ (escape t).length + 1 ≤ k
  | 0, s, hn, t, k, h => by
    have : s = [] := List.eq_nil_of_length_eq_zero (by omega)
    subst this
    simp [qscan] at h
  | n + 1, [], _, t, k, h => by simp [qscan] at h
  | n + 1, c :: r, hn, t, k, h => by
    have hcons : ∀ (d : UInt8) (s : List UInt8), escape (d :: s) = esc1 d ++ escape s := by intro d s; simp [escape]
    have htext : ∀ (d : UInt8) (s : List UInt8), (d.toNat = 10 ∨ (32 ≤ d.toNat ∧ d.toNat ≤ 126)) → textB s = true → textB (d :: s) = true := by
      intro d s hd hs
      unfold textB at hs ⊢
      rw [List.all_cons, hs]
      simpa using hd
    have hesc : ∀ d : UInt8, (esc1 d).length ≤ 2 := by intro d; unfold esc1; (repeat' split) <;> simp
    rw [qscan.eq_def] at h
    simp only at h
    split at h
    · injection h with h; injection h with h1 h2; subst h1 h2; simp [textB, escape]
    · split at h
      · cases h
      · rename_i hc1 hc2
        split at h
        · rename_i hc3
          cases hq : qscan r with
          | none => rw [hq] at h; cases h
          | some x =>
            have ih := qscan_text n r (by simp at hn; omega) x.1 x.2 (by rw [hq])
            rw [hq] at h
            simp at h
            obtain ⟨rfl, rfl⟩ := h
            refine ⟨htext _ _ (.inr (by omega)) ih.1, ?_⟩
            have : esc1 c = [c] := by unfold esc1; rw [if_neg hc1, if_neg hc3, if_neg (by omega)]
            rw [hcons, this]
            simp; omega
        · split at h
          · cases h
          · rename_i d r'
            split at h
            · rename_i hd
              cases hq : qscan r' with
              | none => rw [hq] at h; cases h
              | some x =>
                have ih := qscan_text n r' (by simp at hn; omega) x.1 x.2 (by rw [hq])
                rw [hq] at h
                simp at h
                obtain ⟨rfl, rfl⟩ := h
                refine ⟨htext _ _ (.inr (by omega)) ih.1, ?_⟩
                have := hesc d
                rw [hcons, List.length_append]
                omega
            · split at h
              · cases hq : qscan r' with
                | none => rw [hq] at h; cases h
                | some x =>
                  have ih := qscan_text n r' (by simp at hn; omega) x.1 x.2 (by rw [hq])
                  rw [hq] at h
                  simp at h
                  obtain ⟨rfl, rfl⟩ := h
                  refine ⟨htext _ _ (.inl (by decide)) ih.1, ?_⟩
                  have := hesc 10
                  rw [hcons, List.length_append]
                  omega
              · cases h
theorem runLen_inner (s : List UInt8) : ∀ c ∈ s.take (runLen s), isInner c.toNat = true := by
  induction s with
  | nil => simp [runLen]
  | cons c r ih =>
    unfold runLen
    split
    · rename_i h
      intro x hx
      rw [List.take_succ_cons] at hx
      rcases List.mem_cons.1 hx with rfl | hx
      · exact h
      · exact ih x hx
    · simp
/-- What the lexer finds can be joined, and takes no more bytes. -/
theorem next_ok (s : List UInt8) (a : Int) (h0 : (nextItem s).kind ≠ 0) : okTok ⟨(nextItem s).kind, (nextItem s).text, a⟩ = true ∧ (spell ⟨(nextItem s).kind, (nextItem s).text, a⟩).length ≤ (nextItem s).len := by
  cases s with
  | nil => simp [nextItem] at h0
  | cons c r =>
    unfold nextItem at h0 ⊢
    simp only at h0 ⊢
    by_cases h1 : isLetter c.toNat = true
    · rw [if_pos h1] at h0 ⊢
      refine ⟨?_, by simp [spell]; omega⟩
      show wordB ((c :: r).take (runLen (c :: r))) = true
      have hin : isInner c.toNat = true := by simp [isInner, h1]
      have hl : runLen (c :: r) = runLen r + 1 := by simp [runLen, hin]
      have ha := runLen_inner (c :: r)
      rw [hl] at ha ⊢
      rw [List.take_succ_cons] at ha ⊢
      unfold wordB
      rw [bt_cons_zero, h1, List.all_eq_true.2 ha]
      rfl
    · rw [if_neg h1] at h0 ⊢
      by_cases h2 : (isDigit c.toNat || (c.toNat == 45 && isDigit (bt r 0))) = true
      · rw [if_pos h2] at h0 ⊢
        by_cases h3 : intB ((c :: r).take (runLen r + 1)) = true
        · rw [if_pos h3] at h0 ⊢
          exact ⟨h3, by simp [spell]; omega⟩
        · rw [if_neg h3] at h0
          exact absurd rfl h0
      · rw [if_neg h2] at h0 ⊢
        by_cases h3 : isSignC c.toNat = true
        · rw [if_pos h3] at h0 ⊢
          by_cases h4 : ((c.toNat == 60 || c.toNat == 62) && bt r 0 == 61) = true
          · rw [if_pos h4] at h0 ⊢
            refine ⟨?_, by simp [spell]; omega⟩
            show signB ((c :: r).take 2) = true
            simp only [Bool.and_eq_true, Bool.or_eq_true, beq_iff_eq] at h4
            obtain ⟨d, r', rfl⟩ : ∃ d r', r = d :: r' := by
              cases r with
              | nil => have := h4.2; simp [bt] at this
              | cons d r' => exact ⟨d, r', rfl⟩
            rw [bt_cons_zero] at h4
            have hd : d = 61 := UInt8.toNat_inj.1 h4.2
            subst hd
            rcases h4.1 with hc | hc
            · have hc' : c = 60 := UInt8.toNat_inj.1 hc
              subst hc'
              rfl
            · have hc' : c = 62 := UInt8.toNat_inj.1 hc
              subst hc'
              rfl
          · rw [if_neg h4] at h0 ⊢
            refine ⟨?_, by simp [spell]⟩
            show signB [c] = true
            unfold signB
            rw [bt_cons_zero, h3]
            simp
        · rw [if_neg h3] at h0 ⊢
          by_cases h4 : c.toNat = 34
          · rw [if_pos h4] at h0 ⊢
            cases hq : qscan r with
            | none => rw [hq] at h0; exact absurd rfl h0
            | some x =>
              have := qscan_text r.length r (Nat.le_refl _) x.1 x.2 hq
              refine ⟨this.1, ?_⟩
              show (34 :: (escape x.1 ++ [34])).length ≤ x.2 + 1
              simp; omega
          · rw [if_neg h4] at h0
            exact absurd rfl h0
/-- The written length of tokens, each with a separator. -/
def wide (T : List Tok) : Nat := (T.map fun t => (spell t).length + 1).sum
theorem joinB_len (T : List Tok) : (joinB T).length ≤ wide T := by
  have : ∀ r : List Tok, (r.flatMap fun t => 32 :: spell t).length = wide r := by
    intro r
    induction r with
    | nil => rfl
    | cons a r ih => rw [List.flatMap_cons, List.length_append, ih]; simp [wide]
  cases T with
  | nil => simp [joinB]
  | cons t r =>
    unfold joinB
    rw [List.length_append, this]
    simp [wide]
theorem fin_ok (l : List UInt8) : ∀ (d a : Nat) (T : List Tok) (P : List Prob) (E : Int), l.length - a ≤ d → a ≤ l.length → (∀ t ∈ T, okTok t = true) → wide T ≤ 2 * a →
    ∃ T', (fin T P E a (items (l.drop a))).1 = T' ++ [⟨5, [], l.length⟩] ∧ (∀ t ∈ T', okTok t = true) ∧ wide T' ≤ 2 * l.length := by
  intro d
  induction d with
  | zero =>
    intro a T P E hd ha hT hw
    have : a = l.length := by omega
    subst this
    exact ⟨T, by rw [drop_all l _ (Nat.le_refl _), items_nil]; rfl, hT, hw⟩
  | succ d ih =>
    intro a T P E hd ha hT hw
    rcases Nat.eq_or_lt_of_le ha with rfl | hlt
    · exact ⟨T, by rw [drop_all l _ (Nat.le_refl _), items_nil]; rfl, hT, hw⟩
    · have hpos := stepItem_pos (l.drop a)
      have hlen := stepItem_len (l.drop a) (drop_ne l a hlt)
      rw [List.length_drop] at hlen
      rw [items_cons _ (drop_ne l a hlt)]
      simp only [fin, List.drop_drop]
      by_cases h6 : (stepItem (l.drop a)).kind = 6
      · rw [if_pos h6]
        exact ih _ _ _ _ (by omega) (by omega) hT (by omega)
      · rw [if_neg h6]
        obtain ⟨_, hs⟩ := step_next _ h6
        by_cases h0 : (stepItem (l.drop a)).kind = 0
        · rw [if_pos h0]
          exact ih _ _ _ _ (by omega) (by omega) hT (by omega)
        · rw [if_neg h0]
          rw [hs] at h0 hpos hlen ⊢
          obtain ⟨k1, k2⟩ := next_ok (l.drop a) (a : Int) h0
          refine ih _ _ _ _ (by omega) (by omega) (fun t ht => ?_) ?_
          · rcases List.mem_append.1 ht with ht | ht
            · exact hT t ht
            · obtain rfl := List.mem_singleton.1 ht
              exact k1
          · unfold wide at hw ⊢
            simp only [List.map_append, List.sum_append, List.map_cons, List.map_nil, List.sum_cons, List.sum_nil]
            omega
/-- The law: the tokens of a text can be joined. -/
theorem lex_ok (l : List UInt8) : ∃ T, (lex l).1 = T ++ [⟨5, [], l.length⟩] ∧ (∀ t ∈ T, okTok t = true) ∧ (joinB T).length ≤ 2 * l.length := by
  obtain ⟨T, h1, h2, h3⟩ := fin_ok l l.length 0 [] [] (-1) (by omega) (Nat.zero_le _) (by simp) (by simp [wide])
  exact ⟨T, by simpa [lex] using h1, h2, Nat.le_trans (joinB_len T) h3⟩
end Go.Proofs.YtbfgmbijmdbcmaaGreatDoor
