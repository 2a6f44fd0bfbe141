/- Plain laws: the flat steps of an order apply the same criteria, are valid, name no criterion twice, and do not change any more. No program. -/
import Derived.Test.YticpjdjdimpglaaGreatDoorCTisMYLaws
import Derived.Test.YticpjdjdimpglaaGreatDoorCTisMFRules
import Derived.Test.YticpjdjdimpglaaGreatDoorCTisMCmp2
import Derived.StillTailTactics
import Derived.Handy
import Derived.Shelf.SlSortCmp.QuietGrown
import Derived.Deep.RegionHeld3
namespace Go.Proofs.YticpjdjdimpglaaGreatDoor
set_option linter.unusedVariables false
set_option linter.unusedSimpArgs false
theorem tcond_ok {c : CT} (h : tcond c = 0) : okC c = true ∧ (CF.one c .nil).cnt ≤ 256 ∧ c.ps.dep + 1 ≤ 17 := by
  refine ⟨?_, ?_, tcond_dep h⟩
  · unfold tcond at h
    split at h
    · omega
    · split at h
      · next h2 => exact h2
      · omega
  · unfold tcond at h
    split at h
    · omega
    · omega
theorem tidy_ok {c : CT} (h : (tidy c).2 = 0) : okC c = true ∧ norm 100 false c = some (tidy c).1 ∧ tcond (tidy c).1 = 0 ∧ tidy (tidy c).1 = ((tidy c).1, 0) := by
  obtain ⟨g1, g2⟩ := tidy_tidy h fun h0 => (tcond_ok h0).1
  have e : tidy c = ((tidy c).1, 0) := by rw [← h]
  refine ⟨?_, ?_, g2, g1.trans e⟩
  · unfold tidy at h
    split at h
    · next h0 => exact absurd h h0
    · next h0 => exact (tcond_ok (by omega)).1
  · unfold tidy at h ⊢
    split at h
    · next h0 => exact absurd h h0
    · next h0 =>
      rw [if_neg h0]
      split at h
      · cases h
      · next y hy =>
        split at h
        · next hv => rw [if_pos hv]; exact hy
        · cases h
theorem okC_not {y : CT} (h : okC y = true) : okC (cnot y) = true := by
  unfold cnot
  rw [okC_def, if_neg (by decide), if_pos rfl]
  simp only [decide_true, and_self, Bool.true_and, Bool.and_eq_true]
  exact ⟨rfl, h⟩
theorem snum_zero {l : SF} (h : l.num = 0) : l = .nil := by
  cases l with
  | nil => rfl
  | cons => simp [SF.num] at h
theorem map_ok {α β : Type} {x : Except Int α} {f : α → β} {m : β} (h : x.map f = .ok m) : ∃ a, x = .ok a ∧ m = f a := by
  cases x with
  | error e => cases h
  | ok a =>
    have h' : Except.ok (ε := Int) (f a) = .ok m := h
    injection h' with h'
    exact ⟨a, rfl, h'.symm⟩
/-- The cases of one step. -/
theorem flat_cases {kn : List Int} {k b ck cv cn : Int} {cps : CF} {th el r m : SF} (h : flat kn (.cons k b ck cv cn cps th el r) = .ok m) :
    (k = 1 ∧ b ∈ kn ∧ flat kn r = .ok m) ∨ (k = 1 ∧ b ∉ kn ∧ ∃ m', flat (b :: kn) r = .ok m' ∧ m = .cons k b ck cv cn cps th el m') ∨
    (k ≠ 1 ∧ ∃ t f, (tidy ⟨ck, cv, cn, cps⟩).2 = 0 ∧ flat kn th = .ok t ∧ flat kn el = .ok f ∧ ((t = f ∧ ∃ m', flat (t.byL ++ kn) r = .ok m' ∧ m = t.appF m') ∨
      (t ≠ f ∧ t = .nil ∧ (tidy (cnot (tidy ⟨ck, cv, cn, cps⟩).1)).2 = 0 ∧ ∃ m', flat kn r = .ok m' ∧ m = SF.one 2 0 (tidy (cnot (tidy ⟨ck, cv, cn, cps⟩).1)).1 f .nil m') ∨
      (t ≠ f ∧ t.num ≠ 0 ∧ ∃ m', flat kn r = .ok m' ∧ m = SF.one 2 0 (tidy ⟨ck, cv, cn, cps⟩).1 t f m'))) := by
  rw [flat] at h
  by_cases hk : k = 1
  · rw [if_pos hk] at h
    by_cases hc : kn.contains b = true
    · rw [if_pos hc] at h
      exact .inl ⟨hk, by simpa using hc, h⟩
    · rw [if_neg hc] at h
      obtain ⟨m', h1, h2⟩ := map_ok h
      exact .inr (.inl ⟨hk, by simpa using hc, m', h1, h2⟩)
  · rw [if_neg hk] at h
    simp only at h
    refine .inr (.inr ⟨hk, ?_⟩)
    by_cases hz : (tidy ⟨ck, cv, cn, cps⟩).2 = 0
    · rw [if_neg (by simpa using hz)] at h
      cases ht : flat kn th with
      | error e => rw [ht] at h; cases h
      | ok t =>
        cases he : flat kn el with
        | error e => rw [ht, he] at h; cases h
        | ok f =>
          rw [ht, he] at h
          simp only at h
          refine ⟨t, f, hz, rfl, rfl, ?_⟩
          by_cases htf : t = f
          · rw [if_pos htf] at h
            obtain ⟨m', h1, h2⟩ := map_ok h
            exact .inl ⟨htf, m', h1, h2⟩
          · rw [if_neg htf] at h
            by_cases h0 : t.num = 0
            · rw [if_pos h0] at h
              by_cases hd : (tidy (cnot (tidy ⟨ck, cv, cn, cps⟩).1)).2 = 0
              · rw [if_neg (by simpa using hd)] at h
                obtain ⟨m', h1, h2⟩ := map_ok h
                exact .inr (.inl ⟨htf, snum_zero h0, hd, m', h1, h2⟩)
              · rw [if_pos hd] at h; cases h
            · rw [if_neg h0] at h
              obtain ⟨m', h1, h2⟩ := map_ok h
              exact .inr (.inr ⟨htf, h0, m', h1, h2⟩)
    · rw [if_pos hz] at h; cases h
/-- Flat steps. -/
inductive FlatF : List Int → SF → Prop where
  | nil (kn : List Int) : FlatF kn .nil
  | by_ {kn : List Int} {b ck cv cn : Int} {cps : CF} {th el r : SF} (hb : b ∉ kn) (hr : FlatF (b :: kn) r) : FlatF kn (.cons 1 b ck cv cn cps th el r)
  | if_ {kn : List Int} {ck cv cn : Int} {cps : CF} {t f r : SF} (hc : tidy ⟨ck, cv, cn, cps⟩ = (⟨ck, cv, cn, cps⟩, 0)) (ht : FlatF kn t) (hf : FlatF kn f) (hn : t ≠ f) (h0 : t.num ≠ 0) (hr : FlatF kn r) : FlatF kn (.cons 2 0 ck cv cn cps t f r)
theorem FlatF.congr {kn : List Int} {m : SF} (h : FlatF kn m) : ∀ {kn' : List Int}, (∀ b, b ∈ kn ↔ b ∈ kn') → FlatF kn' m := by
  induction h with
  | nil kn => intro kn' _; exact .nil _
  | by_ hb hr ih => intro kn' he; exact .by_ (fun h => hb ((he _).2 h)) (ih fun x => by simp [he x])
  | if_ hc ht hf hn h0 hr iht ihf ihr => intro kn' he; exact .if_ hc (iht he) (ihf he) hn h0 (ihr he)
theorem FlatF.app {kn : List Int} {t m : SF} (h : FlatF kn t) : FlatF (t.byL ++ kn) m → FlatF kn (t.appF m) := by
  induction h with
  | nil kn => intro hm; exact hm
  | @by_ kn b ck cv cn cps th el r hb hr ih =>
    intro hm
    refine .by_ hb (ih (hm.congr fun x => ?_))
    rw [SF.byL, if_pos rfl]
    simp only [List.cons_append, List.mem_cons, List.mem_append]
    constructor
    · rintro (h | h | h)
      · exact .inr (.inl h)
      · exact .inl h
      · exact .inr (.inr h)
    · rintro (h | h | h)
      · exact .inr (.inl h)
      · exact .inl h
      · exact .inr (.inr h)
  | if_ hc ht hf hn h0 hr iht ihf ihr =>
    intro hm
    refine .if_ hc ht hf hn h0 (ihr ?_)
    rwa [SF.byL, if_neg (by decide)] at hm
theorem FlatF.same {kn : List Int} {m : SF} (h : FlatF kn m) : flat kn m = .ok m := by
  induction h with
  | nil kn => rw [flat]
  | by_ hb hr ih =>
    rw [flat, if_pos rfl, if_neg (by simpa using hb), ih]
    rfl
  | if_ hc ht hf hn h0 hr iht ihf ihr =>
    rw [flat, if_neg (by decide)]
    simp only
    rw [hc, iht, ihf, ihr]
    simp only
    rw [if_neg (by decide), if_neg hn, if_neg h0]
    rfl
end Go.Proofs.YticpjdjdimpglaaGreatDoor
/- Plain law: a normal form is valid. No program. -/
namespace Go.Proofs.YticpjdjdimpglaaGreatDoor
set_option linter.unusedVariables false
set_option linter.unusedSimpArgs false
theorem okB_of : ∀ {l : List CT}, (∀ x ∈ l, okC x = true) → (CF.ofL l).okB = true
  | [], _ => rfl
  | x :: l, h => by
    show (CF.one x (CF.ofL l)).okB = true
    rw [okB_cons, h x (by simp), okB_of fun y hy => h y (by simp [hy])]
    rfl
theorem ofL_num (l : List CT) : (CF.ofL l).num = l.length := by rw [← num_toL, toL_ofL2]
theorem norm_ok : ∀ (f : Nat) (neg : Bool) (c y : CT), okC c = true → norm f neg c = some y → okC y = true
  | 0, neg, c, y, _, h => by cases h
  | f + 1, neg, c, y, hok, h => by
    have ih := norm_ok f
    unfold norm at h
    rcases okC_cases hok with h1 | h1 | h1
    · rw [if_pos h1.1] at h
      cases neg with
      | false =>
        rw [if_neg (by decide)] at h
        injection h with h
        subst h
        exact hok
      | true =>
        rw [if_pos rfl] at h
        injection h with h
        subst h
        exact okC_not hok
    · rw [if_neg (by omega), if_pos h1.1] at h
      have hl := num_toL c.ps
      cases hps : c.ps.toL with
      | nil => rw [hps] at hl; simp only [List.length_nil] at hl; omega
      | cons p r =>
        rw [hps] at h
        simp only at h
        have hp := okB_mem h1.2.2.2.2 p (by rw [hps]; simp)
        exact ih (!neg) p y hp h
    · rw [if_neg (by omega), if_neg (by omega)] at h
      obtain ⟨kind, hkd⟩ : ∃ kind : Int, kind = if neg = true then 5 - c.k else c.k := ⟨_, rfl⟩
      have hk23 : kind = 2 ∨ kind = 3 := by rw [hkd]; cases neg <;> simp <;> omega
      simp only at h
      rw [Option.bind_eq_some_iff] at h
      obtain ⟨xs, hs, h⟩ := h
      rw [← hkd] at h
      obtain ⟨m1, m2⟩ := seqO_mem hs
      have hok' := fun p hp => okB_mem h1.2.2.2.2.2 p hp
      have hx : ∀ x ∈ xs, Norm x ∧ okC x = true := fun x hx => by
        obtain ⟨b, hb, hb2⟩ := m1 x hx
        exact ⟨norm_norm f neg b x (hok' b hb) hb2, ih neg b x (hok' b hb) hb2⟩
      obtain ⟨ws, hws⟩ : ∃ ws, ws = xs.flatMap fun x => if x.k = kind then x.ps.toL else [x] := ⟨_, rfl⟩
      rw [← hws] at h
      have hwf : ∀ x ∈ ws, Norm x ∧ okC x = true := fun x hx' => by
        rw [hws] at hx'
        obtain ⟨z, hz, hz2⟩ := List.mem_flatMap.1 hx'
        split at hz2
        · next hc =>
          have := ((hx z hz).1.parts (by omega)).2.2.1 x hz2
          refine ⟨this.1, okB_mem ?_ x hz2⟩
          rcases okC_cases (hx z hz).2 with h2 | h2 | h2
          · have := h2.1; omega
          · have := h2.1; omega
          · exact h2.2.2.2.2.2
        · next hc =>
          obtain rfl := List.mem_singleton.1 hz2
          exact hx x hz
      have hwn : ∀ x ∈ ws, Nrm x := fun x hx' => (hwf x hx').1.nrm
      have hne : ws ≠ [] := by
        have hl := num_toL c.ps
        cases hps : c.ps.toL with
        | nil => rw [hps] at hl; simp only [List.length_nil] at hl; omega
        | cons p r =>
          obtain ⟨z, hz, _⟩ := m2 p (by rw [hps]; simp)
          intro e
          rw [hws] at e
          have e2 := List.flatMap_eq_nil_iff.1 e z hz
          split at e2
          · next hc =>
            have hl2 := num_toL z.ps
            rw [e2] at hl2
            rcases okC_cases (hx z hz).2 with h2 | h2 | h2
            · have := h2.1; omega
            · have := h2.1; omega
            · simp only [List.length_nil] at hl2; have := h2.2.2.2.1; omega
          · cases e2
      obtain ⟨R, hR⟩ : ∃ R, R = ws.foldl (insC kind) [] := ⟨_, rfl⟩
      rw [← hR] at h
      obtain ⟨_, f2, f3⟩ := ins_fold (kind := kind) ws.length ws rfl hwn
      have hRf : ∀ x ∈ R, okC x = true := fun x hx' => by
        rw [hR] at hx'
        exact (hwf x ((f2 x).1 hx').1).2
      have hRn : R ≠ [] := by
        obtain ⟨a, t, hat⟩ := List.exists_cons_of_ne_nil hne
        obtain ⟨z, hz, _⟩ := f3 a (by rw [hat]; simp)
        intro e
        rw [hR] at e
        rw [e] at hz
        cases hz
      clear hR
      split at h
      · next x =>
        injection h with h
        subst h
        exact hRf x (by simp)
      · next hne =>
        split at h
        · cases h
        · next h16 =>
          injection h with h
          subst h
          have hpos := List.length_pos_iff.2 hRn
          rw [okC_def]
          rw [if_neg (by omega), if_neg (by omega), if_pos hk23, okB_of hRf, ofL_num]
          simp
          omega
/-- What normal's list holds. -/
theorem norm_xs {f : Nat} {neg : Bool} {kind : Int} (hk : kind = 2 ∨ kind = 3) {ps : List CT} (hok : ∀ p ∈ ps, okC p = true) {xs : List CT} (hs : seqO (ps.map (norm f neg)) = some xs) (hne : ps ≠ []) :
    (∀ x ∈ xs.flatMap (fun x => if x.k = kind then x.ps.toL else [x]), Nrm x) ∧ (xs.flatMap fun x => if x.k = kind then x.ps.toL else [x]).foldl (insC kind) [] ≠ [] := by
  obtain ⟨m1, m2⟩ := seqO_mem hs
  have hx : ∀ x ∈ xs, Norm x ∧ okC x = true := fun x hx => by
    obtain ⟨b, hb, hb2⟩ := m1 x hx
    exact ⟨norm_norm f neg b x (hok b hb) hb2, norm_ok f neg b x (hok b hb) hb2⟩
  have hwn : ∀ x ∈ xs.flatMap (fun x => if x.k = kind then x.ps.toL else [x]), Nrm x := fun x hx' => by
    obtain ⟨z, hz, hz2⟩ := List.mem_flatMap.1 hx'
    split at hz2
    · next hc => exact (((hx z hz).1.parts (by omega)).2.2.1 x hz2).1.nrm
    · next hc =>
      obtain rfl := List.mem_singleton.1 hz2
      exact (hx x hz).1.nrm
  refine ⟨hwn, ?_⟩
  obtain ⟨_, f2, f3⟩ := ins_fold (kind := kind) _ _ rfl hwn
  obtain ⟨p, r, hps⟩ := List.exists_cons_of_ne_nil hne
  obtain ⟨z, hz, _⟩ := m2 p (by rw [hps]; simp)
  obtain ⟨a, ha⟩ : ∃ a, a ∈ xs.flatMap (fun x => if x.k = kind then x.ps.toL else [x]) := by
    by_cases hc : z.k = kind
    · have hl2 := num_toL z.ps
      cases hzl : z.ps.toL with
      | nil =>
        rw [hzl] at hl2
        rcases okC_cases (hx z hz).2 with h2 | h2 | h2
        · have := h2.1; omega
        · have := h2.1; omega
        · simp only [List.length_nil] at hl2; have := h2.2.2.2.1; omega
      | cons a t => exact ⟨a, List.mem_flatMap.2 ⟨z, hz, by rw [if_pos hc, hzl]; simp⟩⟩
    · exact ⟨z, List.mem_flatMap.2 ⟨z, hz, by rw [if_neg hc]; simp⟩⟩
  obtain ⟨y, hy, _⟩ := f3 a ha
  intro e
  rw [e] at hy
  cases hy
end Go.Proofs.YticpjdjdimpglaaGreatDoor
/- What normal keeps: its list; append that keeps apart. -/
namespace Go.Proofs.YticpjdjdimpglaaGreatDoor
set_option linter.unusedVariables false
set_option linter.unusedSimpArgs false
open Go.RowKit
section
variable {P : Program} {ops : Array Oper} {rest : List Oper} {o : Oper} {a : Act} {w : World} {Q : Exit → Act → World → Prop}
theorem wpList_app_apart {t e : TypeId} {size bytes : Nat} (E : Elem P t e size bytes) (hgd : o.guard = none) (s x : Operand)
    (ho : o.op = .call { callee := .builtin .append, args := #[s, x], argTypes := #[t, t] })
    (B : Nat) (A : Option Addr) (n c : Nat) (xs : List Value) (hs : a.eval s = .slice A n c) (hown : w.ownsRow B e size (.slice A n c) n xs)
    (B' : Nat) (X : Option Addr) (m c' : Nat) (hx : a.eval x = .slice X m c') (news : List Value) (hr : Rd w B' size X m c' news) (h1 : ∀ u ∈ news, u.oneCell' = true)
    (hbytes : (n + m) * bytes ≤ 140737488355328) (h63 : n + m ≤ 9223372036854775807) (hbase : B ≤ w.heap.size)
    (h : ∀ A' c' w', w'.ownsRow B e size (.slice A' (n + m) c') (n + m) (xs ++ news) → Below B w w' → w.grownBy w' (Value.slice A n c).ownBlock → (∀ k, (Value.slice A' (n + m) c').ownBlock = some k → (Value.slice A n c).ownBlock = some k ∨ w.heap.size ≤ k) → wpList P ops Q rest (a.put o.dst (.slice A' (n + m) c')) w') : wpList P ops Q (o :: rest) a w :=
  wpList_plain hgd fun _ hK => by
  obtain ⟨i, z, hi, hz, hsize, hby, hzs⟩ := E.info
  rcases X with _ | ad
  · have hm : m = 0 := by
      rcases Nat.eq_zero_or_pos m with h0 | h0
      · exact h0
      · obtain ⟨b, off, e, _⟩ := hr.cells h0
        cases e
    subst hm
    have hn : news = [] := List.eq_nil_of_length_eq_zero (by have := hr.len; simpa using this)
    subst hn
    have hrun := run_app_none (P := P) B t o.type e i size E.ht hi _ n c' xs hown
    unfold Oper.wp execOp
    simp only [ho, resolve, invoke, builtin, Sem.run_bind, Sem.run_pure, Result.andThen_ok, List.map_toArray, List.map_cons, List.map_nil, hs, hx, hrun]
    exact hK _ _ (h A c w (by simpa using hown) (Below.refl _ _) ⟨rfl, rfl, rfl, Nat.le_refl _, fun _ _ _ => rfl⟩ (fun k hk => .inl hk))
  · obtain ⟨v', w', hrun, r1, r2, r3⟩ := run_push_apart (P := P) (w := w) E o.type B (.slice A n c) n xs hown ad m c' news hr.len (fun j u hj => by
      have h0 : 0 < m := by
        rcases Nat.eq_zero_or_pos m with h0 | h0
        · have hl := hr.len
          rw [h0, Nat.zero_mul] at hl
          rw [List.eq_nil_of_length_eq_zero hl] at hj
          cases hj
        · exact h0
      obtain ⟨b, off, e, _, hc⟩ := hr.cells h0
      injection e with e
      subst e
      have hadd : (⟨b, off, none⟩ : Addr).add j = ⟨b, off + j, none⟩ := by unfold Addr.add; split <;> simp_all
      rw [hadd]
      exact hc j u hj) h1 (by unfold maxLen; omega) hbytes hbase
    obtain ⟨A', c3, rfl⟩ := own_shape r1
    unfold Oper.wp execOp
    simp only [ho, resolve, invoke, builtin, Sem.run_bind, Sem.run_pure, Result.andThen_ok, List.map_toArray, List.map_cons, List.map_nil, hs, hx, hrun]
    exact hK _ _ (h A' c3 w' r1 ((Below.refl B w).grown r2 hbase (fun k hk => (hown.lt k hk).1)) r2 r3)
end
theorem RepF.one' {S : Nat → Prop} {w : World} : ∀ {F : CF} {xs : List Value}, RepF S w F xs → ∀ u ∈ xs, u.oneCell' = true
  | .nil, xs, h, u, hu => by rw [show xs = [] from h] at hu; cases hu
  | .cons .., _, h, u, hu => by
    obtain ⟨A, m, c, ys, zs, rfl, _, h4⟩ := h
    rcases List.mem_cons.1 hu with rfl | hu
    · rfl
    rcases List.mem_cons.1 hu with rfl | hu
    · rfl
    rcases List.mem_cons.1 hu with rfl | hu
    · rfl
    rcases List.mem_cons.1 hu with rfl | hu
    · rfl
    exact RepF.one' h4 u hu
/-- The list that normal makes. -/
structure NSt (S : Nat → Prop) (w0 wr : World) (L : List CT) (A : Option Addr) (n c : Nat) : Prop where
  len : n = L.length
  base : w0.heap.size ≤ wr.heap.size
  row : ∃ xs, wr.ownsRow w0.heap.size 24 4 (.slice A n c) n xs ∧ RepF (fun k => S k ∨ (Value.slice A n c).ownBlock = some k) wr (CF.ofL L) xs
section
variable {S : Nat → Prop} {w0 wr W w1 : World} {L : List CT} {A A2 : Option Addr} {n c m cc : Nat}
theorem NSt.zero : NSt S w0 w0 [] none 0 0 := ⟨rfl, Nat.le_refl _, [], World.ownsRow_nil _ _ _ _, rfl⟩
theorem NSt.below (h : NSt S w0 wr L A n c) (hb : Below wr.heap.size wr W) : NSt S w0 W L A n c := by
  obtain ⟨xs, h1, h2⟩ := h.row
  exact ⟨h.len, Nat.le_trans h.base hb.size, xs, own_below_all h1 hb, h2.only (Only.of_below (S := fun _ => False) hb) (fun _ h => h.elim)⟩
theorem NSt.push (h : NSt S w0 W L A n c) {M : List CT} {xs news : List Value} (h2 : RepF (fun k => S k ∨ (Value.slice A n c).ownBlock = some k) W (CF.ofL L) xs)
    (hn : RepF (fun k => S k ∨ (Value.slice A n c).ownBlock = some k) W (CF.ofL M) news) (hm : m = n + M.length)
    (hg : W.grownBy w1 (Value.slice A n c).ownBlock) (hown : w1.ownsRow w0.heap.size 24 4 (.slice A2 m cc) m (xs ++ news))
    (hap : ∀ k, (Value.slice A2 m cc).ownBlock = some k → (Value.slice A n c).ownBlock = some k ∨ W.heap.size ≤ k) : NSt S w0 w1 (L ++ M) A2 m cc := by
  have ho : Only (fun k => (Value.slice A n c).ownBlock = some k) W w1 := Only.of_grown hg (fun k hk => hk)
  refine ⟨by rw [List.length_append, hm, h.len], Nat.le_trans h.base ho.size, xs ++ news, hown, ?_⟩
  rw [ofL_app]
  have hrep := RepF.app h2 hn
  have hr2 := (hrep.new).only ho (fun k hk => .inl (.inr hk))
  refine hr2.sub fun k hk => ?_
  rcases hk with hk | hk
  · exact .inl (.inl hk)
  · rcases hap k hk with e | e
    · exact .inl (.inr e)
    · exact .inr e
/-- The list as a row of conditions. -/
theorem NSt.rep (h : NSt S w0 wr L A n c) (hS : ∀ k, S k → k < w0.heap.size) : RepH S wr (CF.ofL L) A n c := by
  obtain ⟨xs, h1, h2⟩ := h.row
  refine ⟨xs, own_rd h1, fun hn p hp hs => ?_, h2.sub fun k hk => .inl hk⟩
  have hr := own_rd h1
  obtain ⟨b, off, e, hb, _⟩ := hr.cells hn
  have h3 := h1.lt
  rcases h1.2 with ⟨e1, _⟩ | ⟨g', cap', cur, e1, hbg, _⟩
  · injection e1 with e1 e2
    omega
  · injection e1 with e1
    rw [e1] at hp
    injection hp with hp
    have := hS _ hs
    rw [← hp] at this
    simp only at this
    omega
end
end Go.Proofs.YticpjdjdimpglaaGreatDoor
/- Plain laws: flat as a fold over a list of steps, and how long its answers are. No program. -/
namespace Go.Proofs.YticpjdjdimpglaaGreatDoor
set_option linter.unusedVariables false
set_option linter.unusedSimpArgs false
def SF.ofL : List ST → SF
  | [] => .nil
  | x :: r => SF.one x.k x.b x.c x.th x.el (SF.ofL r)
theorem sofL_toL : ∀ F : SF, SF.ofL F.toL = F
  | .nil => rfl
  | .cons k b ck cv cn cps th el r => by rw [SF.toL, SF.ofL, sofL_toL r]; rfl
theorem stoL_ofL : ∀ l : List ST, (SF.ofL l).toL = l
  | [] => rfl
  | x :: r => by rw [SF.ofL, SF.one, SF.toL, stoL_ofL r]
theorem appF_nil : ∀ x : SF, x.appF .nil = x
  | .nil => rfl
  | .cons k b ck cv cn cps th el r => by rw [SF.appF, appF_nil r]
theorem appF_assoc : ∀ x y z : SF, (x.appF y).appF z = x.appF (y.appF z)
  | .nil, _, _ => rfl
  | .cons k b ck cv cn cps th el r, y, z => by rw [SF.appF, SF.appF, SF.appF, appF_assoc r]
theorem appF_len : ∀ x y : SF, (x.appF y).len = x.len + y.len
  | .nil, y => by rw [SF.appF, SF.len, Nat.zero_add]
  | .cons k b ck cv cn cps th el r, y => by rw [SF.appF, SF.len, SF.len, appF_len r]; omega
theorem appF_app : ∀ x y : SF, x.appF y = x.app y
  | .nil, y => rfl
  | .cons k b ck cv cn cps th el r, y => by rw [SF.appF, SF.app, appF_app r]
def ST.one (x : ST) : SF := SF.one x.k x.b x.c x.th x.el .nil
/-- One step: the criteria known behind it, and what is put to the answer. -/
def stepF (kn : List Int) (x : ST) : Except Int (List Int × SF) :=
  if x.k = 1 then (if kn.contains x.b then .ok (kn, .nil) else .ok (x.b :: kn, x.one))
  else
    if (tidy x.c).2 ≠ 0 then .error (tidy x.c).2 else
    match flat kn x.th, flat kn x.el with
    | .error e, _ => .error e
    | _, .error e => .error e
    | .ok t, .ok f =>
      if t = f then .ok (t.byL ++ kn, t)
      else if t.num = 0 then (if (tidy (cnot (tidy x.c).1)).2 ≠ 0 then .error (tidy (cnot (tidy x.c).1)).2 else .ok (kn, SF.one 2 0 (tidy (cnot (tidy x.c).1)).1 f .nil .nil))
      else .ok (kn, SF.one 2 0 (tidy x.c).1 t f .nil)
section
variable {kn : List Int} {x : ST} {e : Int} {t f : SF}
theorem stepF_by (hk : x.k = 1) (hc : kn.contains x.b = true) : stepF kn x = .ok (kn, .nil) := by unfold stepF; rw [if_pos hk, if_pos hc]
theorem stepF_new (hk : x.k = 1) (hc : kn.contains x.b = false) : stepF kn x = .ok (x.b :: kn, x.one) := by unfold stepF; rw [if_pos hk, if_neg (by rw [hc]; decide)]
theorem stepF_e1 (hk : x.k ≠ 1) (hz : (tidy x.c).2 ≠ 0) : stepF kn x = .error (tidy x.c).2 := by unfold stepF; rw [if_neg hk, if_pos hz]
theorem stepF_e2 (hk : x.k ≠ 1) (hz : (tidy x.c).2 = 0) (h : flat kn x.th = .error e) : stepF kn x = .error e := by unfold stepF; rw [if_neg hk, if_neg (Classical.not_not.2 hz), h]
theorem stepF_e3 (hk : x.k ≠ 1) (hz : (tidy x.c).2 = 0) (h : flat kn x.th = .ok t) (h2 : flat kn x.el = .error e) : stepF kn x = .error e := by unfold stepF; rw [if_neg hk, if_neg (Classical.not_not.2 hz), h, h2]
theorem stepF_same (hk : x.k ≠ 1) (hz : (tidy x.c).2 = 0) (h : flat kn x.th = .ok t) (h2 : flat kn x.el = .ok t) : stepF kn x = .ok (t.byL ++ kn, t) := by unfold stepF; rw [if_neg hk, if_neg (Classical.not_not.2 hz), h, h2]; exact if_pos rfl
theorem stepF_e4 (hk : x.k ≠ 1) (hz : (tidy x.c).2 = 0) (h : flat kn x.th = .ok t) (h2 : flat kn x.el = .ok f) (hne : t ≠ f) (h0 : t.num = 0) (hz2 : (tidy (cnot (tidy x.c).1)).2 ≠ 0) : stepF kn x = .error (tidy (cnot (tidy x.c).1)).2 := by
  unfold stepF; rw [if_neg hk, if_neg (Classical.not_not.2 hz), h, h2]
  exact (if_neg hne).trans ((if_pos h0).trans (if_pos hz2))
theorem stepF_not (hk : x.k ≠ 1) (hz : (tidy x.c).2 = 0) (h : flat kn x.th = .ok t) (h2 : flat kn x.el = .ok f) (hne : t ≠ f) (h0 : t.num = 0) (hz2 : (tidy (cnot (tidy x.c).1)).2 = 0) : stepF kn x = .ok (kn, SF.one 2 0 (tidy (cnot (tidy x.c).1)).1 f .nil .nil) := by
  unfold stepF; rw [if_neg hk, if_neg (Classical.not_not.2 hz), h, h2]
  exact (if_neg hne).trans ((if_pos h0).trans (if_neg (Classical.not_not.2 hz2)))
theorem stepF_if (hk : x.k ≠ 1) (hz : (tidy x.c).2 = 0) (h : flat kn x.th = .ok t) (h2 : flat kn x.el = .ok f) (hne : t ≠ f) (h0 : t.num ≠ 0) : stepF kn x = .ok (kn, SF.one 2 0 (tidy x.c).1 t f .nil) := by
  unfold stepF; rw [if_neg hk, if_neg (Classical.not_not.2 hz), h, h2]
  exact (if_neg hne).trans (if_neg h0)
end
def goF (kn : List Int) (x : ST) (R : SF) : Except Int SF := match stepF kn x with
  | .error e => .error e
  | .ok (kn', p) => (flat kn' R).map (p.appF ·)
theorem map_id' {ε α : Type} (x : Except ε α) : x.map (fun y => y) = x := by cases x <;> rfl
theorem map_map' {α β γ : Type} {ε : Type} (x : Except ε α) (f : α → β) (g : β → γ) : (x.map f).map g = x.map fun y => g (f y) := by cases x <;> rfl
theorem flat_go (kn : List Int) (x : ST) (R : SF) : flat kn (SF.one x.k x.b x.c x.th x.el R) = goF kn x R := by
  obtain ⟨k, b, ⟨ck, cv, cn, cps⟩, th, el⟩ := x
  unfold SF.one goF stepF
  rw [flat]
  by_cases hk : k = 1
  · simp only [hk, if_true]
    by_cases hc : kn.contains b = true
    · simp only [hc, if_true]
      exact (map_id' _).symm
    · simp only [hc]
      rfl
  · simp only [hk, if_false]
    by_cases hz : (tidy ⟨ck, cv, cn, cps⟩).2 = 0
    · simp only [hz, ne_eq, not_true_eq_false, if_false]
      cases ht : flat kn th with
      | error e => rfl
      | ok t =>
        cases he : flat kn el with
        | error e => rfl
        | ok f =>
          simp only
          by_cases htf : t = f
          · rw [if_pos htf, if_pos htf]
          · rw [if_neg htf, if_neg htf]
            by_cases h0 : t.num = 0
            · rw [if_pos h0, if_pos h0]
              by_cases hd : (tidy (cnot (tidy ⟨ck, cv, cn, cps⟩).1)).2 = 0
              · simp only [hd, ne_eq, not_true_eq_false, if_false]
                rfl
              · simp only [hd, ne_eq, not_false_eq_true, if_true]
            · rw [if_neg h0, if_neg h0]
              rfl
    · simp only [hz, ne_eq, not_false_eq_true, if_true]
theorem flat_slen : ∀ (l : SF) (kn : List Int) (m : SF), flat kn l = .ok m → m.len ≤ l.sz
  | .nil, kn, m, h => by
    rw [flat] at h
    injection h with h
    subst h
    exact Nat.le_refl _
  | .cons k b ck cv cn cps th el r, kn, m, h => by
    rw [SF.sz]
    rcases flat_cases h with ⟨h1, h2, h3⟩ | ⟨h1, h2, m', h3, rfl⟩ | ⟨h1, t, f, h2, h3, h4, h5⟩
    · have := flat_slen r kn m h3; omega
    · have := flat_slen r _ m' h3
      rw [SF.len]; omega
    · have i1 := flat_slen th kn t h3
      rcases h5 with ⟨h5, m', h6, rfl⟩ | ⟨h5, rfl, hd, m', h6, rfl⟩ | ⟨h5, h7, m', h6, rfl⟩
      · have := flat_slen r _ m' h6
        rw [appF_len]; omega
      · have := flat_slen r _ m' h6
        rw [SF.one, SF.len]; omega
      · have := flat_slen r _ m' h6
        rw [SF.one, SF.len]; omega
/-- The state of the loop: G has been answered, kn is known, L is still to come. -/
def FlatAt (kn0 : List Int) (F : SF) (kn : List Int) (G : SF) (L : List ST) : Prop := flat kn0 F = (flat kn (SF.ofL L)).map (G.appF ·)
theorem FlatAt.start (kn : List Int) (F : SF) : FlatAt kn F kn .nil F.toL := by
  unfold FlatAt
  rw [sofL_toL]
  exact (map_id' _).symm
theorem FlatAt.end_ {kn0 kn : List Int} {F G : SF} (h : FlatAt kn0 F kn G []) : flat kn0 F = .ok G := by
  unfold FlatAt at h
  rw [h, SF.ofL, flat]
  exact congrArg Except.ok (appF_nil G)
theorem FlatAt.step {kn0 kn kn' : List Int} {F G p : SF} {x : ST} {L : List ST} (h : FlatAt kn0 F kn G (x :: L)) (hs : stepF kn x = .ok (kn', p)) : FlatAt kn0 F kn' (G.appF p) L := by
  unfold FlatAt at h ⊢
  rw [h, SF.ofL, flat_go, goF, hs]
  simp only
  rw [map_map']
  exact congrArg (fun f => Except.map f _) (funext fun y => (appF_assoc G p y).symm)
theorem FlatAt.stop {kn0 kn : List Int} {F G : SF} {x : ST} {L : List ST} {e : Int} (h : FlatAt kn0 F kn G (x :: L)) (hs : stepF kn x = .error e) : flat kn0 F = .error e := by
  unfold FlatAt at h
  rw [h, SF.ofL, flat_go, goF, hs]
  rfl
theorem byL_mem : ∀ (t : SF) (x : Int), x ∈ t.byL ↔ ∃ s ∈ t.toL, s.k = 1 ∧ s.b = x
  | .nil, x => by simp [SF.byL, SF.toL]
  | .cons k b ck cv cn cps th el r, x => by
    rw [SF.byL, SF.toL]
    by_cases hk : k = 1
    · rw [if_pos hk]
      simp only [List.mem_cons, exists_eq_or_imp, byL_mem r x, hk, true_and]
      exact ⟨fun h => h.imp (fun h => h.symm) id, fun h => h.imp (fun h => h.symm) id⟩
    · rw [if_neg hk]
      simp only [List.mem_cons, exists_eq_or_imp, byL_mem r x, hk, false_and, false_or]
theorem byL_take {t : SF} {j : Nat} {q : ST} (hq : t.toL[j]? = some q) (y : Int) : y ∈ (SF.ofL (t.toL.take (j + 1))).byL ↔ y ∈ (SF.ofL (t.toL.take j)).byL ∨ (q.k = 1 ∧ q.b = y) := by
  rw [byL_mem, byL_mem, stoL_ofL, stoL_ofL, List.take_add_one, hq]
  simp only [Option.toList_some, List.mem_append, List.mem_singleton]
  constructor
  · rintro ⟨s, hs | rfl, h⟩
    · exact .inl ⟨s, hs, h⟩
    · exact .inr h
  · rintro (⟨s, hs, h⟩ | h)
    · exact ⟨s, .inl hs, h⟩
    · exact ⟨q, .inr rfl, h⟩
/-- What a valid step is. -/
def OkS (x : ST) : Prop := (x.k = 1 ∧ 1 ≤ x.b ∧ x.b ≤ 12) ∨ (x.k = 2 ∧ okC x.c = true ∧ x.th.okB = true ∧ x.el.okB = true)
theorem okS_of : ∀ {F : SF} {x : ST}, F.okB = true → x ∈ F.toL → OkS x
  | .nil, _, _, h => by cases h
  | .cons k b ck cv cn cps th el r, x, hok, h => by
    obtain ⟨hc, hr⟩ := okS_cons hok
    rw [SF.toL] at h
    rcases List.mem_cons.1 h with rfl | h
    · rcases hc with hc | hc
      · exact .inl ⟨hc.1, hc.2.1, hc.2.2.1⟩
      · exact .inr ⟨hc.1, hc.2.2.1, hc.2.2.2.2.1, hc.2.2.2.2.2⟩
    · exact okS_of hr h
def szL (L : List ST) : Nat := (SF.ofL L).sz
theorem szL_cons (x : ST) (L : List ST) : szL (x :: L) = x.c.ps.cnt + 2 + x.th.sz + x.el.sz + szL L := rfl
theorem szL_toL (F : SF) : szL F.toL = F.sz := by unfold szL; rw [sofL_toL]
theorem drop_mem {F : SF} {i : Nat} {x : ST} (hx : F.toL[i]? = some x) : F.toL.drop i = x :: F.toL.drop (i + 1) ∧ x ∈ F.toL := by
  obtain ⟨a1, a2⟩ := List.getElem?_eq_some_iff.1 hx
  exact ⟨by rw [List.drop_eq_getElem_cons a1, a2], by rw [← a2]; exact List.getElem_mem a1⟩
theorem flat_err : ∀ (l : SF) (kn : List Int) (e : Int), flat kn l = .error e → e ≠ 0
  | .nil, kn, e, h => by rw [flat] at h; cases h
  | .cons k b ck cv cn cps th el r, kn, e, h => by
    have hm : ∀ {x : Except Int SF} {f : SF → SF}, x.map f = .error e → x = .error e := fun {x f} h => by
      cases x with
      | error y => exact h
      | ok y => cases h
    rw [flat] at h
    by_cases hk : k = 1
    · rw [if_pos hk] at h
      split at h
      · exact flat_err r _ e h
      · exact flat_err r _ e (hm h)
    · rw [if_neg hk] at h
      simp only at h
      split at h
      · next h0 => injection h with h; rw [← h]; exact h0
      · split at h
        · next e2 h2 => injection h with h; subst h; exact flat_err th kn _ h2
        · next e2 h2 h3 => injection h with h; subst h; exact flat_err el kn _ h2
        · split at h
          · exact flat_err r _ e (hm h)
          · split at h
            · split at h
              · next h0 => injection h with h; rw [← h]; exact h0
              · exact flat_err r _ e (hm h)
            · exact flat_err r _ e (hm h)
end Go.Proofs.YticpjdjdimpglaaGreatDoor
/- typing.conds, typing.steps, the parts of forms, isZero: by their contracts. -/
namespace Go.Proofs.YticpjdjdimpglaaGreatDoor
set_option linter.unusedVariables false
set_option linter.unusedSimpArgs false
open Go.RowKit
/-- A new row of forms. -/
def FoNew (S : Nat → Prop) (w0 w : World) (fs : List Fo) (e : Ending) (w' : World) : Prop := ∃ A m d xs, e = .returned (.slice A m d) ∧ w'.ownsRow w.heap.size 151 1 (.slice A m d) m xs ∧ FoR S w0 fs xs ∧ Below w.heap.size w w'
theorem take_map {α β : Type} (f : α → β) {l : List α} {i : Nat} {x : α} (h : l[i]? = some x) : (l.take (i + 1)).map f = (l.take i).map f ++ [f x] := by
  obtain ⟨hi, e⟩ := List.getElem?_eq_some_iff.1 h
  rw [List.take_succ_eq_append_getElem hi, List.map_append, e]
  rfl
set_option maxHeartbeats 4000000 in
set_option maxRecDepth 100000 in
theorem conds_any {S : Nat → Prop} {w0 w : World} {F : CF} {A : Option Addr} {m c : Nat} (h : RepH S w0 F A m c) (hb0 : Below w0.heap.size w0 w) (hm : m ≤ 1000000) : Calls Tryz.prog 227 #[.slice A m c] w (FoNew S w0 w (F.toL.map .cd)) := by
  have HR := Lib.hid h
  have hB0 := Lib.hid hb0
  have hlen := Lib.hid h.len
  have HL := Lib.hid (toL_len F)
  clear h hb0
  go_enter Tryz.func227, Tryz.ntmps227
  go_wp2_with (fail)
  go_loopw [2, 7] (fun o s wr => ∃ (i : Nat) (A' : Option Addr) (c' : Nat) (xs : List Value), i ≤ m ∧ s = .int .i64 i ∧ o = .slice A' i c' ∧ Hid (wr.ownsRow w.heap.size 151 1 (.slice A' i c') i xs) ∧ Hid (FoR S w0 ((F.toL.take i).map .cd) xs) ∧ Hid (Below w.heap.size w wr)) (fun _ s _ => m - (intOf s).toNat)
  case atStart => exact ⟨0, none, 0, [], Nat.zero_le _, rfl, rfl, World.ownsRow_nil _ _ _ _, rfl, Below.refl _ _⟩
  case round =>
    obtain ⟨i, A', c', xs, him, rfl, rfl, HO, HF, HB⟩ := hrel
    by_cases hlt : i < m
    · obtain ⟨b, off, x, B, d, e, rfl, hb, hS, hx, h0, h1, h2, h3, hr⟩ := HR.out.elem hlt
      have hb1 := Nat.lt_of_lt_of_le hb hB0.out.size
      rw [← (hB0.out.trans (HB.out.mono hB0.out.size)).cell hb] at h0 h1 h2 h3
      have HX := Lib.hid hx
      have HRx := Lib.hid hr
      clear hx hr
      go_wp2_with (at_builtin; refine Hid.out ?_)
      refine Lib.hid ?_
      first | (refine calls_named ?_; intro W hW) | (refine body_named ?_; intro W hW) | (refine wpList_named ?_; intro W hW) | (refine wp_named ?_; intro W hW)
      have hb2 : Below wr.heap.size wr W := by rw [← hW]; exact ((Below.refl _ _).alloc (Nat.le_refl _) _).alloc (by simp) _
      have hnew : ∀ j u, [Value.iface 104 (cV x B d e)][j]? = some u → W.cell? ⟨wr.heap.size + 1, j, none⟩ = some u := by
        rw [← hW, ← World.size_alloc wr]; exact new_cells _ _ _
      have hsz := HB.out.size
      clear hW
      refine wpList_push elemForm rfl (.tmp 11) (.tmp 15) rfl w.heap.size A' i c' xs rfl (own_below_all HO.out hb2) (wr.heap.size + 1) rfl [_] rfl hnew (by simp [Value.oneCell']) (by omega) (by omega) (Nat.le_trans hsz hb2.size) ?_
      intro A2 c2 w2 hO2 hB2 hG2
      have HO2 := Lib.hid hO2
      have HF2 := Lib.hid (show FoR S w0 ((F.toL.take (i + 1)).map .cd) (xs ++ [Value.iface 104 (cV x B d e)]) by
        rw [take_map Fo.cd HX.out]
        exact HF.out.app (FoR.one ⟨B, d, e, rfl, HRx.out⟩))
      have HB2 := Lib.hid (HB.out.trans ((hb2.mono hsz).trans hB2))
      clear hO2 hB2 hG2 hb2 hnew h0 h1 h2 h3
      go_wp2
      go_roundw
      case rel => exact ⟨i + 1, A2, c2, _, by omega, by go_num, rfl, HO2.out, HF2.out, HB2.out⟩
      case measure => simp [intOf]; omega
    · have hi : i = m := by omega
      have HR2 := Lib.hid (show FoNew S w0 w (F.toL.map .cd) (.returned (.slice A' i c')) wr by
        have h1 := HF.out
        rw [List.take_of_length_le (by rw [HL.out, ← hlen.out]; omega)] at h1
        exact ⟨A', i, c', xs, rfl, HO.out, h1, HB.out⟩)
      clear hi
      go_wp2
      go_ret
      exact HR2.out
set_option maxHeartbeats 4000000 in
set_option maxRecDepth 100000 in
theorem steps_any {S : Nat → Prop} {w0 w : World} {F : SF} {A : Option Addr} {m c : Nat} (h : RepT S w0 F A m c) (hb0 : Below w0.heap.size w0 w) (hm : m ≤ 1000000) : Calls Tryz.prog 73 #[.slice A m c] w (FoNew S w0 w (F.toL.map .st)) := by
  have HR := Lib.hid h
  have hB0 := Lib.hid hb0
  have hlen := Lib.hid h.len
  have HL := Lib.hid (stoL_len F)
  clear h hb0
  go_enter Tryz.func73, Tryz.ntmps73
  go_wp2_with (fail)
  go_loopw [2, 7] (fun o s wr => ∃ (i : Nat) (A' : Option Addr) (c' : Nat) (xs : List Value), i ≤ m ∧ s = .int .i64 i ∧ o = .slice A' i c' ∧ Hid (wr.ownsRow w.heap.size 151 1 (.slice A' i c') i xs) ∧ Hid (FoR S w0 ((F.toL.take i).map .st) xs) ∧ Hid (Below w.heap.size w wr)) (fun _ s _ => m - (intOf s).toNat)
  case atStart => exact ⟨0, none, 0, [], Nat.zero_le _, rfl, rfl, World.ownsRow_nil _ _ _ _, rfl, Below.refl _ _⟩
  case round =>
    obtain ⟨i, A', c', xs, him, rfl, rfl, HO, HF, HB⟩ := hrel
    by_cases hlt : i < m
    · obtain ⟨b, off, x, B, d, e, B1, d1, e1, B2, d2, e2, rfl, hb, hS, hx, ⟨h0, h1, h2, h3, h4, h5, h6, h7⟩, hr, hr1, hr2⟩ := HR.out.elem hlt
      have hb1 := Nat.lt_of_lt_of_le hb hB0.out.size
      rw [← (hB0.out.trans (HB.out.mono hB0.out.size)).cell hb] at h0 h1 h2 h3 h4 h5 h6 h7
      have HX := Lib.hid hx
      have HRx := Lib.hid hr
      have HRx1 := Lib.hid hr1
      have HRx2 := Lib.hid hr2
      clear hx hr hr1 hr2
      go_wp2_with (at_builtin; refine Hid.out ?_)
      refine Lib.hid ?_
      first | (refine calls_named ?_; intro W hW) | (refine body_named ?_; intro W hW) | (refine wpList_named ?_; intro W hW) | (refine wp_named ?_; intro W hW)
      have hb2 : Below wr.heap.size wr W := by rw [← hW]; exact ((Below.refl _ _).alloc (Nat.le_refl _) _).alloc (by simp) _
      have hnew : ∀ j u, [Value.iface 159 (stV x B d e B1 d1 e1 B2 d2 e2)][j]? = some u → W.cell? ⟨wr.heap.size + 1, j, none⟩ = some u := by
        rw [← hW, ← World.size_alloc wr]; exact new_cells _ _ _
      have hsz := HB.out.size
      clear hW
      refine wpList_push elemForm rfl (.tmp 11) (.tmp 15) rfl w.heap.size A' i c' xs rfl (own_below_all HO.out hb2) (wr.heap.size + 1) rfl [_] rfl hnew (by simp [Value.oneCell']) (by omega) (by omega) (Nat.le_trans hsz hb2.size) ?_
      intro A2 c2 w2 hO2 hB2 hG2
      have HO2 := Lib.hid hO2
      have HF2 := Lib.hid (show FoR S w0 ((F.toL.take (i + 1)).map .st) (xs ++ [Value.iface 159 (stV x B d e B1 d1 e1 B2 d2 e2)]) by
        rw [take_map Fo.st HX.out]
        exact HF.out.app (FoR.one ⟨B, d, e, B1, d1, e1, B2, d2, e2, rfl, HRx.out, HRx1.out, HRx2.out⟩))
      have HB2 := Lib.hid (HB.out.trans ((hb2.mono hsz).trans hB2))
      clear hO2 hB2 hG2 hb2 hnew h0 h1 h2 h3 h4 h5 h6 h7
      go_wp2
      go_roundw
      case rel => exact ⟨i + 1, A2, c2, _, by omega, by go_num, rfl, HO2.out, HF2.out, HB2.out⟩
      case measure => simp [intOf]; omega
    · have hi : i = m := by omega
      have HR2 := Lib.hid (show FoNew S w0 w (F.toL.map .st) (.returned (.slice A' i c')) wr by
        have h1 := HF.out
        rw [List.take_of_length_le (by rw [HL.out, ← hlen.out]; omega)] at h1
        exact ⟨A', i, c', xs, rfl, HO.out, h1, HB.out⟩)
      clear hi
      go_wp2
      go_ret
      exact HR2.out
theorem FoR.size {S : Nat → Prop} {w w' : World} {fs : List Fo} {xs : List Value} {B n : Nat} {v : Value} (h : FoR S w fs xs) (ho : w'.ownsRow B 151 1 v n xs) (hf : fs.length ≤ 1000000) : n ≤ 1000000 := by
  have h1 := ho.1
  have h2 := h.len
  omega
theorem FoR.oneCell {S : Nat → Prop} {w : World} : ∀ {fs : List Fo} {xs : List Value}, FoR S w fs xs → ∀ u ∈ xs, u.oneCell' = true
  | [], _, h => by rw [show _ = [] from h]; simp
  | f :: _, _, h => by
    obtain ⟨v, zs, rfl, h1, h2⟩ := h
    intro u hu
    rcases List.mem_cons.1 hu with rfl | hu
    · cases f with
      | cd c => obtain ⟨A, m, d, rfl, _⟩ := h1; rfl
      | st x => obtain ⟨A, m, d, A1, m1, d1, A2, m2, d2, rfl, _⟩ := h1; rfl
    · exact FoR.oneCell h2 u hu
/-- Two rows of the call's own, the one to be put behind the other. -/
structure Two (B : Nat) (w : World) (A3 : Option Addr) (m3 d3 : Nat) (xs3 : List Value) (A4 : Option Addr) (m4 d4 : Nat) (xs4 : List Value) : Prop where
  o3 : w.ownsRow B 151 1 (.slice A3 m3 d3) m3 xs3
  r4 : Rd w w.heap.size 1 A4 m4 d4 xs4
  c4 : ∀ u ∈ xs4, u.oneCell' = true
  h3 : m3 ≤ 1000000
  h4 : m4 ≤ 1000000
  base : B ≤ w.heap.size
theorem step_two {B : Nat} {w : World} {A3 A4 : Option Addr} {m3 d3 m4 d4 : Nat} {xs3 xs4 : List Value} (H : Two B w A3 m3 d3 xs3 A4 m4 d4 xs4) {ops : Array Oper} {o : Oper} {a : Act} {Q : Exit → Act → World → Prop} {K : Act → World → Prop} {F : Prop} (hgd : o.guard = none) (s x : Operand)
    (ho : o.op = .call { callee := .builtin .append, args := #[s, x], argTypes := #[105, 105] }) (hs : a.eval s = .slice A3 m3 d3) (hx : a.eval x = .slice A4 m4 d4)
    (h : ∀ A' c' w', w'.ownsRow B 151 1 (.slice A' (m3 + m4) c') (m3 + m4) (xs3 ++ xs4) → Below B w w' → K (a.put o.dst (.slice A' (m3 + m4) c')) w') :
    if Region.wanted o (yielded ops a.tmps) = true then Oper.wp Tryz.prog o a w K Q else F :=
  step_app elemForm hgd s x ho B A3 m3 d3 xs3 hs H.o3 w.heap.size A4 m4 d4 hx xs4 H.r4 H.c4 (by have := H.h3; have := H.h4; omega) (by have := H.h3; have := H.h4; omega) H.base fun A' c' w' h1 h2 _ => h A' c' w' h1 h2
theorem own_base {w : World} {B B' : Nat} {e : TypeId} {size n : Nat} {v : Value} {xs : List Value} (h : w.ownsRow B e size v n xs) (hB : B' ≤ B) : w.ownsRow B' e size v n xs := by
  refine ⟨h.1, ?_⟩
  rcases h.2 with h1 | ⟨g, cap, cur, rfl, hg, rest⟩
  · exact .inl h1
  · exact .inr ⟨g, cap, cur, rfl, by omega, rest⟩
theorem FoNew.from_ {S : Nat → Prop} {w0 w w1 w' : World} {fs : List Fo} {e : Ending} (h : FoNew S w0 w1 fs e w') (hb : Below w.heap.size w w1) : FoNew S w0 w fs e w' := by
  obtain ⟨A, m, d, xs, he, h1, h2, h3⟩ := h
  exact ⟨A, m, d, xs, he, own_base h1 hb.size, h2, hb.trans (h3.mono hb.size)⟩
set_option maxHeartbeats 4000000 in
set_option maxRecDepth 100000 in
theorem cparts_any {S : Nat → Prop} {w0 w : World} {x : CT} {A : Option Addr} {m d : Nat} (h : RepH S w0 x.ps A m d) (hb0 : Below w0.heap.size w0 w) (hm : m ≤ 1000000) : Calls Tryz.prog 200 #[cV x A m d] w (FoNew S w0 w (Fo.cd x).parts) := by
  have HR := Lib.hid h
  have hB0 := Lib.hid hb0
  clear h hb0
  unfold cV
  go_enter Tryz.func200, Tryz.ntmps200
  go_wp2_with (fail)
  first | (refine calls_named ?_; intro W hW) | (refine body_named ?_; intro W hW) | (refine wpList_named ?_; intro W hW) | (refine wp_named ?_; intro W hW)
  have hb : Below w.heap.size w W := by rw [← hW]; exact (Below.refl _ _).alloc (Nat.le_refl _) _
  clear hW
  refine (conds_any HR.out (hB0.out.trans (hb.mono hB0.out.size)) hm).mono ?_
  intro e w' hp
  obtain ⟨A', m', d', xs, rfl, hr⟩ := hp.from_ hb
  have H := Lib.hid hr
  clear hr hp
  go_wp2
  go_ret
  exact ⟨A', m', d', xs, rfl, H.out⟩
set_option maxHeartbeats 4000000 in
set_option maxRecDepth 100000 in
theorem sparts_any {S : Nat → Prop} {w0 w : World} {x : ST} {A A1 A2 : Option Addr} {m d m1 d1 m2 d2 : Nat} (h1 : RepT S w0 x.th A1 m1 d1) (h2 : RepT S w0 x.el A2 m2 d2) (hb0 : Below w0.heap.size w0 w) (hm1 : m1 ≤ 1000000) (hm2 : m2 ≤ 1000000) : Calls Tryz.prog 201 #[stV x A m d A1 m1 d1 A2 m2 d2] w (FoNew S w0 w (Fo.st x).parts) := by
  have HT1 := Lib.hid h1
  have HT2 := Lib.hid h2
  have hB0 := Lib.hid hb0
  clear h1 h2 hb0
  unfold stV
  go_enter Tryz.func201, Tryz.ntmps201
  go_wp2_with (fail)
  first | (refine calls_named ?_; intro W hW) | (refine body_named ?_; intro W hW) | (refine wpList_named ?_; intro W hW) | (refine wp_named ?_; intro W hW)
  have hb : Below w.heap.size w W := by rw [← hW]; exact (Below.refl _ _).alloc (Nat.le_refl _) _
  have hx : Blk W w.heap.size 159 #[vi x.k, vi x.b, vi x.c.k, vi x.c.v, vi x.c.n, .slice A m d, .slice A1 m1 d1, .slice A2 m2 d2] := by rw [← hW]; exact Blk.new w _ _
  clear hW
  have hlt := hx.lt
  have x6 : W.cell? ⟨w.heap.size, 6, none⟩ = some (.slice A1 m1 d1) := by rw [hx.cell]; rfl
  have x7 : W.cell? ⟨w.heap.size, 7, none⟩ = some (.slice A2 m2 d2) := by rw [hx.cell]; rfl
  have HB := Lib.hid hb
  have hB1 := Lib.hid (hB0.out.trans (hb.mono hB0.out.size))
  have hl1 : (x.th.toL.map Fo.st).length ≤ 1000000 := by rw [List.length_map, stoL_len, ← HT1.out.len]; exact hm1
  have hl2 : (x.el.toL.map Fo.st).length ≤ 1000000 := by rw [List.length_map, stoL_len, ← HT2.out.len]; exact hm2
  clear hx hb
  go_region_held3 (fun w' => w'.cell? ⟨w.heap.size, 6, none⟩ = some (.slice A1 m1 d1) ∧ w'.cell? ⟨w.heap.size, 7, none⟩ = some (.slice A2 m2 d2) ∧ Hid (Below W.heap.size W w'))
    (first
      | (exact ⟨x6, x7, Lib.hid ⟨rfl, rfl, rfl, Nat.le_refl _, fun _ _ => rfl⟩⟩)
      | (exact ⟨z6, z7, zb⟩))
    ((first
      | (go_at_call 73
         obtain ⟨y6, y7, yb⟩ := ‹_ ∧ _ ∧ Hid (Below W.heap.size W _)›
         first
           | ((with_reducible refine (steps_any HT1.out (hB1.out.trans (yb.out.mono hB1.out.size)) hm1).mono ?_)
              rintro e w1 ⟨A3, m3, d3, xs3, rfl, ho3, hf3, hb3⟩
              have HO3 := Lib.hid ho3
              have HF3 := Lib.hid hf3
              have HB3 := Lib.hid hb3
              have HM3 := Lib.hid (hf3.size ho3 hl1)
              have HC3 := Lib.hid hf3.oneCell
              have z6 := (hb3.cell (p := ⟨w.heap.size, 6, none⟩) (Nat.lt_of_lt_of_le hlt yb.out.size)).trans y6
              have z7 := (hb3.cell (p := ⟨w.heap.size, 7, none⟩) (Nat.lt_of_lt_of_le hlt yb.out.size)).trans y7
              have zb := Lib.hid (yb.out.trans (hb3.mono yb.out.size))
              first
                | (have HTW := Lib.hid (show Two W.heap.size w1 A3 m3 d3 xs3 A4 m4 d4 xs4 from ⟨own_base ho3 yb.out.size, own_rd (own_below_all HO4.out hb3), HC4.out, HM3.out, HM4.out, zb.out.size⟩))
                | skip
              clear ho3 hf3 hb3 y6 y7)
           | ((with_reducible refine (steps_any HT2.out (hB1.out.trans (yb.out.mono hB1.out.size)) hm2).mono ?_)
              rintro e w2 ⟨A4, m4, d4, xs4, rfl, ho4, hf4, hb4⟩
              have HO4 := Lib.hid ho4
              have HF4 := Lib.hid hf4
              have HB4 := Lib.hid hb4
              have HM4 := Lib.hid (hf4.size ho4 hl2)
              have HC4 := Lib.hid hf4.oneCell
              have z6 := (hb4.cell (p := ⟨w.heap.size, 6, none⟩) (Nat.lt_of_lt_of_le hlt yb.out.size)).trans y6
              have z7 := (hb4.cell (p := ⟨w.heap.size, 7, none⟩) (Nat.lt_of_lt_of_le hlt yb.out.size)).trans y7
              have zb := Lib.hid (yb.out.trans (hb4.mono yb.out.size))
              first
                | (have HTW := Lib.hid (show Two W.heap.size w2 A3 m3 d3 xs3 A4 m4 d4 xs4 from ⟨own_below_all HO3.out hb4, own_rd ho4, HC4.out, HM3.out, HM4.out, zb.out.size⟩))
                | skip
              clear ho4 hf4 hb4 y6 y7))
      | (refine step_two HTW.out rfl _ _ rfl rfl rfl ?_
         intro A5 d5 w5 ho5 hb5
         have HO5 := Lib.hid ho5
         have HB5 := Lib.hid hb5
         have z6 := (hb5.cell (p := ⟨w.heap.size, 6, none⟩) hlt).trans z6
         have z7 := (hb5.cell (p := ⟨w.heap.size, 7, none⟩) hlt).trans z7
         have zb := Lib.hid (zb.out.trans hb5)
         clear ho5 hb5)))
  all_goals
    have HE := Lib.hid (show FoNew S w0 w (Fo.st x).parts (.returned (.slice A5 (m3 + m4) d5)) w5 from by
      refine ⟨A5, m3 + m4, d5, _, rfl, own_base HO5.out HB.out.size, ?_, HB.out.trans (zb.out.mono HB.out.size)⟩
      show FoR S w0 ((x.th.toL ++ x.el.toL).map Fo.st) _
      rw [List.map_append]
      exact HF3.out.app HF4.out)
    go_wp2
    go_ret
    exact HE.out
theorem as_cc (v : Value) (W : World) : (Instr.typeAssert (.iface 104 v) 151 104 true).run Tryz.prog W = .ok (.tuple #[v, .bool true]) W := by
  simp [Instr.typeAssert, run_underlying Tryz.underlying104]
theorem as_ss (v : Value) (W : World) : (Instr.typeAssert (.iface 159 v) 151 159 true).run Tryz.prog W = .ok (.tuple #[v, .bool true]) W := by
  simp [Instr.typeAssert, run_underlying Tryz.underlying159]
theorem zeroTC (W : World) : (zeroValue 104).run Tryz.prog W = .ok (.agg #[.int .i64 0, .int .i64 0, .int .i64 0, .slice none 0 0]) W := by kernel_rfl
theorem as_sc (v : Value) (W : World) : (Instr.typeAssert (.iface 159 v) 151 104 true).run Tryz.prog W = .ok (.tuple #[.agg #[.int .i64 0, .int .i64 0, .int .i64 0, .slice none 0 0], .bool false]) W := by
  simp [Instr.typeAssert, run_underlying Tryz.underlying104, zeroTC]
end Go.Proofs.YticpjdjdimpglaaGreatDoor
