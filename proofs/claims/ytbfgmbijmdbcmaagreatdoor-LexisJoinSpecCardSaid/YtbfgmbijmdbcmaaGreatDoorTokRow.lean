/- The frame of a row over tokens: the wrap that hands on the sizes; a slice of tokens that came in reads. -/
import Derived.Test.YtbfgmbijmdbcmaaGreatDoorFrame
import Derived.Test.YtbfgmbijmdbcmaaGreatDoorRSame
import Derived.Deep.Slices
import Derived.Deep.Strs
namespace Go.Proofs.YtbfgmbijmdbcmaaGreatDoor
set_option linter.unusedVariables false
set_option linter.unusedSimpArgs false
open Go.ChangeShapes Go.WideShapes Go.ChangeAt Go.RowKit

theorem wrap_sized {H : Type} {enc : TypeId × Value → H} {a : Assume} {C : Checked} {os : Os} {f : FuncId} {fn : Func} {s : ChangeSpec} {conds : List PathCond} {apart fresh handsOn again : Bool} {X : World → Array Value → Prop}
    (hX : ∀ (w w' : World) (args : Array Value), w.heap = w'.heap → X w args → X w' args)
    (own : ownKnob C.prog.godebug = none) (started : os.Started) (noInit : C.prog.inits.idxOf? f = none) (hfn : C.prog.funcs[f]? = some fn)
    (witness : ∃ (w : World) (tape : Tape) (i : Input), w.os = os ∧ (w.forCall tape i).Shaped C.prog ∧ i.vars = [] ∧ Input.okWide C.prog (w.forCall tape i) .any w.heap.size f i ∧
      ((s.pre enc C.prog fn conds apart (w.forCall tape i).memory i.args ∧ X (w.forCall tape i).memory i.args) ∧ sizedMet enc C.prog fn (OpenSpec.ofChange s) apart (w.forCall tape i).memory i.args) ∧ a.holds C.prog (lone (Frame.enter C.prog f i.args .normal) [] (w.forCall tape i)))
    (hvars : s.vars = [])
    (contract : ∀ (W : World) (base : Nat) (args : Array Value) (ds gs : List (DataW H)) (before : List MemPlace),
      (∀ (j : Nat) t v, fn.params[j]? = some t → args[j]? = some v → Value.okWide C.prog W .any base t v) →
      DataW.Whole enc C.prog fn.params.toList s.vars apart W args.toList ds gs before →
      (DataW.weightsEach C.prog (fn.params.toList ++ (OpenSpec.ofChange s).bare.plain.varTypes C.prog) (ds ++ gs)).all (· ≤ reachBytes) = true →
      X W args → W.ShapedOpen C.prog →
      Calls C.prog f args W fun e W' => ∃ v, e = .returned v ∧ s.post enc C.prog fn apart fresh handsOn again W args v W') :
    ReturnsInHanded a C os f .any (fun w args => (s.pre enc C.prog fn conds apart w args ∧ X w args) ∧ sizedMet enc C.prog fn (OpenSpec.ofChange s) apart w args) (s.post enc C.prog fn apart fresh handsOn again) := by
  refine returnsInHanded_of_calls own started noInit witness ?_
  intro w tape i _ hsh _ hok hpre hholds
  obtain ⟨_, _, _, fn', hfn', _, _, _, _, hval⟩ := hok
  have e : fn' = fn := Option.some.inj (hfn'.symm.trans hfn)
  subst e
  obtain ⟨⟨_, hx⟩, _, ds, gs, before, hw, hz⟩ := hpre
  have hw' : DataW.Whole enc C.prog fn'.params.toList s.vars apart (w.forCall tape i) i.args.toList ds gs before := DataW.Whole.of_heap (w' := w.forCall tape i) (by rfl) hw
  refine (contract (w.forCall tape i) w.heap.size i.args ds gs before hval hw' hz (hX _ _ _ (by rfl) hx) hsh).mono fun e W' ⟨v, he, hp⟩ => ?_
  subst he
  exact ChangeSpec.post_blind hp

theorem weightsAll_mem {H : Type} {P : Program} {e : TypeId} {x : DataW H} : ∀ {l : List (DataW H)}, x ∈ l → (DataW.weightsAll P e l).all (· ≤ reachBytes) = true → (x.weights P e).all (· ≤ reachBytes) = true
  | a :: r, hx, h => by
    rw [DataW.weightsAll, List.all_append, Bool.and_eq_true] at h
    rcases List.mem_cons.1 hx with rfl | hx
    · exact h.1
    · exact weightsAll_mem hx h.2
theorem build_list {α : Type} {p : Nat → α → Prop} : ∀ (k : Nat), (∀ i, i < k → ∃ t, p i t) → ∃ T : List α, T.length = k ∧ ∀ i, i < k → ∃ t, T[i]? = some t ∧ p i t
  | 0, _ => ⟨[], rfl, fun i hi => by omega⟩
  | k + 1, h => by
    obtain ⟨T, hl, hT⟩ := build_list k (fun i hi => h i (by omega))
    obtain ⟨t, ht⟩ := h k (by omega)
    refine ⟨T ++ [t], by simp [hl], fun i hi => ?_⟩
    rcases Nat.lt_or_ge i k with h1 | h1
    · obtain ⟨u, hu, hp⟩ := hT i h1
      exact ⟨u, by rw [List.getElem?_append_left (by omega)]; exact hu, hp⟩
    · obtain rfl : i = k := by omega
      exact ⟨t, by rw [List.getElem?_append_right (by omega), hl]; simp, ht⟩
theorem flatMap_get {T : List Tok} {j : Nat} {u : Value} (h : (T.flatMap tokCells)[j]? = some u) : ∃ t, T[j / 3]? = some t ∧ (tokCells t)[j % 3]? = some u := by
  have hlt : j < (T.flatMap tokCells).length := by
    rcases Nat.lt_or_ge j (T.flatMap tokCells).length with h1 | h1
    · exact h1
    · rw [List.getElem?_eq_none h1] at h; cases h
  rw [flatMap_len tokCells 3 tok_len] at hlt
  have hk : j / 3 < T.length := by omega
  refine ⟨T[j / 3], List.getElem?_eq_getElem hk, ?_⟩
  have := flat_get tokCells 3 tok_len T (j / 3) (j % 3) hk (by omega)
  rw [show j / 3 * 3 + j % 3 = j from by omega] at this
  exact this.symm.trans h
theorem rd_toks_of_trod {H : Type} {enc : TypeId × Value → H} {P : Program} {W : World} {t e : TypeId} {f0 f1 f2 : Field} {a0 : Option Addr} {len cap : Nat} {d : DataW H} {p : List MemPlace} (hu : P.underlying t = some (.slice e)) (he : P.underlying e = some (.struct #[f0, f1, f2]))
    (ce : P.cellsOf e = 3) (o0 : f0.offset = 0) (o1 : f1.offset = 1) (o2 : f2.offset = 2) (c0 : P.cellsOf f0.type = 1) (c1 : P.cellsOf f1.type = 1) (c2 : P.cellsOf f2.type = 1)
    (u0 : P.underlying f0.type = some (.int .i64)) (u1 : P.underlying f1.type = some .string) (u2 : P.underlying f2.type = some (.int .i64))
    (h : DataW.Trod enc P W 0 (fun _ => true) true t (.slice a0 len cap) d p) (hz : (d.weights P t).all (· ≤ reachBytes) = true) :
    ∃ T : List Tok, Rd W W.heap.size 3 a0 len cap (T.flatMap tokCells) ∧ ∀ x ∈ T, x.text.length ≤ reachBytes := by
  obtain ⟨fuel, hf⟩ := h
  rcases Go.Deep.open_slice hu hf with ⟨hcs, _⟩ | ⟨a, l, c, m, n, D, Pl, hcs, hb, hl, hm, hmm, hx, hel⟩
  · simp [Value.cells] at hcs
    obtain ⟨rfl, rfl, rfl⟩ := hcs
    exact ⟨[], ⟨by simp, by omega, by omega, fun h => absurd h (by omega)⟩, by simp⟩
  · simp [Value.cells] at hcs
    obtain ⟨rfl, rfl, rfl⟩ := hcs
    have hlm : len ≤ m := by rw [hmm]; simp; exact hl
    simp only [Prod.mk.injEq] at hx
    obtain ⟨rfl, _⟩ := hx
    have each : ∀ i, i < len → ∃ q : Tok, (∀ j u, (tokCells q)[j]? = some u → W.cell? ((a.add (i * 3)).add j) = some u) ∧ q.text.length ≤ reachBytes := by
      intro i hi
      obtain ⟨cs', h1, h2⟩ := hel i (by omega)
      rw [ce] at h1
      obtain ⟨_, hlen, hcell⟩ := World.cells?_some h1
      obtain ⟨y0, y1, y2, k, hD, _, h3, h4, h5⟩ := Go.Deep.trod_struct3 he h2
      rw [o0, c0] at h3
      rw [o1, c1] at h4
      rw [o2, c2] at h5
      match cs', hlen with
      | [v0, v1, v2], _ =>
        obtain ⟨k0, e0, _, _⟩ := DataW.trod_int u0 h3
        obtain ⟨s1, e1, hy1, _⟩ := DataW.trod_string u1 h4
        obtain ⟨k2, e2, _, _⟩ := DataW.trod_int u2 h5
        simp at e0 e1 e2
        subst e0 e1 e2
        refine ⟨⟨k0, s1.data.toList, k2⟩, fun j u hj => ?_, ?_⟩
        · have hj3 : j < 3 := by
            rcases Nat.lt_or_ge j 3 with h6 | h6
            · exact h6
            · rw [List.getElem?_eq_none (by simpa [tokCells] using h6)] at hj; cases hj
          have h7 := hcell j hj3
          rw [h7]
          exact hj
        · simp only [Prod.mk.injEq] at hD
          have hw : (D i).weights P e = (D i).weights P e := rfl
          unfold DataW.weights at hz
          rw [hu] at hz
          simp only [List.all_cons, List.all_append, Bool.and_eq_true] at hz
          have h8 := weightsAll_mem (x := D i) (by rw [List.mem_map]; exact ⟨i, by simpa using hi, rfl⟩) hz.2.1
          rw [hD.1, hy1] at h8
          unfold DataW.weights at h8
          rw [he] at h8
          simp [DataW.weightsEach, DataW.weights] at h8
          show s1.data.toList.length ≤ reachBytes
          have := h8.2.1
          simpa using this
    obtain ⟨T, hTl, hT⟩ := build_list len each
    refine ⟨T, ⟨by rw [flatMap_len tokCells 3 tok_len, hTl], hl, hm, fun h0 => ?_⟩, fun x hx => ?_⟩
    · obtain ⟨b, off, spot⟩ := a
      obtain ⟨q0, _, hq0, _⟩ := hT 0 h0
      have hc0 := hq0 0 _ rfl
      have hs : spot = none := by
        have := World.cell?_spot hc0
        simpa [Addr.add] using this
      subst hs
      have hadd : ∀ k, (⟨b, off, none⟩ : Addr).add k = ⟨b, off + k, none⟩ := by intro k; unfold Addr.add; split <;> simp_all
      refine ⟨b, off, rfl, ?_, fun j u hj => ?_⟩
      · have := World.block_lt_of_cell? W _ hc0
        rw [hadd] at this
        have h2 : ∀ (o k : Nat), (⟨b, o, none⟩ : Addr).add k = ⟨b, o + k, none⟩ := by intro o k; unfold Addr.add; split <;> simp_all
        rw [h2] at this
        exact this
      · obtain ⟨t', ht', hc'⟩ := flatMap_get hj
        have hlt : j / 3 < len := by
          rcases Nat.lt_or_ge (j / 3) len with h6 | h6
          · exact h6
          · rw [List.getElem?_eq_none (by omega)] at ht'; cases ht'
        obtain ⟨q, hq, hqc, _⟩ := hT (j / 3) hlt
        rw [ht'] at hq
        obtain rfl := Option.some.inj hq
        have := hqc (j % 3) u hc'
        have h2 : ∀ (o k : Nat), (⟨b, o, none⟩ : Addr).add k = ⟨b, o + k, none⟩ := by intro o k; unfold Addr.add; split <;> simp_all
        rw [h2, h2, show off + j / 3 * 3 + j % 3 = off + j from by omega] at this
        exact this
    · obtain ⟨i, hi, rfl⟩ := List.getElem_of_mem hx
      obtain ⟨q, hq, _, hql⟩ := hT i (by omega)
      rw [List.getElem?_eq_getElem hi] at hq
      obtain rfl := Option.some.inj hq
      exact hql
end Go.Proofs.YtbfgmbijmdbcmaaGreatDoor
