/- The frame of a row: the wrap that keeps the listed variables and the world's shape; bytes that came in as a slice that reads. -/
import Derived.Test.YticpjdjdimpglaaGreatDoorCTisMJoinPlain
import Derived.ProofKit
import Derived.HandedShaped
import Derived.OpenShut
import Derived.ShutString
import Derived.Below
import Derived.Handed
import Derived.LaidLaws
import Derived.Lay
import Derived.Shelf.Vars
import Derived.Test.YticpjdjdimpglaaGreatDoorProg
import Derived.Test.YticpjdjdimpglaaGreatDoorRows
import Derived.Test.YticpjdjdimpglaaGreatDoorCTisMWText3
import Derived.Test.YticpjdjdimpglaaGreatDoorCTisMHld
import Derived.Lib.LaidTab
import Derived.Stop.LaidErr
import Derived.MakeChecks
import Derived.Test.YticpjdjdimpglaaGreatDoorCTisMCmp2
import Derived.Test.YticpjdjdimpglaaGreatDoorCTisMTRow
import Derived.Deep.Slices
import Derived.Deep.Strs
namespace Go.Proofs.YticpjdjdimpglaaGreatDoor
set_option linter.unusedVariables false
set_option linter.unusedSimpArgs false
open Go.ChangeShapes Go.WideShapes Go.ChangeAt Go.RowKit
theorem wrap_both {H : Type} {enc : TypeId × Value → H} {a : Assume} {C : Checked} {os : Os} {f : FuncId} {fn : Func} {s : ChangeSpec} {conds : List PathCond} {apart fresh handsOn again : Bool} {X : World → Array Value → Prop}
    (hX : ∀ (w w' : World) (args : Array Value), w.heap = w'.heap → X w args → X w' args)
    (own : ownKnob C.prog.godebug = none) (started : os.Started) (noInit : C.prog.inits.idxOf? f = none) (hfn : C.prog.funcs[f]? = some fn)
    (witness : ∃ (w : World) (tape : Tape) (i : Input), w.os = os ∧ (w.forCall tape i).Shaped C.prog ∧ i.vars = [] ∧ Input.okWide C.prog (w.forCall tape i) .any w.heap.size f i ∧
      ((s.pre enc C.prog fn conds apart (w.forCall tape i).memory i.args ∧ X (w.forCall tape i).memory i.args) ∧ sizedMet enc C.prog fn (OpenSpec.ofChange s) apart (w.forCall tape i).memory i.args) ∧ a.holds C.prog (lone (Frame.enter C.prog f i.args .normal) [] (w.forCall tape i)))
    (contract : ∀ (W : World) (base : Nat) (args : Array Value) (ds gs : List (DataW H)) (before : List MemPlace),
      (∀ (j : Nat) t v, fn.params[j]? = some t → args[j]? = some v → Value.okWide C.prog W .any base t v) →
      DataW.Whole enc C.prog fn.params.toList s.vars apart W args.toList ds gs before →
      X W args → W.ShapedOpen C.prog →
      Calls C.prog f args W fun e W' => ∃ v, e = .returned v ∧ s.post enc C.prog fn apart fresh handsOn again W args v W') :
    ReturnsInHanded a C os f .any (fun w args => (s.pre enc C.prog fn conds apart w args ∧ X w args) ∧ sizedMet enc C.prog fn (OpenSpec.ofChange s) apart w args) (s.post enc C.prog fn apart fresh handsOn again) := by
  refine returnsInHanded_of_calls own started noInit witness ?_
  intro w tape i _ hsh _ hok hpre hholds
  obtain ⟨_, _, _, fn', hfn', _, _, _, _, hval⟩ := hok
  have e : fn' = fn := Option.some.inj (hfn'.symm.trans hfn)
  subst e
  obtain ⟨⟨⟨ds, gs, before, hw, hc⟩, hx⟩, hz⟩ := hpre
  have hw' := DataW.Whole.of_heap (w' := w.forCall tape i) (by rfl) hw
  refine (contract (w.forCall tape i) w.heap.size i.args ds gs before hval hw' (hX _ _ _ (by rfl) hx) hsh).mono fun e W' ⟨v, he, hp⟩ => ?_
  subst he
  exact ChangeSpec.post_blind hp
end Go.Proofs.YticpjdjdimpglaaGreatDoor
/- Facts that every row of the seat shares. -/
namespace Go.Proofs.YticpjdjdimpglaaGreatDoor
set_option linter.unusedVariables false
set_option linter.unusedSimpArgs false
open Go.ChangeShapes Go.WideShapes Go.ChangeAt Go.RowKit
theorem own_knob : ownKnob Tryz.prog.godebug = none := by kernel_rfl
theorem laid_out : laidOutB Tryz.prog = true := by kernel_rfl
theorem maxlen_cell {W : World} (h : W.ShapedOpen Tryz.prog) : ∃ m, W.cell? ⟨4, 0, none⟩ = some (.int .i64 m) :=
  cell_of_shapedOpen_int (g := 4) (t := 3) (zero := #[.int .i64 0]) h (of_decide_eq_true (by kernel_rfl)) (by kernel_rfl) rfl (by kernel_rfl) (by kernel_rfl) Tryz.underlying3
end Go.Proofs.YticpjdjdimpglaaGreatDoor
/- From a row's cell 'laid' to what the calls of chapter 15 ask of the world. -/
namespace Go.Proofs.YticpjdjdimpglaaGreatDoor
set_option linter.unusedVariables false
set_option linter.unusedSimpArgs false
open Go.ChangeShapes Go.WideShapes Go.ChangeAt Go.RowKit
theorem array_at {H : Type} {enc : TypeId × Value → H} {P : Program} {w : World} {base : Nat} {sp : Nat → Bool} {held : Bool} {fuel : Nat} {t e : TypeId} {n : Nat} {cs : List Value} {ds : List (DataW H)} {p : List MemPlace}
    (ht : P.underlying t = some (.array n e)) (h : DataW.trod enc P w base sp held fuel t cs = some (.agg ds, p)) (i : Nat) (d : DataW H) (hd : ds[i]? = some d) : ∃ m q, DataW.trod enc P w base sp held m e ((cs.drop (i * P.cellsOf e)).take (P.cellsOf e)) = some (d, q) := by
  cases fuel with
  | zero => simp [DataW.trod] at h
  | succ fuel =>
    simp only [DataW.trod, ht] at h
    split at h
    · obtain ⟨xs, hm, hx⟩ := Option.map_eq_some_iff.1 h
      have hxs : xs.map (·.1) = ds := by
        have := congrArg Prod.fst hx
        simpa using this
      have hxl : xs.length = n := by simpa using Lib.mapM_length hm
      have hi : i < n := by
        obtain ⟨h1, _⟩ := List.getElem?_eq_some_iff.1 hd
        rw [← hxs, List.length_map, hxl] at h1
        exact h1
      obtain ⟨b, hb, hf⟩ := Lib.mapM_at hm i i (by simp [hi])
      have h2 : (xs.map (·.1))[i]? = some b.1 := by simp [hb]
      rw [hxs, hd] at h2
      obtain rfl := Option.some.inj h2
      exact ⟨fuel, b.2, hf⟩
    · cases h
theorem laid_head {P : Program} {W : World} {name : String} {D : DataW Unit} {rest : List (String × DataW Unit)} {g : Nat} {t : TypeId} (hg : P.globalNamed name = some g) (hty : (P.globals[g]?).map (·.type) = some t)
    (h : laidMet P ((name, D) :: rest) W) : ∃ cs fuel p, W.var? P name = some cs ∧ DataW.trod (fun _ => ()) P W 0 (fun _ => true) false fuel t cs.toList = some (D, p) := by
  obtain ⟨ps, ⟨g', t', cs, fuel, p, q, hg', ht', hvar, hd, _, _⟩, _⟩ := h
  obtain rfl := Option.some.inj (hg.symm.trans hg')
  obtain rfl := Option.some.inj (hty.symm.trans ht')
  exact ⟨cs, fuel, p, hvar, hd⟩
theorem strs_laid {P : Program} {W : World} {name : String} {L : List (List UInt8)} {rest : List (String × DataW Unit)} {g n : Nat} {t e : TypeId} (hg : P.globalNamed name = some g) (hty : (P.globals[g]?).map (·.type) = some t) (ht : P.underlying t = some (.array n e)) (he : P.underlying e = some .string) (hce : P.cellsOf e = 1)
    (h : laidMet P ((name, .agg (L.map fun s => .lit (.string s))) :: rest) W) : ∀ i s, L[i]? = some s → W.cell? ⟨g, i, none⟩ = some (.string (bs s)) := by
  obtain ⟨cs, fuel, p, hv, hd⟩ := laid_head hg hty h
  intro i s hs
  obtain ⟨m, q, h1⟩ := array_at ht hd i (.lit (.string s)) (by rw [List.getElem?_map, hs]; rfl)
  rw [hce, Nat.mul_one] at h1
  obtain ⟨b, e1, e2, _⟩ := DataW.trod_string he h1
  have h2 : cs.toList[i]? = some (.string b) := by
    have := congrArg (·[0]?) e1
    simpa [List.getElem?_take, List.getElem?_drop] using this
  have hb : b = bs s := by
    have e3 : s = b.data.toList := by
      have := congrArg Prod.fst e2
      simp only [DataW.lit.injEq, Lit.string.injEq] at this
      exact this
    rw [e3]
    apply ByteArray.ext
    simp [bs]
  have h3 := World.var?_cell hg hv i
  rw [h3, ← hb]
  simpa using h2
theorem gVars : Tryz.prog.globalNamed "assize/format.variables" = some 2 := by kernel_rfl
theorem gVarst : (Tryz.prog.globals[2]?).map (·.type) = some 179 := by kernel_rfl
theorem gCrit : Tryz.prog.globalNamed "assize/format.criteria" = some 0 := by kernel_rfl
theorem gCritt : (Tryz.prog.globals[0]?).map (·.type) = some 130 := by kernel_rfl
theorem gTab : Tryz.prog.globalNamed "internal/strconv.uint64pow10" = some 5 := by kernel_rfl
theorem gTabt : (Tryz.prog.globals[5]?).map (·.type) = some 243 := by kernel_rfl
theorem ceStr : Tryz.prog.cellsOf 9 = 1 := by kernel_rfl
theorem tab_eq : (Rows.laid_internal_strconv_uint64pow10 : DataW Unit) = Lib.tabData .u64 Lib.pow10Tab := by kernel_rfl
theorem vars_eq : (Rows.laid_assize_format_variables : DataW Unit) = .agg (varL.map fun s => .lit (.string s)) := by kernel_rfl
theorem crit_eq : (Rows.laid_assize_format_criteria : DataW Unit) = .agg (critL.map fun s => .lit (.string s)) := by kernel_rfl
theorem var_on {W W' : World} {n : String} {g : Nat} {cs : Array Value} (hg : Tryz.prog.globalNamed n = some g) (h : W.var? Tryz.prog n = some cs) (hb : Below W.heap.size W W') : W'.var? Tryz.prog n = some cs := by
  unfold World.var? at h ⊢
  rw [hg] at h ⊢
  simp only [Option.bind_some] at h ⊢
  have hlt : g < W.heap.size := by
    rcases Nat.lt_or_ge g W.heap.size with h' | h'
    · exact h'
    · simp [Array.getElem?_eq_none h'] at h
  rw [hb.block g hlt]
  exact h
theorem fg_of {W : World} {r1 r2 r3 : List (String × DataW Unit)} (h1 : laidMet Tryz.prog (("internal/strconv.uint64pow10", Rows.laid_internal_strconv_uint64pow10) :: r1) W) (h2 : laidMet Tryz.prog (("assize/format.variables", Rows.laid_assize_format_variables) :: r2) W)
    (h3 : laidMet Tryz.prog (("assize/format.criteria", Rows.laid_assize_format_criteria) :: r3) W) (hm : ∃ m, W.cell? ⟨4, 0, none⟩ = some (.int .i64 m)) : FG W ∧ 0 < W.heap.size := by
  rw [tab_eq] at h1
  rw [vars_eq] at h2
  rw [crit_eq] at h3
  have ht := Lib.tabIs_of_head gTab gTabt (Tryz.underlying243) Tryz.underlying214 (by kernel_rfl) (by kernel_rfl) h1
  have hv := strs_laid gVars gVarst Tryz.underlying179 Tryz.underlying9 ceStr h2
  have hc := strs_laid gCrit gCritt Tryz.underlying130 Tryz.underlying9 ceStr h3
  refine ⟨fun W' hb => ?_, World.block_lt_of_cell? W _ (hc 0 _ rfl)⟩
  obtain ⟨m, hm⟩ := hm
  exact ⟨⟨m, (hb.cell (p := ⟨_, 0, none⟩) (World.block_lt_of_cell? W _ hm)).trans hm⟩, var_on gTab ht hb,
    fun i s hs => (hb.cell (p := ⟨_, i, none⟩) (World.block_lt_of_cell? W _ (hv i s hs))).trans (hv i s hs), fun i s hs => (hb.cell (p := ⟨_, i, none⟩) (World.block_lt_of_cell? W _ (hc i s hs))).trans (hc i s hs)⟩
end Go.Proofs.YticpjdjdimpglaaGreatDoor
/- Conditions, steps, zones that came in as arguments read as the chapter's things. -/
namespace Go.Proofs.YticpjdjdimpglaaGreatDoor
set_option linter.unusedVariables false
set_option linter.unusedSimpArgs false
open Go.ChangeShapes Go.WideShapes Go.ChangeAt Go.RowKit
abbrev NC : Nat → Prop := fun _ => False
theorem build_list2 {α : Type} {p : Nat → α → Prop} : ∀ (k : Nat), (∀ i, i < k → ∃ t, p i t) → ∃ T : List α, T.length = k ∧ ∀ i t, T[i]? = some t → p i t
  | 0, _ => ⟨[], rfl, fun i t hi => by simp at hi⟩
  | k + 1, h => by
    obtain ⟨T, hl, hT⟩ := build_list2 k (fun i hi => h i (by omega))
    obtain ⟨t, ht⟩ := h k (by omega)
    refine ⟨T ++ [t], by simp [hl], fun i u hi => ?_⟩
    rcases Nat.lt_or_ge i k with h1 | h1
    · rw [List.getElem?_append_left (by omega)] at hi
      exact hT i u hi
    · rw [List.getElem?_append_right (by omega)] at hi
      obtain ⟨h2, h3⟩ := List.getElem?_eq_some_iff.1 hi
      simp only [List.length_singleton] at h2
      obtain rfl : i = k := by omega
      simp only [List.getElem_singleton] at h3
      exact h3 ▸ ht
theorem fm_len {α : Type} (f : α → List Value) (k : Nat) (hf : ∀ x, (f x).length = k) : ∀ l : List α, (l.flatMap f).length = l.length * k
  | [] => by simp
  | x :: l => by rw [List.flatMap_cons, List.length_append, hf, fm_len f k hf l, List.length_cons, Nat.add_mul]; omega
theorem fm_get {α : Type} (f : α → List Value) (k : Nat) (hf : ∀ x, (f x).length = k) (hk : 0 < k) : ∀ (l : List α) (j : Nat) (u : Value), (l.flatMap f)[j]? = some u → ∃ x, l[j / k]? = some x ∧ (f x)[j % k]? = some u
  | [], j, u, h => by simp at h
  | x :: l, j, u, h => by
    rw [List.flatMap_cons] at h
    rcases Nat.lt_or_ge j k with h1 | h1
    · rw [List.getElem?_append_left (by rw [hf]; exact h1)] at h
      exact ⟨x, by rw [Nat.div_eq_of_lt h1]; rfl, by rw [Nat.mod_eq_of_lt h1]; exact h⟩
    · rw [List.getElem?_append_right (by rw [hf]; exact h1), hf] at h
      obtain ⟨y, h2, h3⟩ := fm_get f k hf hk l (j - k) u h
      refine ⟨y, ?_, ?_⟩
      · rw [Nat.div_eq_sub_div hk h1, List.getElem?_cons_succ]
        exact h2
      · rw [Nat.mod_eq_sub_mod h1]
        exact h3
theorem rd_rows {α : Type} (f : α → List Value) (k : Nat) (hf : ∀ x, (f x).length = k) (hk : 0 < k) {W : World} {a : Addr} {len cap : Nat} (T : List α) (hT : T.length = len) (hl : len ≤ cap) (hm : cap ≤ maxLen)
    (each : ∀ i x, T[i]? = some x → ∀ j u, (f x)[j]? = some u → W.cell? ((a.add (i * k)).add j) = some u) : Rd W W.heap.size k (some a) len cap (T.flatMap f) := by
  refine ⟨by rw [fm_len f k hf, hT], hl, by unfold maxLen at hm; omega, fun h0 => ?_⟩
  obtain ⟨b, off, spot⟩ := a
  obtain ⟨x0, hx0⟩ : ∃ x, T[0]? = some x := ⟨T[0]'(by omega), List.getElem?_eq_getElem (by omega)⟩
  have hu0 : ∃ u, (f x0)[0]? = some u := ⟨(f x0)[0]'(by rw [hf]; exact hk), List.getElem?_eq_getElem (by rw [hf]; exact hk)⟩
  obtain ⟨u0, hu0⟩ := hu0
  have hc0 := each 0 x0 hx0 0 u0 hu0
  have hs : spot = none := by
    have := World.cell?_spot hc0
    simpa [Addr.add] using this
  subst hs
  have hadd : ∀ (o k : Nat), (⟨b, o, none⟩ : Addr).add k = ⟨b, o + k, none⟩ := by intro o k; unfold Addr.add; split <;> simp_all
  refine ⟨b, off, rfl, ?_, fun j u hj => ?_⟩
  · have := World.block_lt_of_cell? W _ hc0
    rw [hadd, hadd] at this
    exact this
  · obtain ⟨x, h1, h2⟩ := fm_get f k hf hk T j u hj
    have := each (j / k) x h1 (j % k) u h2
    rw [hadd, hadd, show off + j / k * k + j % k = off + j by rw [Nat.add_assoc, Nat.mul_comm, Nat.div_add_mod]] at this
    exact this
/-- A condition, a step with where its rows lie. -/
structure CR (W : World) where
  x : CT
  B : Option Addr
  n : Nat
  e : Nat
  h : RepH NC W x.ps B n e
structure SR (W : World) where
  x : ST
  B : Option Addr
  n : Nat
  e : Nat
  B1 : Option Addr
  n1 : Nat
  e1 : Nat
  B2 : Option Addr
  n2 : Nat
  e2 : Nat
  h : RepH NC W x.c.ps B n e
  h1 : RepT NC W x.th B1 n1 e1
  h2 : RepT NC W x.el B2 n2 e2
def encCR {W : World} (p : CR W) : List Value := [vi p.x.k, vi p.x.v, vi p.x.n, .slice p.B p.n p.e]
def encSR {W : World} (p : SR W) : List Value := [vi p.x.k, vi p.x.b, vi p.x.c.k, vi p.x.c.v, vi p.x.c.n, .slice p.B p.n p.e, .slice p.B1 p.n1 p.e1, .slice p.B2 p.n2 p.e2]
theorem repF_of {W : World} : ∀ d : List (CR W), RepF NC W (CF.ofL (d.map (·.x))) (d.flatMap encCR)
  | [] => rfl
  | p :: d => by
    obtain ⟨ys, h⟩ := p.h
    exact ⟨p.B, p.n, p.e, ys, d.flatMap encCR, rfl, h, repF_of d⟩
theorem repS_of {W : World} : ∀ d : List (SR W), RepS NC W (SF.ofL (d.map (·.x))) (d.flatMap encSR)
  | [] => rfl
  | p :: d => ⟨p.B, p.n, p.e, p.B1, p.n1, p.e1, p.B2, p.n2, p.e2, d.flatMap encSR, rfl, p.h, p.h1, p.h2, repS_of d⟩
theorem cells4 {cs : List Value} (h : cs.length = 4) : ∃ a b c d, cs = [a, b, c, d] := by
  match cs, h with
  | [a, b, c, d], _ => exact ⟨a, b, c, d, rfl⟩
theorem cells8 {cs : List Value} (h : cs.length = 8) : ∃ a b c d a' b' c' d', cs = [a, b, c, d, a', b', c', d'] := by
  match cs, h with
  | [a, b, c, d, a', b', c', d'], _ => exact ⟨a, b, c, d, a', b', c', d', rfl⟩
theorem ceC : Tryz.prog.cellsOf 24 = 4 := by kernel_rfl
theorem ceS : Tryz.prog.cellsOf 56 = 8 := by kernel_rfl
theorem ceI : Tryz.prog.cellsOf 3 = 1 := by kernel_rfl
theorem ceCs : Tryz.prog.cellsOf 22 = 1 := by kernel_rfl
theorem ceSs : Tryz.prog.cellsOf 25 = 1 := by kernel_rfl
section
variable {H : Type} {enc : TypeId × Value → H} {W : World}
theorem cond_row (fuel : Nat) (ih : ∀ (n : Nat), n < fuel → ∀ (cs : List Value) (x : DataW H × List MemPlace), DataW.trod enc Tryz.prog W 0 (fun _ => true) true n 24 cs = some x → ∃ p : CR W, cs = encCR p)
    (cs : List Value) (x : DataW H × List MemPlace) (h : DataW.trod enc Tryz.prog W 0 (fun _ => true) true fuel 22 cs = some x) : ∃ F A m d, cs = [.slice A m d] ∧ RepH NC W F A m d := by
  rcases DataW.trod_slice Tryz.underlying22 h with ⟨rfl, _⟩ | ⟨a, len, cap, elems, rest, n, rfl, rfl, _, hb, hl, hm, hlen, hel, _, _⟩
  · exact ⟨.nil, none, 0, 0, rfl, RepH.nil⟩
  · obtain ⟨T, hTl, hT⟩ := build_list2 (α := CR W) (p := fun i p => ∀ j u, (encCR p)[j]? = some u → W.cell? ((a.add (i * 4)).add j) = some u) len fun i hi => by
      have h1 := hel i hi
      rw [List.getElem?_eq_getElem (by omega), ceC] at h1
      obtain ⟨cs', h2, h3⟩ := Option.bind_eq_some_iff.1 h1
      obtain ⟨p, rfl⟩ := ih n (Nat.lt_succ_self _) cs' _ h3
      obtain ⟨_, _, hc⟩ := World.cells?_some h2
      refine ⟨p, fun j u hj => ?_⟩
      have hj4 : j < 4 := by
        rcases Nat.lt_or_ge j 4 with h6 | h6
        · exact h6
        · rw [List.getElem?_eq_none (by simpa [encCR] using h6)] at hj; cases hj
      rw [hc j hj4]
      exact hj
    exact ⟨CF.ofL (T.map (·.x)), some a, len, cap, rfl, T.flatMap encCR, rd_rows encCR 4 (fun _ => rfl) (by omega) T hTl hl hm hT, fun _ _ _ h => h, repF_of T⟩
theorem cond_all (fuel : Nat) : ∀ (cs : List Value) (x : DataW H × List MemPlace), DataW.trod enc Tryz.prog W 0 (fun _ => true) true fuel 24 cs = some x → ∃ p : CR W, cs = encCR p := by
  induction fuel using Nat.strongRecOn with
  | _ fuel ih =>
    intro cs x h
    obtain ⟨xs, n, rfl, _, hl, hlen, hf⟩ := DataW.trod_struct Tryz.underlying24 h
    rw [ceC] at hl
    obtain ⟨v0, v1, v2, v3, rfl⟩ := cells4 hl
    have hx : xs.length = 4 := hlen
    have h0 : DataW.trod enc Tryz.prog W 0 (fun _ => true) true n 3 ((([v0, v1, v2, v3] : List Value).drop 0).take (Tryz.prog.cellsOf 3)) = xs[0]? := hf 0 _ rfl
    have h1 : DataW.trod enc Tryz.prog W 0 (fun _ => true) true n 3 ((([v0, v1, v2, v3] : List Value).drop 1).take (Tryz.prog.cellsOf 3)) = xs[1]? := hf 1 _ rfl
    have h2 : DataW.trod enc Tryz.prog W 0 (fun _ => true) true n 3 ((([v0, v1, v2, v3] : List Value).drop 2).take (Tryz.prog.cellsOf 3)) = xs[2]? := hf 2 _ rfl
    have h3 : DataW.trod enc Tryz.prog W 0 (fun _ => true) true n 22 ((([v0, v1, v2, v3] : List Value).drop 3).take (Tryz.prog.cellsOf 22)) = xs[3]? := hf 3 _ rfl
    rw [List.getElem?_eq_getElem (by omega)] at h0 h1 h2 h3
    simp only [ceI, ceCs, List.drop_zero, List.drop_succ_cons, List.take_succ_cons, List.take_zero] at h0 h1 h2 h3
    obtain ⟨k, e0, _⟩ := DataW.trod_int Tryz.underlying3 h0
    obtain ⟨v, e1, _⟩ := DataW.trod_int Tryz.underlying3 h1
    obtain ⟨nn, e2, _⟩ := DataW.trod_int Tryz.underlying3 h2
    obtain ⟨F, A, m, d, e3, hr⟩ := cond_row n (fun j hj => ih j (by omega)) _ _ h3
    simp only [List.cons.injEq, and_true] at e0 e1 e2 e3
    subst e0 e1 e2 e3
    exact ⟨⟨⟨k, v, nn, F⟩, A, m, d, hr⟩, rfl⟩
theorem step_row (fuel : Nat) (ih : ∀ (n : Nat), n < fuel → ∀ (cs : List Value) (x : DataW H × List MemPlace), DataW.trod enc Tryz.prog W 0 (fun _ => true) true n 56 cs = some x → ∃ p : SR W, cs = encSR p)
    (cs : List Value) (x : DataW H × List MemPlace) (h : DataW.trod enc Tryz.prog W 0 (fun _ => true) true fuel 25 cs = some x) : ∃ F A m d, cs = [.slice A m d] ∧ RepT NC W F A m d := by
  rcases DataW.trod_slice Tryz.underlying25 h with ⟨rfl, _⟩ | ⟨a, len, cap, elems, rest, n, rfl, rfl, _, hb, hl, hm, hlen, hel, _, _⟩
  · exact ⟨.nil, none, 0, 0, rfl, RepT.nil⟩
  · obtain ⟨T, hTl, hT⟩ := build_list2 (α := SR W) (p := fun i p => ∀ j u, (encSR p)[j]? = some u → W.cell? ((a.add (i * 8)).add j) = some u) len fun i hi => by
      have h1 := hel i hi
      rw [List.getElem?_eq_getElem (by omega), ceS] at h1
      obtain ⟨cs', h2, h3⟩ := Option.bind_eq_some_iff.1 h1
      obtain ⟨p, rfl⟩ := ih n (Nat.lt_succ_self _) cs' _ h3
      obtain ⟨_, _, hc⟩ := World.cells?_some h2
      refine ⟨p, fun j u hj => ?_⟩
      have hj4 : j < 8 := by
        rcases Nat.lt_or_ge j 8 with h6 | h6
        · exact h6
        · rw [List.getElem?_eq_none (by simpa [encSR] using h6)] at hj; cases hj
      rw [hc j hj4]
      exact hj
    exact ⟨SF.ofL (T.map (·.x)), some a, len, cap, rfl, T.flatMap encSR, rd_rows encSR 8 (fun _ => rfl) (by omega) T hTl hl hm hT, fun _ _ _ h => h, repS_of T⟩
theorem step_all (fuel : Nat) : ∀ (cs : List Value) (x : DataW H × List MemPlace), DataW.trod enc Tryz.prog W 0 (fun _ => true) true fuel 56 cs = some x → ∃ p : SR W, cs = encSR p := by
  induction fuel using Nat.strongRecOn with
  | _ fuel ih =>
    intro cs x h
    obtain ⟨xs, n, rfl, _, hl, hlen, hf⟩ := DataW.trod_struct Tryz.underlying56 h
    rw [ceS] at hl
    obtain ⟨v0, v1, v2, v3, v4, v5, v6, v7, rfl⟩ := cells8 hl
    have hx : xs.length = 5 := hlen
    have h0 : DataW.trod enc Tryz.prog W 0 (fun _ => true) true n 3 ((([v0, v1, v2, v3, v4, v5, v6, v7] : List Value).drop 0).take (Tryz.prog.cellsOf 3)) = xs[0]? := hf 0 _ rfl
    have h1 : DataW.trod enc Tryz.prog W 0 (fun _ => true) true n 3 ((([v0, v1, v2, v3, v4, v5, v6, v7] : List Value).drop 1).take (Tryz.prog.cellsOf 3)) = xs[1]? := hf 1 _ rfl
    have h2 : DataW.trod enc Tryz.prog W 0 (fun _ => true) true n 24 ((([v0, v1, v2, v3, v4, v5, v6, v7] : List Value).drop 2).take (Tryz.prog.cellsOf 24)) = xs[2]? := hf 2 _ rfl
    have h3 : DataW.trod enc Tryz.prog W 0 (fun _ => true) true n 25 ((([v0, v1, v2, v3, v4, v5, v6, v7] : List Value).drop 6).take (Tryz.prog.cellsOf 25)) = xs[3]? := hf 3 _ rfl
    have h4 : DataW.trod enc Tryz.prog W 0 (fun _ => true) true n 25 ((([v0, v1, v2, v3, v4, v5, v6, v7] : List Value).drop 7).take (Tryz.prog.cellsOf 25)) = xs[4]? := hf 4 _ rfl
    rw [List.getElem?_eq_getElem (by omega)] at h0 h1 h2 h3 h4
    simp only [ceI, ceC, ceSs, List.drop_zero, List.drop_succ_cons, List.take_succ_cons, List.take_zero] at h0 h1 h2 h3 h4
    obtain ⟨k, e0, _⟩ := DataW.trod_int Tryz.underlying3 h0
    obtain ⟨b, e1, _⟩ := DataW.trod_int Tryz.underlying3 h1
    obtain ⟨p, e2⟩ := cond_all n _ _ h2
    obtain ⟨F, A, m, d, e3, hr⟩ := step_row n (fun j hj => ih j (by omega)) _ _ h3
    obtain ⟨G, B, q, d', e4, hr'⟩ := step_row n (fun j hj => ih j (by omega)) _ _ h4
    unfold encCR at e2
    simp only [List.cons.injEq, and_true] at e0 e1 e2 e3 e4
    obtain ⟨rfl, rfl, rfl, rfl⟩ := e2
    subst e0 e1 e3 e4
    exact ⟨⟨⟨k, b, p.x, F, G⟩, p.B, p.n, p.e, A, m, d, B, q, d', p.h, hr, hr'⟩, rfl⟩
/-- A condition as an argument. -/
theorem cond_arg {v : Value} {d : DataW H} {ps : List MemPlace} {cs : Array Value} (hv : v = .agg cs) (h : DataW.Trod enc Tryz.prog W 0 (fun _ => true) true 24 v d ps) : ∃ (x : CT) (A : Option Addr) (m d : Nat), v = .agg #[.int .i64 x.k, .int .i64 x.v, .int .i64 x.n, .slice A m d] ∧ RepH NC W x.ps A m d := by
  obtain ⟨fuel, h⟩ := h
  obtain ⟨p, hp⟩ := cond_all fuel _ _ h
  subst hv
  have e : cs.toList = encCR p := by simpa [Value.cells] using hp
  refine ⟨p.x, p.B, p.n, p.e, ?_, p.h⟩
  have : cs = (encCR p).toArray := by rw [← e]
  rw [this]
  rfl
/-- A list of steps as an argument. -/
theorem steps_arg {A : Option Addr} {m c : Nat} {d : DataW H} {ps : List MemPlace} (h : DataW.Trod enc Tryz.prog W 0 (fun _ => true) true 25 (.slice A m c) d ps) : ∃ F, RepT NC W F A m c := by
  obtain ⟨fuel, h⟩ := h
  obtain ⟨F, A', m', c', e, hr⟩ := step_row fuel (fun n _ => step_all n) _ _ h
  have e' : (Value.slice A m c) = .slice A' m' c' := by simpa [Value.cells] using e
  injection e' with e1 e2 e3
  subst e1 e2 e3
  exact ⟨F, hr⟩
end
end Go.Proofs.YticpjdjdimpglaaGreatDoor
