/- The frame of a row: the wrap that keeps the listed variables and the world's shape; bytes that came in as a slice that reads. -/
import Derived.Test.YticpjdjdimpglaaGreatDoorCReaMJoinPlain
import Derived.ProofKit
import Derived.HandedShaped
import Derived.OpenShut
import Derived.ShutString
import Derived.Below
import Derived.Handed
import Derived.LaidLaws
import Derived.Lay
import Derived.Shelf.Vars
import Derived.Test.YticpjdjdimpglaaGreatDoorProg
import Derived.Test.YticpjdjdimpglaaGreatDoorRows
import Derived.Test.YticpjdjdimpglaaGreatDoorCReaMWText3
import Derived.Test.YticpjdjdimpglaaGreatDoorCReaMHld
import Derived.Lib.LaidTab
import Derived.Stop.LaidErr
import Derived.MakeChecks
import Derived.Test.YticpjdjdimpglaaGreatDoorCReaMCmp2
import Derived.Test.YticpjdjdimpglaaGreatDoorCReaMTRow
import Derived.Deep.Slices
import Derived.Deep.Strs
namespace Go.Proofs.YticpjdjdimpglaaGreatDoor
set_option linter.unusedVariables false
set_option linter.unusedSimpArgs false
open Go.ChangeShapes Go.WideShapes Go.ChangeAt Go.RowKit
theorem wrap_both {H : Type} {enc : TypeId × Value → H} {a : Assume} {C : Checked} {os : Os} {f : FuncId} {fn : Func} {s : ChangeSpec} {conds : List PathCond} {apart fresh handsOn again : Bool} {X : World → Array Value → Prop}
    (hX : ∀ (w w' : World) (args : Array Value), w.heap = w'.heap → X w args → X w' args)
    (own : ownKnob C.prog.godebug = none) (started : os.Started) (noInit : C.prog.inits.idxOf? f = none) (hfn : C.prog.funcs[f]? = some fn)
    (witness : ∃ (w : World) (tape : Tape) (i : Input), w.os = os ∧ (w.forCall tape i).Shaped C.prog ∧ i.vars = [] ∧ Input.okWide C.prog (w.forCall tape i) .any w.heap.size f i ∧
      ((s.pre enc C.prog fn conds apart (w.forCall tape i).memory i.args ∧ X (w.forCall tape i).memory i.args) ∧ sizedMet enc C.prog fn (OpenSpec.ofChange s) apart (w.forCall tape i).memory i.args) ∧ a.holds C.prog (lone (Frame.enter C.prog f i.args .normal) [] (w.forCall tape i)))
    (contract : ∀ (W : World) (base : Nat) (args : Array Value) (ds gs : List (DataW H)) (before : List MemPlace),
      (∀ (j : Nat) t v, fn.params[j]? = some t → args[j]? = some v → Value.okWide C.prog W .any base t v) →
      DataW.Whole enc C.prog fn.params.toList s.vars apart W args.toList ds gs before →
      X W args → W.ShapedOpen C.prog →
      Calls C.prog f args W fun e W' => ∃ v, e = .returned v ∧ s.post enc C.prog fn apart fresh handsOn again W args v W') :
    ReturnsInHanded a C os f .any (fun w args => (s.pre enc C.prog fn conds apart w args ∧ X w args) ∧ sizedMet enc C.prog fn (OpenSpec.ofChange s) apart w args) (s.post enc C.prog fn apart fresh handsOn again) := by
  refine returnsInHanded_of_calls own started noInit witness ?_
  intro w tape i _ hsh _ hok hpre hholds
  obtain ⟨_, _, _, fn', hfn', _, _, _, _, hval⟩ := hok
  have e : fn' = fn := Option.some.inj (hfn'.symm.trans hfn)
  subst e
  obtain ⟨⟨⟨ds, gs, before, hw, hc⟩, hx⟩, hz⟩ := hpre
  have hw' := DataW.Whole.of_heap (w' := w.forCall tape i) (by rfl) hw
  refine (contract (w.forCall tape i) w.heap.size i.args ds gs before hval hw' (hX _ _ _ (by rfl) hx) hsh).mono fun e W' ⟨v, he, hp⟩ => ?_
  subst he
  exact ChangeSpec.post_blind hp
theorem rd_of_trod {H : Type} {enc : TypeId × Value → H} {P : Program} {W : World} {t e : TypeId} {a0 : Option Addr} {len cap : Nat} {d : DataW H} {p : List MemPlace} (hu : P.underlying t = some (.slice e)) (he : P.underlying e = some (.int .u8)) (hc : P.cellsOf e = 1)
    (h : DataW.Trod enc P W 0 (fun _ => true) true t (.slice a0 len cap) d p) : ∃ l : List UInt8, Rd W W.heap.size 1 a0 len cap (l.map vb) := by
  obtain ⟨fuel, hf⟩ := h
  rcases open_ints hu he hc hf with ⟨hcs, _⟩ | ⟨x, l, c, zs, hcs, _, hl, hm, hz, _, hcell, hwz⟩
  · simp [Value.cells] at hcs
    obtain ⟨rfl, rfl, rfl⟩ := hcs
    exact ⟨[], Rd.nil⟩
  · simp [Value.cells] at hcs
    obtain ⟨rfl, rfl, rfl⟩ := hcs
    have hz' : zs.length = cap := by simpa using hz
    refine ⟨(zs.take len).map (fun x => UInt8.ofNat x.toNat), by simp; omega, hl, hm, fun hn => ?_⟩
    obtain ⟨b, off, spot⟩ := x
    have h0 := hcell 0 (by omega)
    have hs : spot = none := by simpa [Addr.add] using World.cell?_spot h0
    subst hs
    refine ⟨b, off, rfl, World.block_lt_of_cell? W _ h0, fun j u hj => ?_⟩
    have hj2 : j < len := by
      rcases Nat.lt_or_ge j len with h3 | h3
      · exact h3
      · rw [List.getElem?_eq_none (by simp; omega)] at hj; cases hj
    have hcj := hcell j (by omega)
    have hw := hwz zs[j] (List.getElem_mem (by omega))
    have hb : 0 ≤ zs[j] ∧ zs[j] < 256 := by
      have h1 : IntKind.u8.min = 0 := rfl
      have h2 : IntKind.u8.max = 255 := rfl
      simp only [Lit.wf, Bool.and_eq_true, decide_eq_true_eq] at hw
      omega
    have e1 : u = .int .u8 zs[j] := by
      simp [List.getElem?_map, List.getElem?_take, hj2, show j < zs.length from by omega, vb] at hj
      rw [← hj]
      congr 1
      omega
    subst e1
    rw [show zs.getD j 0 = zs[j] from by simp [List.getD, show j < zs.length from by omega]] at hcj
    have hadd : (⟨b, off, none⟩ : Addr).add j = ⟨b, off + j, none⟩ := by unfold Addr.add; split <;> simp_all
    rwa [hadd] at hcj
end Go.Proofs.YticpjdjdimpglaaGreatDoor
/- Facts that every row of the seat shares. -/
namespace Go.Proofs.YticpjdjdimpglaaGreatDoor
set_option linter.unusedVariables false
set_option linter.unusedSimpArgs false
open Go.ChangeShapes Go.WideShapes Go.ChangeAt Go.RowKit
theorem own_knob : ownKnob Tryz.prog.godebug = none := by kernel_rfl
theorem laid_out : laidOutB Tryz.prog = true := by kernel_rfl
theorem maxlen_cell {W : World} (h : W.ShapedOpen Tryz.prog) : ∃ m, W.cell? ⟨4, 0, none⟩ = some (.int .i64 m) :=
  cell_of_shapedOpen_int (g := 4) (t := 3) (zero := #[.int .i64 0]) h (of_decide_eq_true (by kernel_rfl)) (by kernel_rfl) rfl (by kernel_rfl) (by kernel_rfl) Tryz.underlying3
end Go.Proofs.YticpjdjdimpglaaGreatDoor
/- From a row's cell 'laid' to what the calls of chapter 15 ask of the world. -/
namespace Go.Proofs.YticpjdjdimpglaaGreatDoor
set_option linter.unusedVariables false
set_option linter.unusedSimpArgs false
open Go.ChangeShapes Go.WideShapes Go.ChangeAt Go.RowKit
theorem array_at {H : Type} {enc : TypeId × Value → H} {P : Program} {w : World} {base : Nat} {sp : Nat → Bool} {held : Bool} {fuel : Nat} {t e : TypeId} {n : Nat} {cs : List Value} {ds : List (DataW H)} {p : List MemPlace}
    (ht : P.underlying t = some (.array n e)) (h : DataW.trod enc P w base sp held fuel t cs = some (.agg ds, p)) (i : Nat) (d : DataW H) (hd : ds[i]? = some d) : ∃ m q, DataW.trod enc P w base sp held m e ((cs.drop (i * P.cellsOf e)).take (P.cellsOf e)) = some (d, q) := by
  cases fuel with
  | zero => simp [DataW.trod] at h
  | succ fuel =>
    simp only [DataW.trod, ht] at h
    split at h
    · obtain ⟨xs, hm, hx⟩ := Option.map_eq_some_iff.1 h
      have hxs : xs.map (·.1) = ds := by
        have := congrArg Prod.fst hx
        simpa using this
      have hxl : xs.length = n := by simpa using Lib.mapM_length hm
      have hi : i < n := by
        obtain ⟨h1, _⟩ := List.getElem?_eq_some_iff.1 hd
        rw [← hxs, List.length_map, hxl] at h1
        exact h1
      obtain ⟨b, hb, hf⟩ := Lib.mapM_at hm i i (by simp [hi])
      have h2 : (xs.map (·.1))[i]? = some b.1 := by simp [hb]
      rw [hxs, hd] at h2
      obtain rfl := Option.some.inj h2
      exact ⟨fuel, b.2, hf⟩
    · cases h
theorem laid_head {P : Program} {W : World} {name : String} {D : DataW Unit} {rest : List (String × DataW Unit)} {g : Nat} {t : TypeId} (hg : P.globalNamed name = some g) (hty : (P.globals[g]?).map (·.type) = some t)
    (h : laidMet P ((name, D) :: rest) W) : ∃ cs fuel p, W.var? P name = some cs ∧ DataW.trod (fun _ => ()) P W 0 (fun _ => true) false fuel t cs.toList = some (D, p) := by
  obtain ⟨ps, ⟨g', t', cs, fuel, p, q, hg', ht', hvar, hd, _, _⟩, _⟩ := h
  obtain rfl := Option.some.inj (hg.symm.trans hg')
  obtain rfl := Option.some.inj (hty.symm.trans ht')
  exact ⟨cs, fuel, p, hvar, hd⟩
theorem strs_laid {P : Program} {W : World} {name : String} {L : List (List UInt8)} {rest : List (String × DataW Unit)} {g n : Nat} {t e : TypeId} (hg : P.globalNamed name = some g) (hty : (P.globals[g]?).map (·.type) = some t) (ht : P.underlying t = some (.array n e)) (he : P.underlying e = some .string) (hce : P.cellsOf e = 1)
    (h : laidMet P ((name, .agg (L.map fun s => .lit (.string s))) :: rest) W) : ∀ i s, L[i]? = some s → W.cell? ⟨g, i, none⟩ = some (.string (bs s)) := by
  obtain ⟨cs, fuel, p, hv, hd⟩ := laid_head hg hty h
  intro i s hs
  obtain ⟨m, q, h1⟩ := array_at ht hd i (.lit (.string s)) (by rw [List.getElem?_map, hs]; rfl)
  rw [hce, Nat.mul_one] at h1
  obtain ⟨b, e1, e2, _⟩ := DataW.trod_string he h1
  have h2 : cs.toList[i]? = some (.string b) := by
    have := congrArg (·[0]?) e1
    simpa [List.getElem?_take, List.getElem?_drop] using this
  have hb : b = bs s := by
    have e3 : s = b.data.toList := by
      have := congrArg Prod.fst e2
      simp only [DataW.lit.injEq, Lit.string.injEq] at this
      exact this
    rw [e3]
    apply ByteArray.ext
    simp [bs]
  have h3 := World.var?_cell hg hv i
  rw [h3, ← hb]
  simpa using h2
theorem gVars : Tryz.prog.globalNamed "assize/format.variables" = some 2 := by kernel_rfl
theorem gVarst : (Tryz.prog.globals[2]?).map (·.type) = some 179 := by kernel_rfl
theorem gCrit : Tryz.prog.globalNamed "assize/format.criteria" = some 0 := by kernel_rfl
theorem gCritt : (Tryz.prog.globals[0]?).map (·.type) = some 130 := by kernel_rfl
theorem gTab : Tryz.prog.globalNamed "internal/strconv.uint64pow10" = some 5 := by kernel_rfl
theorem gTabt : (Tryz.prog.globals[5]?).map (·.type) = some 243 := by kernel_rfl
theorem ceStr : Tryz.prog.cellsOf 9 = 1 := by kernel_rfl
theorem tab_eq : (Rows.laid_internal_strconv_uint64pow10 : DataW Unit) = Lib.tabData .u64 Lib.pow10Tab := by kernel_rfl
theorem vars_eq : (Rows.laid_assize_format_variables : DataW Unit) = .agg (varL.map fun s => .lit (.string s)) := by kernel_rfl
theorem crit_eq : (Rows.laid_assize_format_criteria : DataW Unit) = .agg (critL.map fun s => .lit (.string s)) := by kernel_rfl
theorem var_on {W W' : World} {n : String} {g : Nat} {cs : Array Value} (hg : Tryz.prog.globalNamed n = some g) (h : W.var? Tryz.prog n = some cs) (hb : Below W.heap.size W W') : W'.var? Tryz.prog n = some cs := by
  unfold World.var? at h ⊢
  rw [hg] at h ⊢
  simp only [Option.bind_some] at h ⊢
  have hlt : g < W.heap.size := by
    rcases Nat.lt_or_ge g W.heap.size with h' | h'
    · exact h'
    · simp [Array.getElem?_eq_none h'] at h
  rw [hb.block g hlt]
  exact h
theorem fg_of {W : World} {r1 r2 r3 : List (String × DataW Unit)} (h1 : laidMet Tryz.prog (("internal/strconv.uint64pow10", Rows.laid_internal_strconv_uint64pow10) :: r1) W) (h2 : laidMet Tryz.prog (("assize/format.variables", Rows.laid_assize_format_variables) :: r2) W)
    (h3 : laidMet Tryz.prog (("assize/format.criteria", Rows.laid_assize_format_criteria) :: r3) W) (hm : ∃ m, W.cell? ⟨4, 0, none⟩ = some (.int .i64 m)) : FG W ∧ 0 < W.heap.size := by
  rw [tab_eq] at h1
  rw [vars_eq] at h2
  rw [crit_eq] at h3
  have ht := Lib.tabIs_of_head gTab gTabt (Tryz.underlying243) Tryz.underlying214 (by kernel_rfl) (by kernel_rfl) h1
  have hv := strs_laid gVars gVarst Tryz.underlying179 Tryz.underlying9 ceStr h2
  have hc := strs_laid gCrit gCritt Tryz.underlying130 Tryz.underlying9 ceStr h3
  refine ⟨fun W' hb => ?_, World.block_lt_of_cell? W _ (hc 0 _ rfl)⟩
  obtain ⟨m, hm⟩ := hm
  exact ⟨⟨m, (hb.cell (p := ⟨_, 0, none⟩) (World.block_lt_of_cell? W _ hm)).trans hm⟩, var_on gTab ht hb,
    fun i s hs => (hb.cell (p := ⟨_, i, none⟩) (World.block_lt_of_cell? W _ (hv i s hs))).trans (hv i s hs), fun i s hs => (hb.cell (p := ⟨_, i, none⟩) (World.block_lt_of_cell? W _ (hc i s hs))).trans (hc i s hs)⟩
end Go.Proofs.YticpjdjdimpglaaGreatDoor
/- Conditions, steps, zones that came in as arguments read as the chapter's things. -/
namespace Go.Proofs.YticpjdjdimpglaaGreatDoor
set_option linter.unusedVariables false
set_option linter.unusedSimpArgs false
open Go.ChangeShapes Go.WideShapes Go.ChangeAt Go.RowKit
abbrev NC : Nat → Prop := fun _ => False
/-- A condition, a step with where its rows lie. -/
structure CR (W : World) where
  x : CT
  B : Option Addr
  n : Nat
  e : Nat
  h : RepH NC W x.ps B n e
structure SR (W : World) where
  x : ST
  B : Option Addr
  n : Nat
  e : Nat
  B1 : Option Addr
  n1 : Nat
  e1 : Nat
  B2 : Option Addr
  n2 : Nat
  e2 : Nat
  h : RepH NC W x.c.ps B n e
  h1 : RepT NC W x.th B1 n1 e1
  h2 : RepT NC W x.el B2 n2 e2
section
variable {H : Type} {enc : TypeId × Value → H} {W : World}
end
end Go.Proofs.YticpjdjdimpglaaGreatDoor
