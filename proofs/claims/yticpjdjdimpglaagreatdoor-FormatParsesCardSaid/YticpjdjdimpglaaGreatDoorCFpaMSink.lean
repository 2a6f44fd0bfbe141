/- Laws over any program: a region that draws its order and whose last operation waits for all the others: the others first, the last one at the end. -/
import Derived.StillTail
import Derived.OrdersHeld
namespace Go.Proofs.YticpjdjdimpglaaGreatDoor
set_option linter.unusedVariables false
set_option linter.unusedSimpArgs false
section
variable {P : Program} {md : Region.Mode} {ops ops' : Array Oper} {Q : Exit → Act → World → Prop}
/-- Each operation waits for earlier ones alone. -/
def upB (ops : Array Oper) : Bool := (List.range ops.size).all fun j => match ops[j]? with
  | some o => o.after.all fun e => decide (e.on < j)
  | none => true
theorem upB_spec (h : upB ops = true) {j : Nat} {o : Oper} (hj : ops[j]? = some o) : ∀ e ∈ o.after, e.on < j := by
  intro e he
  have h1 := List.all_eq_true.1 h j (List.mem_range.2 (Array.getElem?_eq_some_iff.1 hj).1)
  rw [hj] at h1
  have h2 := (Array.all_eq_true'.1 h1) e he
  exact of_decide_eq_true h2
theorem least_un {listed : Array Bool} : ∀ n : Nat, listed.getD n true = false → ∃ j, j ≤ n ∧ listed.getD j true = false ∧ ∀ i, i < j → listed.getD i true = true := by
  intro n
  induction n using Nat.strongRecOn with
  | _ n ih =>
    intro hn
    by_cases h : ∀ i, i < n → listed.getD i true = true
    · exact ⟨n, Nat.le_refl _, hn, h⟩
    · obtain ⟨i, hi⟩ := Classical.not_forall.1 h
      obtain ⟨hi, hu⟩ := Classical.not_imp.1 hi
      obtain ⟨j, h1, h2, h3⟩ := ih i hi (by simpa using hu)
      exact ⟨j, by omega, h2, h3⟩
theorem ready_some (hu : upB ops = true) {n : Nat} {listed : Array Bool} (hs : listed.size = ops.size) (hn : listed.getD n true = false) : Region.ready md ops listed ≠ [] := by
  obtain ⟨j, h1, h2, h3⟩ := least_un n hn
  have hj : j < listed.size := by
    rcases Nat.lt_or_ge j listed.size with h | h
    · exact h
    · simp [Array.getD, Nat.not_lt.2 h] at h2
  obtain ⟨o, ho⟩ : ∃ o, ops[j]? = some o := ⟨ops[j]'(by omega), Array.getElem?_eq_getElem (by omega)⟩
  have hm : j ∈ Region.ready md ops listed := mem_ready.2 ⟨h2, o, ho, fun e he _ => by
    have hlt := upB_spec hu ho e he
    have h4 := h3 e.on hlt
    have h5 : e.on < listed.size := by omega
    simp [Array.getD, h5] at h4 ⊢
    exact h4⟩
  intro h0
  rw [h0] at hm
  cases hm
/-- Exits other than the normal one agree. -/
theorem wp_exits {Q0 : Exit → Act → World → Prop} {o : Oper} {a : Act} {w : World} {K : Act → World → Prop} (hp : ∀ c a w, Q0 (.panic c) a w → Q (.panic c) a w) (ho : LetsOut Q0 → LetsOut Q) (h : o.wp P a w K Q0) : o.wp P a w K Q := by
  unfold Oper.wp at h ⊢
  generalize (execOp a.eval o).run P w = r at h ⊢
  cases r with
  | ok x w' =>
    cases x with
    | enter f args =>
      simp only [Oper.upon] at h ⊢
      refine Calls.mono h fun e w'' he => ?_
      cases e with
      | returned v => exact he
      | panicked c => exact hp _ _ _ he
      | outgrown => exact ho he
    | _ => simp only [Oper.upon] at h ⊢ <;> exact h
  | halt x w' =>
    cases x with
    | panic v => simp only [Oper.upon] at h ⊢; exact hp _ _ _ h
    | _ => simp only [Oper.upon] at h ⊢ <;> exact h
theorem all_listed {n : Nat} {listed : Array Bool} (hsz : ops.size = n + 1) (hl : ∀ j, j < n + 1 → listed.getD j true = true) : Region.ready md ops listed = [] := by
  rw [List.eq_nil_iff_forall_not_mem]
  intro j hj
  obtain ⟨h1, o, ho, _⟩ := mem_ready.1 hj
  have h2 : j < ops.size := (Array.getElem?_eq_some_iff.1 ho).1
  rw [hl j (by omega)] at h1
  cases h1
theorem wpAny_sink {n : Nat} {R : Act → World → Prop} {Q0 : Exit → Act → World → Prop} (hsz : ops.size = n + 1) (hs : Region.sinkB md ops n = true) (hc : Region.chainB md ops n = true) (hu : upB ops = true)
    (hready : ∀ listed, Region.ready md ops' listed = Region.ready md ops listed) (hsame : ∀ j, j < n → ops'[j]? = ops[j]?) (hy : ∀ t, yielded ops' t = yielded ops t)
    (hR : ∀ a w, Q0 .normal a w → R a w) (hp : ∀ c a w, Q0 (.panic c) a w → Q (.panic c) a w) (hlo : LetsOut Q0 → LetsOut Q) (hd : ∀ K a w, wpOp P ops' Q0 n K a w → K a w)
    (hlast : ∀ a w, R a w → wpOp P ops Q n (fun a' w' => Q .normal a' w') a w) :
    ∀ (fuel : Nat) (listed : Array Bool) (a : Act) (w : World), HeadInv md ops n listed → wpAny P md ops' Q0 fuel listed a w → wpAny P md ops Q fuel listed a w
  | 0, listed, a, w, inv, h => by
    have h1 := h.1
    rw [hready] at h1
    exact absurd h1 (ready_some hu inv.size (inv.tail n (Nat.le_refl _) (by omega)))
  | fuel + 1, listed, a, w, inv, h => by
    refine ⟨fun h0 => absurd h0 (ready_some hu inv.size (inv.tail n (Nat.le_refl _) (by omega))), fun i hi => ?_⟩
    have h1 := h.2 i (by rw [hready]; exact hi)
    obtain ⟨hl, o, ho, _⟩ := mem_ready.1 hi
    have hlt : i < n + 1 := by have := (Array.getElem?_eq_some_iff.1 ho).1; omega
    rcases Nat.lt_or_ge i n with hin | hin
    · have ih := fun a w => wpAny_sink hsz hs hc hu hready hsame hy hR hp hlo hd hlast fuel (listed.setIfInBounds i true) a w (inv.set hi hin)
      have h2 : wpOp P ops Q i (wpAny P md ops' Q0 fuel (listed.setIfInBounds i true)) a w := by
        unfold wpOp at h1 ⊢
        rw [hsame i hin] at h1
        rw [ho] at h1 ⊢
        simp only at h1 ⊢
        rw [hy] at h1
        split at h1
        · next hw => rw [if_pos hw]; exact h1.imp (wp_exits hp hlo) fun ⟨x, y⟩ => ⟨x, hlo y⟩
        · next hw => rw [if_neg hw]; exact h1
      exact wpOp_mono ih h2
    · obtain rfl : i = n := by omega
      have hall : ∀ j, j < i → listed.getD j true = true := fun j hj => by
        cases hq : listed.getD j true with
        | true => rfl
        | false => exact absurd hi (tail_waits hs hc (by omega) inv (i - j) j rfl hj hq i (Nat.le_refl _))
      have hL : ∀ j, j < i + 1 → (listed.setIfInBounds i true).getD j true = true := fun j hj => by
        by_cases e : j = i
        · subst e
          simp [Array.getD]
        · rw [getD_set_ne true (by omega)]
          exact hall j (by omega)
      have hnil := all_listed (md := md) (ops := ops) hsz hL
      have h3 := hd _ _ _ h1
      have h4 : R a w := by
        cases fuel with
        | zero => exact hR _ _ h3.2
        | succ f => exact hR _ _ (h3.1 (by rw [hready]; exact hnil))
      refine wpOp_mono (fun a' w' hq => ?_) (hlast a w h4)
      cases fuel with
      | zero => exact ⟨hnil, hq⟩
      | succ f => exact ⟨fun _ => hq, by rw [hnil]; simp⟩
theorem head_start {n : Nat} (hsz : ops.size = n + 1) : HeadInv md ops n (Array.replicate ops.size false) := by
  refine ⟨by simp, fun j oj _ hl => ?_, fun t ht ht' => ?_⟩
  · rw [getD_replicate_false] at hl
    cases hl
  · simp [Array.getD, ht']
/-- The others by a held walk over the same region with a dummy in the last place, then the last operation. -/
theorem wp_region_sink {S : World → Prop} {id n : Nat} {R : Act → World → Prop} {Q0 : Exit → Act → World → Prop} {a : Act} {w : World} (hm : P.follows .mixedOrders = true) (hsz : ops.size = n + 1) (hs : Region.sinkB .any ops n = true) (hc : Region.chainB .any ops n = true) (hu : upB ops = true)
    (hready : ∀ listed, Region.ready .any ops' listed = Region.ready .any ops listed) (hsame : ∀ j, j < n → ops'[j]? = ops[j]?) (hy : ∀ t, yielded ops' t = yielded ops t)
    (hR : ∀ a w, Q0 .normal a w → R a w) (hp : ∀ c a w, Q0 (.panic c) a w → Q (.panic c) a w) (hlo : LetsOut Q0 → LetsOut Q) (hd : ∀ K a w, wpOp P ops' Q0 n K a w → K a w)
    (hlast : ∀ a w, R a w → wpOp P ops Q n (fun a' w' => Q .normal a' w') a w)
    (h : wpAnyH P .any ops' Q0 S ops.size (Array.replicate ops.size false) a { w with drawn := w.drawn + 1 }) : (Code.region id ops true).wp P Q a w :=
  wp_region_any hm (wpAny_sink hsz hs hc hu hready hsame hy hR hp hlo hd hlast _ _ _ _ (head_start hsz) (wpAny_of_held _ _ _ _ h))
/-- A dummy in the place of an operation that leaves nothing in a temporary. -/
def dum (o : Oper) : Oper := { o with op := .move (.const (.bool true)), guard := none, dst := none }
theorem getElem_dum {n j : Nat} {o : Oper} (hj : j ≠ n) : (ops.setIfInBounds n (dum o))[j]? = ops[j]? := by
  rw [Array.getElem?_setIfInBounds]
  rw [if_neg (fun h => hj h.symm)]
theorem ready_dum {n : Nat} {o : Oper} (ho : ops[n]? = some o) (listed : Array Bool) : Region.ready md (ops.setIfInBounds n (dum o)) listed = Region.ready md ops listed := by
  have hn := (Array.getElem?_eq_some_iff.1 ho).1
  unfold Region.ready
  rw [Array.size_setIfInBounds]
  refine List.filter_congr fun j _ => ?_
  by_cases h : j = n
  · subst h
    rw [Array.getElem?_setIfInBounds, if_pos rfl, if_pos hn, ho]
    rfl
  · rw [getElem_dum h]
theorem yielded_dum {n : Nat} {o : Oper} (ho : ops[n]? = some o) (hdst : o.dst = none) (t : Array Value) : yielded (ops.setIfInBounds n (dum o)) t = yielded ops t := by
  have hn := (Array.getElem?_eq_some_iff.1 ho).1
  funext j
  unfold yielded
  by_cases h : j = n
  · subst h
    rw [Array.getElem?_setIfInBounds, if_pos rfl, if_pos hn, ho]
    simp [dum, hdst]
  · rw [getElem_dum h]
theorem wpOp_dum {Q0 : Exit → Act → World → Prop} {n : Nat} {o : Oper} (ho : ops[n]? = some o) (K : Act → World → Prop) (a : Act) (w : World) (h : wpOp P (ops.setIfInBounds n (dum o)) Q0 n K a w) : K a w := by
  have hn := (Array.getElem?_eq_some_iff.1 ho).1
  unfold wpOp at h
  rw [Array.getElem?_setIfInBounds, if_pos rfl, if_pos hn] at h
  simp only at h
  rw [if_pos (by simp [Region.wanted, dum])] at h
  rcases h with h | h
  · have h2 : K (a.put none (.bool true)) w := h
    simpa [Act.put] using h2
  · exact absurd (show noRoomEvent ∈ (#[] : Array Event) from h.1.1) (by simp)
/-- The post of the walk over the others: behind them the last operation. -/
def Q0 (P : Program) (ops : Array Oper) (Q : Exit → Act → World → Prop) (n : Nat) : Exit → Act → World → Prop
  | .normal, a, w => wpOp P ops Q n (fun a' w' => Q .normal a' w') a w
  | e, a, w => Q e a w
theorem Q0_normal {n : Nat} {a : Act} {w : World} (h : wpOp P ops Q n (fun a' w' => Q .normal a' w') a w) : Q0 P ops Q n .normal a w := h
theorem wp_region_tail {S : World → Prop} {id n : Nat} {o : Oper} {a : Act} {w : World} (hm : P.follows .mixedOrders = true) (hsz : ops.size = n + 1) (hs : Region.sinkB .any ops n = true) (hc : Region.chainB .any ops n = true) (hu : upB ops = true) (ho : ops[n]? = some o) (hdst : o.dst = none)
    (h : wpAnyH P .any (ops.setIfInBounds n (dum o)) (Q0 P ops Q n) S ops.size (Array.replicate ops.size false) a { w with drawn := w.drawn + 1 }) : (Code.region id ops true).wp P Q a w :=
  wp_region_sink (ops' := ops.setIfInBounds n (dum o)) (Q0 := Q0 P ops Q n) (R := fun a w => wpOp P ops Q n (fun a' w' => Q .normal a' w') a w) hm hsz hs hc hu (ready_dum ho) (fun j hj => getElem_dum (by omega)) (yielded_dum ho hdst) (fun _ _ h => h) (fun _ _ _ h => h) (fun h => h) (fun K a w => wpOp_dum ho K a w) (fun _ _ h => h) h
/-- A call of a Go function comes up. -/
theorem wpOp_call {i : Nat} {o : Oper} {f : FuncId} {vals : Array Value} {K : Act → World → Prop} {a : Act} {w : World} (ho : ops[i]? = some o) (hg : o.guard = none) (hop : (execOp a.eval o).run P w = .ok (.enter f vals) w)
    (h : Calls P f vals w fun e w' => ∃ v, e = .returned v ∧ K (a.put o.dst v) w') : wpOp P ops Q i K a w := by
  unfold wpOp
  rw [ho]
  simp only
  rw [if_pos (by simp [Region.wanted, hg])]
  left
  unfold Oper.wp
  rw [hop]
  exact Calls.mono h fun e w' ⟨v, he, hk⟩ => by subst he; exact hk
end
end Go.Proofs.YticpjdjdimpglaaGreatDoor
