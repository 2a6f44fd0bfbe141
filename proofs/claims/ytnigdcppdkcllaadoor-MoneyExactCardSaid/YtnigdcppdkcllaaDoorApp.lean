/- Laws over any program: append of a slice, or of a string, onto a slice of the call's own. -/
import Derived.Test.YtnigdcppdkcllaaDoorOwn
import Derived.Laws.OwnMore
import Derived.Lib.AppendStr
namespace Go.Proofs.YtnigdcppdkcllaaDoor
set_option linter.unusedVariables false
set_option linter.unusedSimpArgs false
open Go.RowKit

section
variable {P : Program} {ops : Array Oper} {rest : List Oper} {o : Oper} {a : Act} {w : World} {Q : Exit → Act → World → Prop}
theorem run_app_none (base : Nat) (t ty e : TypeId) (i : TypeInfo) (size : Nat) (ht : P.underlying t = some (.slice e)) (hi : P.info? e = some i)
    (v : Value) (n c : Nat) (xs : List Value) (hown : w.ownsRow base e size v n xs) :
    (Builtin.append_ #[t, t] ty #[v, .slice none 0 c]).run P w = .ok v w := by
  rcases hown.2 with ⟨rfl, rfl⟩ | ⟨g, cap, cur, rfl, _, _, hnc, _⟩
  · simp [Builtin.append_, run_underlying ht, sizeOf, typeInfo, hi, Builtin.lenOf, Builtin.firstCells]
  · simp [Builtin.append_, run_underlying ht, sizeOf, typeInfo, hi, Builtin.lenOf, Builtin.firstCells, hnc, storeCells]
theorem wp_app {K : Act → World → Prop} {t e : TypeId} {size bytes : Nat} (E : Elem P t e size bytes) (s x : Operand)
    (ho : o.op = .call { callee := .builtin .append, args := #[s, x], argTypes := #[t, t] })
    (B : Nat) (A : Option Addr) (n c : Nat) (xs : List Value) (hs : a.eval s = .slice A n c) (hown : w.ownsRow B e size (.slice A n c) n xs)
    (B' : Nat) (X : Option Addr) (m c' : Nat) (hx : a.eval x = .slice X m c') (news : List Value) (hr : Rd w B' size X m c' news) (h1 : ∀ u ∈ news, u.oneCell' = true)
    (hbytes : (n + m) * bytes ≤ 140737488355328) (h63 : n + m ≤ 9223372036854775807) (hbase : B ≤ w.heap.size)
    (h : ∀ A' c' w', w'.ownsRow B e size (.slice A' (n + m) c') (n + m) (xs ++ news) → Below B w w' → w.grownBy w' (Value.slice A n c).ownBlock → K (a.put o.dst (.slice A' (n + m) c')) w') : o.wp P a w K Q := by
  obtain ⟨i, z, hi, hz, hsize, hby, hzs⟩ := E.info
  rcases X with _ | ad
  · have hm : m = 0 := by
      rcases Nat.eq_zero_or_pos m with h0 | h0
      · exact h0
      · obtain ⟨b, off, e, _⟩ := hr.cells h0
        cases e
    subst hm
    have hn : news = [] := List.eq_nil_of_length_eq_zero (by have := hr.len; simpa using this)
    subst hn
    have hrun := run_app_none (P := P) B t o.type e i size E.ht hi _ n c' xs hown
    unfold Oper.wp execOp
    simp only [ho, resolve, invoke, builtin, Sem.run_bind, Sem.run_pure, Result.andThen_ok, List.map_toArray, List.map_cons, List.map_nil, hs, hx, hrun]
    exact h A c w (by simpa using hown) (Below.refl _ _) ⟨rfl, rfl, rfl, Nat.le_refl _, fun _ _ _ => rfl⟩
  · refine wp_append_own w s x t ho B e i z size bytes E.ht hi hz hsize hby hzs E.pos _ n xs hs hown ad m c' news hx hr.len (fun j u hj => ?_) h1 h63 hbytes hbase ?_
    · have h0 : 0 < m := by
        rcases Nat.eq_zero_or_pos m with h0 | h0
        · have hl := hr.len
          rw [h0, Nat.zero_mul] at hl
          rw [List.eq_nil_of_length_eq_zero hl] at hj
          cases hj
        · exact h0
      obtain ⟨b, off, e, _, hc⟩ := hr.cells h0
      injection e with e
      subst e
      have hadd : (⟨b, off, none⟩ : Addr).add j = ⟨b, off + j, none⟩ := by unfold Addr.add; split <;> simp_all
      rw [hadd]
      exact hc j u hj
    · intro v' w' hown' hg _
      obtain ⟨A', c', rfl⟩ := own_shape hown'
      exact h A' c' w' hown' ((Below.refl B w).grown hg hbase (fun k hk => (hown.lt k hk).1)) hg
theorem wpList_app {t e : TypeId} {size bytes : Nat} (E : Elem P t e size bytes) (hgd : o.guard = none) (s x : Operand)
    (ho : o.op = .call { callee := .builtin .append, args := #[s, x], argTypes := #[t, t] })
    (B : Nat) (A : Option Addr) (n c : Nat) (xs : List Value) (hs : a.eval s = .slice A n c) (hown : w.ownsRow B e size (.slice A n c) n xs)
    (B' : Nat) (X : Option Addr) (m c' : Nat) (hx : a.eval x = .slice X m c') (news : List Value) (hr : Rd w B' size X m c' news) (h1 : ∀ u ∈ news, u.oneCell' = true)
    (hbytes : (n + m) * bytes ≤ 140737488355328) (h63 : n + m ≤ 9223372036854775807) (hbase : B ≤ w.heap.size)
    (h : ∀ A' c' w', w'.ownsRow B e size (.slice A' (n + m) c') (n + m) (xs ++ news) → Below B w w' → w.grownBy w' (Value.slice A n c).ownBlock → wpList P ops Q rest (a.put o.dst (.slice A' (n + m) c')) w') : wpList P ops Q (o :: rest) a w :=
  wpList_plain hgd fun _ hK => wp_app E s x ho B A n c xs hs hown B' X m c' hx news hr h1 hbytes h63 hbase fun A' c' w' h2 h3 h4 => hK _ _ (h A' c' w' h2 h3 h4)
theorem step_app {K : Act → World → Prop} {F : Prop} {t e : TypeId} {size bytes : Nat} (E : Elem P t e size bytes) (hgd : o.guard = none) (s x : Operand)
    (ho : o.op = .call { callee := .builtin .append, args := #[s, x], argTypes := #[t, t] })
    (B : Nat) (A : Option Addr) (n c : Nat) (xs : List Value) (hs : a.eval s = .slice A n c) (hown : w.ownsRow B e size (.slice A n c) n xs)
    (B' : Nat) (X : Option Addr) (m c' : Nat) (hx : a.eval x = .slice X m c') (news : List Value) (hr : Rd w B' size X m c' news) (h1 : ∀ u ∈ news, u.oneCell' = true)
    (hbytes : (n + m) * bytes ≤ 140737488355328) (h63 : n + m ≤ 9223372036854775807) (hbase : B ≤ w.heap.size)
    (h : ∀ A' c' w', w'.ownsRow B e size (.slice A' (n + m) c') (n + m) (xs ++ news) → Below B w w' → w.grownBy w' (Value.slice A n c).ownBlock → K (a.put o.dst (.slice A' (n + m) c')) w') :
    if Region.wanted o (yielded ops a.tmps) = true then Oper.wp P o a w K Q else F := by
  have hw : Region.wanted o (yielded ops a.tmps) = true := by simp [Region.wanted, hgd]
  rw [if_pos hw]
  exact wp_app E s x ho B A n c xs hs hown B' X m c' hx news hr h1 hbytes h63 hbase h
theorem vb_one (l : List UInt8) : ∀ u ∈ l.map vb, u.oneCell' = true := by
  intro u hu
  obtain ⟨c, _, rfl⟩ := List.mem_map.1 hu
  rfl
/-- append(b, s...) for a string. -/
theorem wpList_app_str {t u e : TypeId} (hi : (P.info? e).map (fun i => (i.zero, i.size, i.bytes)) = some (some (.int .u8 0), 1, 1)) (ht : P.underlying t = some (.slice e)) (hu : P.underlying u = some .string) (hgd : o.guard = none) (s x : Operand)
    (ho : o.op = .call { callee := .builtin .append, args := #[s, x], argTypes := #[t, u] })
    (B : Nat) (A : Option Addr) (n c : Nat) (xs : List Value) (hs : a.eval s = .slice A n c) (hown : w.ownsRow B e 1 (.slice A n c) n xs)
    (l : List UInt8) (hx : a.eval x = .string (bs l)) (hbytes : n + l.length ≤ 140737488355328) (hbase : B ≤ w.heap.size)
    (h : ∀ A' c' w', w'.ownsRow B e 1 (.slice A' (n + l.length) c') (n + l.length) (xs ++ l.map vb) → Below B w w' → w.grownBy w' (Value.slice A n c).ownBlock → wpList P ops Q rest (a.put o.dst (.slice A' (n + l.length) c')) w') : wpList P ops Q (o :: rest) a w := by
  obtain ⟨i, h1, h2, h3, h4⟩ := info_parts hi
  refine Lib.wpList_append_own_string w hgd s x t u ho B e i ht hu h1 h2 h3 h4 _ n xs hs hown (bs l) hx (by rw [bs_size]; unfold maxLen; omega) (by rw [bs_size]; omega) hbase ?_
  intro v' w' hown' hg _
  obtain ⟨A', c', rfl⟩ := own_shape hown'
  have e1 : Lib.strCells (bs l) = l.map vb := by
    simp [Lib.strCells, bs, vb]
  rw [e1] at hown'
  exact h A' c' w' hown' ((Below.refl B w).grown hg hbase (fun k hk => (hown.lt k hk).1)) hg
end
end Go.Proofs.YtnigdcppdkcllaaDoor
