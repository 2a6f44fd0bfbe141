/- Laws over any program: append of a slice, or of a string, onto a slice of the call's own. -/
import Derived.Test.YtlgdmbdhffdenaaGreatDoorOwn
import Derived.Laws.OwnMore
import Derived.Lib.AppendStr
namespace Go.Proofs.YtlgdmbdhffdenaaGreatDoor
set_option linter.unusedVariables false
set_option linter.unusedSimpArgs false
open Go.RowKit

section
variable {P : Program} {ops : Array Oper} {rest : List Oper} {o : Oper} {a : Act} {w : World} {Q : Exit → Act → World → Prop}
theorem run_app_none (base : Nat) (t ty e : TypeId) (i : TypeInfo) (size : Nat) (ht : P.underlying t = some (.slice e)) (hi : P.info? e = some i)
    (v : Value) (n c : Nat) (xs : List Value) (hown : w.ownsRow base e size v n xs) :
    (Builtin.append_ #[t, t] ty #[v, .slice none 0 c]).run P w = .ok v w := by
  rcases hown.2 with ⟨rfl, rfl⟩ | ⟨g, cap, cur, rfl, _, _, hnc, _⟩
  · simp [Builtin.append_, run_underlying ht, sizeOf, typeInfo, hi, Builtin.lenOf, Builtin.firstCells]
  · simp [Builtin.append_, run_underlying ht, sizeOf, typeInfo, hi, Builtin.lenOf, Builtin.firstCells, hnc, storeCells]
theorem wp_app {K : Act → World → Prop} {t e : TypeId} {size bytes : Nat} (E : Elem P t e size bytes) (s x : Operand)
    (ho : o.op = .call { callee := .builtin .append, args := #[s, x], argTypes := #[t, t] })
    (B : Nat) (A : Option Addr) (n c : Nat) (xs : List Value) (hs : a.eval s = .slice A n c) (hown : w.ownsRow B e size (.slice A n c) n xs)
    (B' : Nat) (X : Option Addr) (m c' : Nat) (hx : a.eval x = .slice X m c') (news : List Value) (hr : Rd w B' size X m c' news) (h1 : ∀ u ∈ news, u.oneCell' = true)
    (hbytes : (n + m) * bytes ≤ 140737488355328) (h63 : n + m ≤ 9223372036854775807) (hbase : B ≤ w.heap.size)
    (h : ∀ A' c' w', w'.ownsRow B e size (.slice A' (n + m) c') (n + m) (xs ++ news) → Below B w w' → w.grownBy w' (Value.slice A n c).ownBlock → K (a.put o.dst (.slice A' (n + m) c')) w') : o.wp P a w K Q := by
  obtain ⟨i, z, hi, hz, hsize, hby, hzs⟩ := E.info
  rcases X with _ | ad
  · have hm : m = 0 := by
      rcases Nat.eq_zero_or_pos m with h0 | h0
      · exact h0
      · obtain ⟨b, off, e, _⟩ := hr.cells h0
        cases e
    subst hm
    have hn : news = [] := List.eq_nil_of_length_eq_zero (by have := hr.len; simpa using this)
    subst hn
    have hrun := run_app_none (P := P) B t o.type e i size E.ht hi _ n c' xs hown
    unfold Oper.wp execOp
    simp only [ho, resolve, invoke, builtin, Sem.run_bind, Sem.run_pure, Result.andThen_ok, List.map_toArray, List.map_cons, List.map_nil, hs, hx, hrun]
    exact h A c w (by simpa using hown) (Below.refl _ _) ⟨rfl, rfl, rfl, Nat.le_refl _, fun _ _ _ => rfl⟩
  · refine wp_append_own w s x t ho B e i z size bytes E.ht hi hz hsize hby hzs E.pos _ n xs hs hown ad m c' news hx hr.len (fun j u hj => ?_) h1 h63 hbytes hbase ?_
    · have h0 : 0 < m := by
        rcases Nat.eq_zero_or_pos m with h0 | h0
        · have hl := hr.len
          rw [h0, Nat.zero_mul] at hl
          rw [List.eq_nil_of_length_eq_zero hl] at hj
          cases hj
        · exact h0
      obtain ⟨b, off, e, _, hc⟩ := hr.cells h0
      injection e with e
      subst e
      have hadd : (⟨b, off, none⟩ : Addr).add j = ⟨b, off + j, none⟩ := by unfold Addr.add; split <;> simp_all
      rw [hadd]
      exact hc j u hj
    · intro v' w' hown' hg _
      obtain ⟨A', c', rfl⟩ := own_shape hown'
      exact h A' c' w' hown' ((Below.refl B w).grown hg hbase (fun k hk => (hown.lt k hk).1)) hg
theorem wpList_app {t e : TypeId} {size bytes : Nat} (E : Elem P t e size bytes) (hgd : o.guard = none) (s x : Operand)
    (ho : o.op = .call { callee := .builtin .append, args := #[s, x], argTypes := #[t, t] })
    (B : Nat) (A : Option Addr) (n c : Nat) (xs : List Value) (hs : a.eval s = .slice A n c) (hown : w.ownsRow B e size (.slice A n c) n xs)
    (B' : Nat) (X : Option Addr) (m c' : Nat) (hx : a.eval x = .slice X m c') (news : List Value) (hr : Rd w B' size X m c' news) (h1 : ∀ u ∈ news, u.oneCell' = true)
    (hbytes : (n + m) * bytes ≤ 140737488355328) (h63 : n + m ≤ 9223372036854775807) (hbase : B ≤ w.heap.size)
    (h : ∀ A' c' w', w'.ownsRow B e size (.slice A' (n + m) c') (n + m) (xs ++ news) → Below B w w' → w.grownBy w' (Value.slice A n c).ownBlock → wpList P ops Q rest (a.put o.dst (.slice A' (n + m) c')) w') : wpList P ops Q (o :: rest) a w :=
  wpList_plain hgd fun _ hK => wp_app E s x ho B A n c xs hs hown B' X m c' hx news hr h1 hbytes h63 hbase fun A' c' w' h2 h3 h4 => hK _ _ (h A' c' w' h2 h3 h4)
theorem step_app {K : Act → World → Prop} {F : Prop} {t e : TypeId} {size bytes : Nat} (E : Elem P t e size bytes) (hgd : o.guard = none) (s x : Operand)
    (ho : o.op = .call { callee := .builtin .append, args := #[s, x], argTypes := #[t, t] })
    (B : Nat) (A : Option Addr) (n c : Nat) (xs : List Value) (hs : a.eval s = .slice A n c) (hown : w.ownsRow B e size (.slice A n c) n xs)
    (B' : Nat) (X : Option Addr) (m c' : Nat) (hx : a.eval x = .slice X m c') (news : List Value) (hr : Rd w B' size X m c' news) (h1 : ∀ u ∈ news, u.oneCell' = true)
    (hbytes : (n + m) * bytes ≤ 140737488355328) (h63 : n + m ≤ 9223372036854775807) (hbase : B ≤ w.heap.size)
    (h : ∀ A' c' w', w'.ownsRow B e size (.slice A' (n + m) c') (n + m) (xs ++ news) → Below B w w' → w.grownBy w' (Value.slice A n c).ownBlock → K (a.put o.dst (.slice A' (n + m) c')) w') :
    if Region.wanted o (yielded ops a.tmps) = true then Oper.wp P o a w K Q else F := by
  have hw : Region.wanted o (yielded ops a.tmps) = true := by simp [Region.wanted, hgd]
  rw [if_pos hw]
  exact wp_app E s x ho B A n c xs hs hown B' X m c' hx news hr h1 hbytes h63 hbase h
theorem vb_one (l : List UInt8) : ∀ u ∈ l.map vb, u.oneCell' = true := by
  intro u hu
  obtain ⟨c, _, rfl⟩ := List.mem_map.1 hu
  rfl
/-- append(b, s...) for a string. -/
theorem wpList_app_str {t u e : TypeId} (hi : (P.info? e).map (fun i => (i.zero, i.size, i.bytes)) = some (some (.int .u8 0), 1, 1)) (ht : P.underlying t = some (.slice e)) (hu : P.underlying u = some .string) (hgd : o.guard = none) (s x : Operand)
    (ho : o.op = .call { callee := .builtin .append, args := #[s, x], argTypes := #[t, u] })
    (B : Nat) (A : Option Addr) (n c : Nat) (xs : List Value) (hs : a.eval s = .slice A n c) (hown : w.ownsRow B e 1 (.slice A n c) n xs)
    (l : List UInt8) (hx : a.eval x = .string (bs l)) (hbytes : n + l.length ≤ 140737488355328) (hbase : B ≤ w.heap.size)
    (h : ∀ A' c' w', w'.ownsRow B e 1 (.slice A' (n + l.length) c') (n + l.length) (xs ++ l.map vb) → Below B w w' → w.grownBy w' (Value.slice A n c).ownBlock → wpList P ops Q rest (a.put o.dst (.slice A' (n + l.length) c')) w') : wpList P ops Q (o :: rest) a w := by
  obtain ⟨i, h1, h2, h3, h4⟩ := info_parts hi
  refine Lib.wpList_append_own_string w hgd s x t u ho B e i ht hu h1 h2 h3 h4 _ n xs hs hown (bs l) hx (by rw [bs_size]; unfold maxLen; omega) (by rw [bs_size]; omega) hbase ?_
  intro v' w' hown' hg _
  obtain ⟨A', c', rfl⟩ := own_shape hown'
  have e1 : Lib.strCells (bs l) = l.map vb := by
    simp [Lib.strCells, bs, vb]
  rw [e1] at hown'
  exact h A' c' w' hown' ((Below.refl B w).grown hg hbase (fun k hk => (hown.lt k hk).1)) hg
end
end Go.Proofs.YtlgdmbdhffdenaaGreatDoor

/- Law over any program: append onto a slice of the call's own lands in its own block or in a new one. -/
namespace Go.Proofs.YtlgdmbdhffdenaaGreatDoor
set_option linter.unusedVariables false
set_option linter.unusedSimpArgs false
open Go.RowKit

section
variable {P : Program} {ops : Array Oper} {rest : List Oper} {o : Oper} {a : Act} {w : World} {Q : Exit → Act → World → Prop}
theorem run_push_apart {t e : TypeId} {size bytes : Nat} (E : Elem P t e size bytes) (ty : TypeId) (B : Nat) (v : Value) (n : Nat) (xs : List Value) (hown : w.ownsRow B e size v n xs)
    (ad : Addr) (m c : Nat) (news : List Value) (hl : news.length = m * size) (hnews : ∀ j u, news[j]? = some u → w.cell? (ad.add j) = some u) (h1 : ∀ u ∈ news, u.oneCell' = true)
    (h63 : n + m ≤ maxLen) (hbytes : (n + m) * bytes ≤ 140737488355328) (hbase : B ≤ w.heap.size) :
    ∃ v' w', (Builtin.append_ #[t, t] ty #[v, .slice (some ad) m c]).run P w = .ok v' w' ∧ w'.ownsRow B e size v' (n + m) (xs ++ news) ∧ w.grownBy w' v.ownBlock ∧
      (∀ k, v'.ownBlock = some k → v.ownBlock = some k ∨ w.heap.size ≤ k) := by
  obtain ⟨i, z, hi, hz, hsize, hby, hzs⟩ := E.info
  obtain ⟨v', w', hr, r1, r2, r3⟩ := run_append_own (P := P) w B t ty e i z size bytes E.ht hi hz hsize hby hzs E.pos v n xs hown ad m c news hl hnews h1 h63 hbytes hbase
  refine ⟨v', w', hr, r1, r2, ?_⟩
  subst hsize
  subst hby
  have hsmall : n + m ≤ 9223372036854775807 := by simp only [maxLen] at h63; omega
  have key : ∀ v2 w2, (Builtin.append_ #[t, t] ty #[v, .slice (some ad) m c]).run P w = .ok v2 w2 → v' = v2 := fun v2 w2 h => by
    rw [hr] at h
    injection h
  rcases hown.2 with ⟨rfl, rfl⟩ | ⟨g, cap, cur, rfl, hbg, hg, hnc, hcm, hcs, htake⟩
  · by_cases hm : m = 0
    · have := r3.2 ⟨rfl, hm⟩
      subst this
      intro k hk
      simp [Value.ownBlock] at hk
    · have h := key _ _ (run_append_nil (P := P) w t ty e i z E.ht hi hz ad m c news hl hnews (by omega) (by omega) (by have hb := hbytes; simp only [Nat.zero_add] at hb; omega))
      subst h
      intro k hk
      right
      simp [Value.ownBlock] at hk
      omega
  · by_cases hroom : n + m ≤ cap
    · have hfit : n * i.size + news.length ≤ cur.size := by rw [hl, hcs, ← Nat.add_mul]; exact Nat.mul_le_mul_right _ hroom
      have h := key _ _ (run_append_room (P := P) w t ty e i E.ht hi g n cap cur hg ad m c news hl hnews h1 hroom hfit)
      subst h
      intro k hk
      left
      simpa [Value.ownBlock] using hk
    · have holds : ∀ j u, xs[j]? = some u → w.cell? ((⟨g, 0, none⟩ : Addr).add j) = some u := hown.cells (g := g) rfl
      have h := key _ _ (run_append_grow (P := P) w t ty e i z E.ht hi hz ⟨g, 0, none⟩ n cap xs hown.1 holds ad m c news hl hnews (by omega) (by omega) (growslice_fits (by omega) hbytes))
      subst h
      intro k hk
      right
      simp [Value.ownBlock] at hk
      omega
theorem wpList_push_apart {t e : TypeId} {size bytes : Nat} (E : Elem P t e size bytes) (hgd : o.guard = none) (s x : Operand)
    (ho : o.op = .call { callee := .builtin .append, args := #[s, x], argTypes := #[t, t] })
    (B : Nat) (A : Option Addr) (n c : Nat) (xs : List Value) (hs : a.eval s = .slice A n c) (hown : w.ownsRow B e size (.slice A n c) n xs)
    (g : Nat) (hx : a.eval x = .slice (some ⟨g, 0, none⟩) 1 1) (news : List Value) (hl : news.length = size) (hnews : ∀ j u, news[j]? = some u → w.cell? ⟨g, j, none⟩ = some u) (h1 : ∀ u ∈ news, u.oneCell' = true)
    (hbytes : (n + 1) * bytes ≤ 140737488355328) (h63 : n + 1 ≤ 9223372036854775807) (hbase : B ≤ w.heap.size)
    (h : ∀ A' c' w', w'.ownsRow B e size (.slice A' (n + 1) c') (n + 1) (xs ++ news) → Below B w w' → w.grownBy w' (Value.slice A n c).ownBlock → (∀ k, (Value.slice A' (n + 1) c').ownBlock = some k → (Value.slice A n c).ownBlock = some k ∨ w.heap.size ≤ k) → wpList P ops Q rest (a.put o.dst (.slice A' (n + 1) c')) w') : wpList P ops Q (o :: rest) a w :=
  wpList_plain hgd fun _ hK => by
    obtain ⟨v', w', hr, r1, r2, r3⟩ := run_push_apart (P := P) (w := w) E o.type B (.slice A n c) n xs hown ⟨g, 0, none⟩ 1 1 news (by omega) (fun j u hj => by
      have hadd : (⟨g, 0, none⟩ : Addr).add j = ⟨g, j, none⟩ := by unfold Addr.add; split <;> simp_all
      rw [hadd]
      exact hnews j u hj) h1 (by unfold maxLen; omega) hbytes hbase
    obtain ⟨A', c', rfl⟩ := own_shape r1
    unfold Oper.wp execOp
    simp only [ho, resolve, invoke, builtin, Sem.run_bind, Sem.run_pure, Result.andThen_ok, List.map_toArray, List.map_cons, List.map_nil, hs, hx, hr]
    exact hK _ _ (h A' c' w' r1 ((Below.refl B w).grown r2 hbase (fun k hk => (hown.lt k hk).1)) r2 r3)
end
end Go.Proofs.YtlgdmbdhffdenaaGreatDoor
