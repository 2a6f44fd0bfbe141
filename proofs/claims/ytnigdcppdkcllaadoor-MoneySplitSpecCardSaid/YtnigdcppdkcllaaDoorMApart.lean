/- Law over any program: append onto a slice of the call's own lands in its own block or in a new one. -/
import Derived.Test.YtnigdcppdkcllaaDoorApp
namespace Go.Proofs.YtnigdcppdkcllaaDoor
set_option linter.unusedVariables false
set_option linter.unusedSimpArgs false
open Go.RowKit

section
variable {P : Program} {ops : Array Oper} {rest : List Oper} {o : Oper} {a : Act} {w : World} {Q : Exit → Act → World → Prop}
theorem run_push_apart {t e : TypeId} {size bytes : Nat} (E : Elem P t e size bytes) (ty : TypeId) (B : Nat) (v : Value) (n : Nat) (xs : List Value) (hown : w.ownsRow B e size v n xs)
    (ad : Addr) (m c : Nat) (news : List Value) (hl : news.length = m * size) (hnews : ∀ j u, news[j]? = some u → w.cell? (ad.add j) = some u) (h1 : ∀ u ∈ news, u.oneCell' = true)
    (h63 : n + m ≤ maxLen) (hbytes : (n + m) * bytes ≤ 140737488355328) (hbase : B ≤ w.heap.size) :
    ∃ v' w', (Builtin.append_ #[t, t] ty #[v, .slice (some ad) m c]).run P w = .ok v' w' ∧ w'.ownsRow B e size v' (n + m) (xs ++ news) ∧ w.grownBy w' v.ownBlock ∧
      (∀ k, v'.ownBlock = some k → v.ownBlock = some k ∨ w.heap.size ≤ k) := by
  obtain ⟨i, z, hi, hz, hsize, hby, hzs⟩ := E.info
  obtain ⟨v', w', hr, r1, r2, r3⟩ := run_append_own (P := P) w B t ty e i z size bytes E.ht hi hz hsize hby hzs E.pos v n xs hown ad m c news hl hnews h1 h63 hbytes hbase
  refine ⟨v', w', hr, r1, r2, ?_⟩
  subst hsize
  subst hby
  have hsmall : n + m ≤ 9223372036854775807 := by simp only [maxLen] at h63; omega
  have key : ∀ v2 w2, (Builtin.append_ #[t, t] ty #[v, .slice (some ad) m c]).run P w = .ok v2 w2 → v' = v2 := fun v2 w2 h => by
    rw [hr] at h
    injection h
  rcases hown.2 with ⟨rfl, rfl⟩ | ⟨g, cap, cur, rfl, hbg, hg, hnc, hcm, hcs, htake⟩
  · by_cases hm : m = 0
    · have := r3.2 ⟨rfl, hm⟩
      subst this
      intro k hk
      simp [Value.ownBlock] at hk
    · have h := key _ _ (run_append_nil (P := P) w t ty e i z E.ht hi hz ad m c news hl hnews (by omega) (by omega) (by have hb := hbytes; simp only [Nat.zero_add] at hb; omega))
      subst h
      intro k hk
      right
      simp [Value.ownBlock] at hk
      omega
  · by_cases hroom : n + m ≤ cap
    · have hfit : n * i.size + news.length ≤ cur.size := by rw [hl, hcs, ← Nat.add_mul]; exact Nat.mul_le_mul_right _ hroom
      have h := key _ _ (run_append_room (P := P) w t ty e i E.ht hi g n cap cur hg ad m c news hl hnews h1 hroom hfit)
      subst h
      intro k hk
      left
      simpa [Value.ownBlock] using hk
    · have holds : ∀ j u, xs[j]? = some u → w.cell? ((⟨g, 0, none⟩ : Addr).add j) = some u := hown.cells (g := g) rfl
      have h := key _ _ (run_append_grow (P := P) w t ty e i z E.ht hi hz ⟨g, 0, none⟩ n cap xs hown.1 holds ad m c news hl hnews (by omega) (by omega) (growslice_fits (by omega) hbytes))
      subst h
      intro k hk
      right
      simp [Value.ownBlock] at hk
      omega
theorem wpList_push_apart {t e : TypeId} {size bytes : Nat} (E : Elem P t e size bytes) (hgd : o.guard = none) (s x : Operand)
    (ho : o.op = .call { callee := .builtin .append, args := #[s, x], argTypes := #[t, t] })
    (B : Nat) (A : Option Addr) (n c : Nat) (xs : List Value) (hs : a.eval s = .slice A n c) (hown : w.ownsRow B e size (.slice A n c) n xs)
    (g : Nat) (hx : a.eval x = .slice (some ⟨g, 0, none⟩) 1 1) (news : List Value) (hl : news.length = size) (hnews : ∀ j u, news[j]? = some u → w.cell? ⟨g, j, none⟩ = some u) (h1 : ∀ u ∈ news, u.oneCell' = true)
    (hbytes : (n + 1) * bytes ≤ 140737488355328) (h63 : n + 1 ≤ 9223372036854775807) (hbase : B ≤ w.heap.size)
    (h : ∀ A' c' w', w'.ownsRow B e size (.slice A' (n + 1) c') (n + 1) (xs ++ news) → Below B w w' → w.grownBy w' (Value.slice A n c).ownBlock → (∀ k, (Value.slice A' (n + 1) c').ownBlock = some k → (Value.slice A n c).ownBlock = some k ∨ w.heap.size ≤ k) → wpList P ops Q rest (a.put o.dst (.slice A' (n + 1) c')) w') : wpList P ops Q (o :: rest) a w :=
  wpList_plain hgd fun _ hK => by
    obtain ⟨v', w', hr, r1, r2, r3⟩ := run_push_apart (P := P) (w := w) E o.type B (.slice A n c) n xs hown ⟨g, 0, none⟩ 1 1 news (by omega) (fun j u hj => by
      have hadd : (⟨g, 0, none⟩ : Addr).add j = ⟨g, j, none⟩ := by unfold Addr.add; split <;> simp_all
      rw [hadd]
      exact hnews j u hj) h1 (by unfold maxLen; omega) hbytes hbase
    obtain ⟨A', c', rfl⟩ := own_shape r1
    unfold Oper.wp execOp
    simp only [ho, resolve, invoke, builtin, Sem.run_bind, Sem.run_pure, Result.andThen_ok, List.map_toArray, List.map_cons, List.map_nil, hs, hx, hr]
    exact hK _ _ (h A' c' w' r1 ((Below.refl B w).grown r2 hbase (fun k hk => (hown.lt k hk).1)) r2 r3)
end
end Go.Proofs.YtnigdcppdkcllaaDoor
