/- The reference's Cores by its contract. -/
import Derived.Test.YticpjdjdimpglaaGreatDoorCTisMTRow
import Derived.Test.YticpjdjdimpglaaGreatDoorCTisMNor
import Derived.Test.YticpjdjdimpglaaGreatDoorCTisMWText3
import Derived.Test.YticpjdjdimpglaaGreatDoorCTisMFRules
import Derived.Deep.RegionLaw
namespace Go.Proofs.YticpjdjdimpglaaGreatDoor
set_option linter.unusedVariables false
set_option linter.unusedSimpArgs false
open Go.RowKit
section
variable {P : Program} {ops : Array Oper} {o : Oper} {a : Act} {w : World} {Q : Exit → Act → World → Prop}
theorem step_push_apart {K : Act → World → Prop} {F : Prop} {t e : TypeId} {size bytes : Nat} (E : Elem P t e size bytes) (hgd : o.guard = none) (s x : Operand)
    (ho : o.op = .call { callee := .builtin .append, args := #[s, x], argTypes := #[t, t] })
    (B : Nat) (A : Option Addr) (n c : Nat) (xs : List Value) (hs : a.eval s = .slice A n c) (hown : w.ownsRow B e size (.slice A n c) n xs)
    (g : Nat) (hx : a.eval x = .slice (some ⟨g, 0, none⟩) 1 1) (news : List Value) (hl : news.length = size) (hnews : ∀ j u, news[j]? = some u → w.cell? ⟨g, j, none⟩ = some u) (h1 : ∀ u ∈ news, u.oneCell' = true)
    (hbytes : (n + 1) * bytes ≤ 140737488355328) (h63 : n + 1 ≤ 9223372036854775807) (hbase : B ≤ w.heap.size)
    (h : ∀ A' c' w', w'.ownsRow B e size (.slice A' (n + 1) c') (n + 1) (xs ++ news) → Below B w w' → w.grownBy w' (Value.slice A n c).ownBlock → (∀ k, (Value.slice A' (n + 1) c').ownBlock = some k → (Value.slice A n c).ownBlock = some k ∨ w.heap.size ≤ k) → K (a.put o.dst (.slice A' (n + 1) c')) w') :
    if Region.wanted o (yielded ops a.tmps) = true then Oper.wp P o a w K Q else F := by
  have hw : Region.wanted o (yielded ops a.tmps) = true := by simp [Region.wanted, hgd]
  rw [if_pos hw]
  obtain ⟨v', w', hr, r1, r2, r3⟩ := run_push_apart (P := P) (w := w) E o.type B (.slice A n c) n xs hown ⟨g, 0, none⟩ 1 1 news (by omega) (fun j u hj => by
    have hadd : (⟨g, 0, none⟩ : Addr).add j = ⟨g, j, none⟩ := by unfold Addr.add; split <;> simp_all
    rw [hadd]
    exact hnews j u hj) h1 (by unfold maxLen; omega) hbytes hbase
  obtain ⟨A', c', rfl⟩ := own_shape r1
  unfold Oper.wp execOp
  simp only [ho, resolve, invoke, builtin, Sem.run_bind, Sem.run_pure, Result.andThen_ok, List.map_toArray, List.map_cons, List.map_nil, hs, hx, hr]
  exact h A' c' w' r1 ((Below.refl B w).grown r2 hbase (fun k hk => (hown.lt k hk).1)) r2 r3
end
theorem NSt.only {S So : Nat → Prop} {w0 wr W : World} {L : List CT} {A : Option Addr} {n c : Nat} (h : NSt S w0 wr L A n c) (ho : Only So wr W) (hn : ∀ k, So k → k < w0.heap.size) (hs : ∀ k, So k → S k) : NSt S w0 W L A n c := by
  obtain ⟨xs, h1, h2⟩ := h.row
  exact ⟨h.len, Nat.le_trans h.base ho.size, xs, own_only h1 ho (fun k hk he => by have h3 := (h1.lt k hk).1; have h4 := hn k he; omega), h2.only ho (fun k hk => .inl (hs k hk))⟩
end Go.Proofs.YticpjdjdimpglaaGreatDoor
