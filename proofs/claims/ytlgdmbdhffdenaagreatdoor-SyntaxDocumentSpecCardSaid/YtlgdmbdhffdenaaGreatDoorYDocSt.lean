/- What the parser's Document holds in memory between two rounds. -/
import Derived.Test.YtlgdmbdhffdenaaGreatDoorYAtt2
import Derived.Test.YtlgdmbdhffdenaaGreatDoorPE
namespace Go.Proofs.YtlgdmbdhffdenaaGreatDoor
set_option linter.unusedVariables false
set_option linter.unusedSimpArgs false
open Go.RowKit

theorem elemRules : Elem Tryz.prog 39 28 6 88 := Elem.mk' Tryz.underlying39 (z := .agg #[.string ⟨#[]⟩, .int .i64 0, .int .i64 0, .int .i64 0, .slice none 0 0, .slice none 0 0]) (by kernel_rfl) rfl (by omega)
/-- Rules in a row. -/
def RepL (S : Nat → Prop) (w : World) : List RT → List Value → Prop
  | [], xs => xs = []
  | r :: l, xs => ∃ A m c A' m' c' zs, xs = .string (bs r.name) :: .int .i64 r.win :: .int .i64 r.draw :: .int .i64 r.loss :: .slice A m c :: .slice A' m' c' :: zs ∧ RepT S w r.order A m c ∧ RepZ S w r.zones A' m' c' ∧ RepL S w l zs
section
variable {S S' : Nat → Prop} {w w' : World}
theorem RepL.only (ho : Only S' w w') (hs : ∀ k, S' k → S k) : ∀ {l : List RT} {xs : List Value}, RepL S w l xs → RepL S w' l xs
  | [], _, h => h
  | _ :: _, _, h => by
    obtain ⟨A, m, c, A', m', c', zs, e, h1, h2, h3⟩ := h
    exact ⟨A, m, c, A', m', c', zs, e, h1.only ho hs, h2.only ho hs, RepL.only ho hs h3⟩
theorem RepL.sub (hs : ∀ k, S' k → S k) : ∀ {l : List RT} {xs : List Value}, RepL S w l xs → RepL S' w l xs
  | [], _, h => h
  | _ :: _, _, h => by
    obtain ⟨A, m, c, A', m', c', zs, e, h1, h2, h3⟩ := h
    exact ⟨A, m, c, A', m', c', zs, e, h1.sub hs, h2.sub hs, RepL.sub hs h3⟩
theorem RepL.new : ∀ {l : List RT} {xs : List Value}, RepL S w l xs → RepL (fun k => S k ∨ w.heap.size ≤ k) w l xs
  | [], _, h => h
  | _ :: _, _, h => by
    obtain ⟨A, m, c, A', m', c', zs, e, h1, h2, h3⟩ := h
    exact ⟨A, m, c, A', m', c', zs, e, h1.new, h2.new, RepL.new h3⟩
theorem RepL.app : ∀ {l l' : List RT} {xs ys : List Value}, RepL S w l xs → RepL S w l' ys → RepL S w (l ++ l') (xs ++ ys)
  | [], _, _, _, h, k => by rw [show _ = [] from h]; exact k
  | _ :: _, _, _, _, h, k => by
    obtain ⟨A, m, c, A', m', c', zs, rfl, h1, h2, h3⟩ := h
    exact ⟨A, m, c, A', m', c', zs ++ _, rfl, h1, h2, RepL.app h3 k⟩
end

/-- A row of problems that may be written: the call's own, or one of the call's own that is cut to its length. -/
def BRow (w : World) (base base2 : Nat) (A : Option Addr) (n c : Nat) (P : List Prob) : Prop :=
  w.ownsRow base2 49 2 (.slice A n c) n (P.flatMap probCells) ∨
  (c = n ∧ n ≤ 1000000 ∧ ∃ (b : Nat) (cur : Array Value), A = some ⟨b, 0, none⟩ ∧ base ≤ b ∧ Blk w b 49 cur ∧ (P.flatMap probCells).length = n * 2 ∧ ∀ (j : Nat) (u : Value), (P.flatMap probCells)[j]? = some u → cur[j]? = some u)
section
variable {w w' : World} {base base2 n c : Nat} {A : Option Addr} {P : List Prob}
theorem BRow.lt (h : BRow w base base2 A n c P) (h2 : base ≤ base2) : ∀ k, (Value.slice A n c).ownBlock = some k → base ≤ k ∧ k < w.heap.size := by
  rcases h with h | ⟨_, _, b, cur, rfl, hb, hB, _⟩
  · exact fun k hk => ⟨Nat.le_trans h2 (h.lt k hk).1, (h.lt k hk).2⟩
  · intro k hk
    have : b = k := by simpa [Value.ownBlock] using hk
    subst this
    exact ⟨hb, hB.lt⟩
theorem BRow.only {S : Nat → Prop} (h : BRow w base base2 A n c P) (ho : Only S w w') (hn : ∀ k, (Value.slice A n c).ownBlock = some k → ¬ S k) : BRow w' base base2 A n c P := by
  rcases h with h | ⟨h1, h0, b, cur, rfl, hb, hB, h2, h3⟩
  · exact .inl (own_only h ho hn)
  · exact .inr ⟨h1, h0, b, cur, rfl, hb, hB.only ho (hn b rfl), h2, h3⟩
theorem BRow.below (h : BRow w base base2 A n c P) (hb : Below w.heap.size w w') : BRow w' base base2 A n c P := h.only (S := fun _ => False) (Only.of_below hb) (fun _ _ h => h)
theorem BRow.len (h : BRow w base base2 A n c P) : n = P.length := by
  have : (P.flatMap probCells).length = n * 2 := by
    rcases h with h | ⟨_, _, _, _, _, _, _, h2, _⟩
    · exact h.1
    · exact h2
  rw [flatMap_len probCells 2 prob_len] at this
  omega
/-- .. is no block of another type. -/
theorem BRow.ne {g : Nat} {t : TypeId} {cs : Array Value} (h : BRow w base base2 A n c P) (hb : Blk w g t cs) (hne : t ≠ 49) : ∀ k, (Value.slice A n c).ownBlock = some k → k ≠ g := by
  rcases h with h | ⟨_, _, b, cur, rfl, _, hB, _⟩
  · exact own_ne h hb (Ne.symm hne)
  · intro k hk
    have : b = k := by simpa [Value.ownBlock] using hk
    subst this
    exact hB.ne hb (Ne.symm hne)
theorem BRow.rd (h : BRow w base base2 A n c P) : Rd w w.heap.size 2 A n c (P.flatMap probCells) := by
  rcases h with h | ⟨h1, h0, b, cur, rfl, hb, hB, h2, h3⟩
  · exact own_rd h
  · exact ⟨h2, by omega, by omega, fun _ => ⟨b, 0, rfl, hB.lt, fun j u hj => by rw [hB.cell, Nat.zero_add]; exact h3 j u hj⟩⟩
end
section
variable {P : Program} {ops : Array Oper} {rest : List Oper} {o : Oper} {a : Act} {w : World} {Q : Exit → Act → World → Prop}
/-- append onto a slice that is full: a new row. -/
theorem run_push_full {t e : TypeId} {size bytes : Nat} (E : Elem P t e size bytes) (ty : TypeId) (base : Nat) (b : Addr) (n : Nat) (xs : List Value) (hlo : xs.length = n * size) (holds : ∀ j v, xs[j]? = some v → w.cell? (b.add j) = some v)
    (ad : Addr) (news : List Value) (hl : news.length = size) (hnews : ∀ j u, news[j]? = some u → w.cell? (ad.add j) = some u) (h63 : n + 1 ≤ 1000001) (hbytes : (n + 1) * bytes ≤ 140737488355328) (hbase : base ≤ w.heap.size) :
    ∃ A' c' w', (Builtin.append_ #[t, t] ty #[.slice (some b) n n, .slice (some ad) 1 1]).run P w = .ok (.slice A' (n + 1) c') w' ∧ w'.ownsRow base e size (.slice A' (n + 1) c') (n + 1) (xs ++ news) ∧ Only (fun _ => False) w w' ∧
      ∀ k, (Value.slice A' (n + 1) c').ownBlock = some k → w.heap.size ≤ k := by
  obtain ⟨i, z, hi, hz, rfl, rfl, hzs⟩ := E.info
  have hr := run_append_grow (P := P) w t ty e i z E.ht hi hz b n n xs hlo holds ad 1 1 news (by omega) hnews (by omega) (by omega) (growslice_fits (by omega) hbytes)
  have hge := grownCap_ge w (n + 1) n e
  have hcm : grownCap w (n + 1) n e ≤ maxLen := grownCap_le_maxLen w (n + 1) n e (by unfold maxLen; omega)
  have hlen : (xs ++ news).length = (n + 1) * i.size := by rw [List.length_append, hlo, hl, Nat.add_mul]; omega
  refine ⟨_, _, _, hr, ⟨hlen, .inr ⟨w.heap.size, _, _, rfl, hbase, heap_alloc_new w.drew _, hge, hcm, ?_, ?_⟩⟩, ⟨rfl, rfl, rfl, by simp, fun k hk _ => heap_alloc_old w.drew _ hk⟩, fun k hk => ?_⟩
  · simp only [Array.size_append, List.size_toArray, size_zeroCells, hzs, hlo, hl]
    have : (n + 1) * i.size = n * i.size + i.size := by rw [Nat.add_mul]; omega
    rw [← this, ← Nat.add_mul]
    congr 1
    omega
  · simp only [Array.toList_append, List.append_assoc]
    rw [← List.append_assoc, ← hlen]
    exact List.take_left
  · have : w.heap.size = k := by simpa [Value.ownBlock] using hk
    omega
theorem wpList_push_bad {base B : Nat} {A : Option Addr} {n c : Nat} {L : List Prob} (E : Elem P 40 49 2 16) (hgd : o.guard = none) (s x : Operand)
    (ho : o.op = .call { callee := .builtin .append, args := #[s, x], argTypes := #[40, 40] })
    (hs : a.eval s = .slice A n c) (hown : BRow w base B A n c L)
    (g : Nat) (hx : a.eval x = .slice (some ⟨g, 0, none⟩) 1 1) (p : Prob) (hnews : ∀ j u, (probCells p)[j]? = some u → w.cell? ⟨g, j, none⟩ = some u) (hn : n ≤ 100000) (hbase : B ≤ w.heap.size)
    (h : ∀ A' c' w', BRow w' base B A' (n + 1) c' (L ++ [p]) → Only (fun k => (Value.slice A n c).ownBlock = some k ∧ B ≤ k) w w' → (∀ k, (Value.slice A' (n + 1) c').ownBlock = some k → (Value.slice A n c).ownBlock = some k ∨ w.heap.size ≤ k) → wpList P ops Q rest (a.put o.dst (.slice A' (n + 1) c')) w') : wpList P ops Q (o :: rest) a w := by
  have hadd : ∀ (b j : Nat), (⟨b, 0, none⟩ : Addr).add j = ⟨b, j, none⟩ := fun b j => by unfold Addr.add; split <;> simp_all
  have e2 : (L ++ [p]).flatMap probCells = L.flatMap probCells ++ probCells p := by simp
  rcases hown with hown | ⟨rfl, h0, b, cur, rfl, hb, hB, h2, h3⟩
  · refine wpList_push_apart E hgd s x ho B A n c (L.flatMap probCells) hs hown g hx (probCells p) rfl hnews (by intro u hu; simp [probCells] at hu; rcases hu with rfl | rfl <;> rfl) (by omega) (by omega) hbase fun A' c' w' h1 _ h3 h4 => h A' c' w' (.inl (by rw [e2]; exact h1)) (Only.of_grown h3 (fun k hk => ⟨hk, (hown.lt k hk).1⟩)) h4
  · refine wpList_plain hgd fun _ hK => ?_
    obtain ⟨A', c', w', hr, h5, h6, h7⟩ := run_push_full (P := P) (w := w) E o.type B ⟨b, 0, none⟩ c (L.flatMap probCells) h2 (fun j v hj => by rw [hadd, hB.cell]; exact h3 j v hj) ⟨g, 0, none⟩ (probCells p) rfl (fun j u hj => by rw [hadd]; exact hnews j u hj) (by omega) (by omega) hbase
    unfold Oper.wp execOp
    simp only [ho, resolve, invoke, builtin, Sem.run_bind, Sem.run_pure, Result.andThen_ok, List.map_toArray, List.map_cons, List.map_nil, hs, hx, hr]
    exact hK _ _ (h A' c' w' (.inl (by rw [e2]; exact h5)) ⟨h6.os, h6.tape, h6.output, h6.size, fun k hk _ => h6.block k hk (fun h => h)⟩ (fun k hk => .inr (h7 k hk)))
end
/-- A row of the call's own that is cut to its length. -/
theorem own_clip {w : World} {base base2 n c : Nat} {A : Option Addr} {P : List Prob} (h : w.ownsRow base 49 2 (.slice A n c) n (P.flatMap probCells)) (hn : n ≤ 1000000) : BRow w base base2 A n n P := by
  rcases h.2 with ⟨e, h0⟩ | ⟨g, cap, cur, e, hb, hg, hnc, hcm, hcs, ht⟩
  · injection e with e1 e2 e3
    subst e1
    subst h0
    have hP : P.flatMap probCells = [] := List.eq_nil_of_length_eq_zero (by simpa using h.1)
    refine .inl ⟨h.1, .inl ⟨rfl, rfl⟩⟩
  · injection e with e1 e2 e3
    subst e1
    refine .inr ⟨rfl, hn, g, cur, rfl, hb, hg, h.1, fun j u hj => ?_⟩
    rw [← ht] at hj
    rw [List.getElem?_take] at hj
    split at hj
    · simpa using hj
    · cases hj
set_option maxRecDepth 100000 in
theorem yclip_any (A : Option Addr) (n c : Nat) (hn : n ≤ c) (hc : c ≤ 9223372036854775807) (hA : A = none → c = 0) (w : World) : Calls Tryz.prog 34 #[.slice A n c] w fun e w' => e = .returned (.slice A n n) ∧ w' = w := by
  rcases A with _ | ⟨b, off, sp⟩
  · have := hA rfl
    subst this
    obtain rfl : n = 0 := by omega
    go_enter Tryz.func34, Tryz.ntmps34
    go_wp2
    go_ret
    exact ⟨rfl, rfl⟩
  · go_enter Tryz.func34, Tryz.ntmps34
    go_wp2
    go_ret
    exact ⟨rfl, rfl⟩
end Go.Proofs.YtlgdmbdhffdenaaGreatDoor
