/- format.normal by its contract. -/
import Derived.Test.YticpjdjdimpglaaGreatDoorCTisMTRow
namespace Go.Proofs.YticpjdjdimpglaaGreatDoor
set_option linter.unusedVariables false
set_option linter.unusedSimpArgs false
open Go.RowKit
abbrev panL : Ending := .panicked [{ v := .iface 97 (.agg #[]), recovered := false }]
/-- What normal answers for a normal form, or for none. -/
def NPost (S : Nat → Prop) (w : World) (r : Option CT) (e : Ending) (w' : World) : Prop :=
  Below w.heap.size w w' ∧ match r with
    | some y => ∃ A m d, e = .returned (cV y A m d) ∧ RepH S w' y.ps A m d
    | none => e = panL
/-- The contract of normal for a depth. -/
def NRM (f : Nat) : Prop := ∀ (S : Nat → Prop) (w : World) (c : CT) (A : Option Addr) (m d : Nat) (neg : Bool), (∀ k, S k → k < w.heap.size) → okC c = true → c.ps.dep + 1 ≤ f → RepH S w c.ps A m d →
  Calls Tryz.prog 64 #[cV c A m d, .bool neg] w (NPost S w (norm f neg c))
def flatN (kind : Int) (xs : List CT) : List CT := xs.flatMap fun x => if x.k = kind then x.ps.toL else [x]
def normR (kind : Int) (L : List CT) : Option CT := match L with
  | [x] => some x
  | _ => if 16 < L.length then none else some ⟨kind, 0, 0, CF.ofL L⟩
theorem norm_list {f : Nat} {neg : Bool} {c : CT} {kind : Int} {xs : List CT} (h1 : c.k = 2 ∨ c.k = 3) (hk : kind = if neg then 5 - c.k else c.k) (hs : seqO (c.ps.toL.map (norm f neg)) = some xs) : norm (f + 1) neg c = normR kind ((flatN kind xs).foldl (insC kind) []) := by
  rw [norm, if_neg (by omega), if_neg (by omega), hs, ← hk]
  rfl
theorem norm_list_none {f : Nat} {neg : Bool} {c : CT} (h1 : c.k = 2 ∨ c.k = 3) (hs : seqO (c.ps.toL.map (norm f neg)) = none) : norm (f + 1) neg c = none := by
  rw [norm, if_neg (by omega), if_neg (by omega), hs]
  rfl
theorem seqO_snoc {α : Type} : ∀ {l : List (Option α)} {xs : List α} {x : α}, seqO l = some xs → seqO (l ++ [some x]) = some (xs ++ [x])
  | [], xs, x, h => by injection h with h; subst h; rfl
  | none :: l, xs, x, h => by cases h
  | some y :: l, xs, x, h => by
    have h' : (seqO l).map (y :: ·) = some xs := h
    obtain ⟨ys, h1, rfl⟩ := Option.map_eq_some_iff.1 h'
    show (seqO (l ++ [some x])).map (y :: ·) = _
    rw [seqO_snoc h1]
    rfl
theorem seqO_no {α : Type} : ∀ {l : List (Option α)}, none ∈ l → seqO l = none
  | [], h => by cases h
  | none :: l, h => rfl
  | some y :: l, h => by
    rcases List.mem_cons.1 h with h | h
    · cases h
    · show (seqO l).map (y :: ·) = _
      rw [seqO_no h]
      rfl
theorem unl_perm {kind : Int} {xs : List CT} (hn : ∀ x ∈ xs, Nrm x) : (xs.foldl (insC kind) []).Perm (unl kind xs) := by
  obtain ⟨h1, h2, _⟩ := ins_fold (kind := kind) xs.length xs rfl hn
  have hnd : (xs.foldl (insC kind) []).Nodup := h1.imp fun {a b} h e => by rw [e, CT.cmp_zero.2 rfl] at h; omega
  exact (List.perm_ext_iff_of_nodup hnd unl_nodup).2 fun x => by rw [unl_mem hn, h2]
theorem flatN_app {kind : Int} {xs : List CT} {x : CT} : flatN kind (xs ++ [x]) = flatN kind xs ++ if x.k = kind then x.ps.toL else [x] := by
  unfold flatN
  rw [List.flatMap_append]
  simp
/-- A row of one's own as a row of conditions. -/
theorem own_rep {S : Nat → Prop} {w : World} {B n c : Nat} {A : Option Addr} {F : CF} {ys : List Value} (h : w.ownsRow B 24 4 (.slice A n c) n ys) (hS : ∀ k, S k → k < B) (hr : RepF S w F ys) : RepH S w F A n c := by
  refine ⟨ys, own_rd h, fun hn p hp hs => ?_, hr⟩
  rcases h.2 with ⟨e1, _⟩ | ⟨g', cap', cur, e1, hbg, _⟩
  · injection e1 with e1 e2
    omega
  · injection e1 with e1
    rw [e1] at hp
    injection hp with hp
    have := hS _ hs
    rw [← hp] at this
    simp only at this
    omega
theorem norm_four {f : Nat} {neg : Bool} {c p : CT} {t : List CT} (hk : c.k = 4) (h : c.ps.toL = p :: t) : norm (f + 1) neg c = norm f (!neg) p := by
  rw [norm, if_neg (by omega), if_pos hk, h]
theorem Blk.at_end {w : World} {b : Nat} {t : TypeId} {cs : Array Value} (h : b = w.heap.size) : Blk (w.alloc (.cells cs t)) b t cs := by subst h; exact Blk.new _ _ _
theorem own_of_blk2 {w : World} {b : Nat} {t : TypeId} {xs : List Value} {base size m : Nat} (h : Blk w b t xs.toArray) (hl : xs.length = m * size) (hb : base ≤ b) (hm : m ≤ 1000000) : w.ownsRow base t size (.slice (some ⟨b, 0, none⟩) m m) m xs :=
  ⟨hl, .inr ⟨b, m, xs.toArray, rfl, hb, h, Nat.le_refl _, by unfold maxLen; omega, by simpa using hl, by rw [← hl]; simp⟩⟩
set_option maxHeartbeats 8000000 in
set_option maxRecDepth 100000 in
theorem norm_of (f : Nat) (ih : NRM f) : NRM (f + 1) := by
  intro S w c A m d neg hS hok hd h
  have HS := Lib.hid hS
  have HR := Lib.hid h
  have HD := Lib.hid hd
  have HI := Lib.hid ih
  have HML := Lib.hid h.len
  have HE := Lib.hid (show norm (f + 1) neg c = norm (f + 1) neg c from rfl)
  have HC := Lib.hid (okC_cases hok)
  have HOK := Lib.hid hok
  clear ih hS hd h hok
  generalize hr : norm (f + 1) neg c = r
  rw [hr] at HE
  have HE := Lib.hid hr.symm
  clear hr
  obtain ⟨k, v, n, ps⟩ := c
  unfold cV
  dsimp only [vi]
  dsimp only at HR HML HC HD
  by_cases hk1 : k = 1
  · subst hk1
    go_enter Tryz.func64, Tryz.ntmps64
    cases neg
    · have HE2 := Lib.hid (show r = some ⟨1, v, n, ps⟩ by rw [HE.out]; rfl)
      go_wp2_with (fail)
      first | (refine calls_named ?_; intro W hW) | (refine body_named ?_; intro W hW) | (refine wpList_named ?_; intro W hW) | (refine wp_named ?_; intro W hW)
      have hb : Below w.heap.size w W := by rw [← hW]; exact ((Below.refl _ _).alloc (Nat.le_refl _) _).alloc (by simp) _
      have hx : Blk W (w.heap.size + 1) 24 #[.int .i64 1, .int .i64 v, .int .i64 n, .slice A m d] := by
        rw [← hW, ← World.size_alloc w]
        exact Blk.new _ _ _
      clear hW
      have r0 := hx.cell 0
      have r1 := hx.cell 1
      have r2 := hx.cell 2
      have r3 := hx.cell 3
      refine bodyPost_ret (v := .agg #[.int .i64 1, .int .i64 v, .int .i64 n, .slice A m d]) (by simp [results, Tryz.results64, go_sem, r0, r1, r2, r3]; try rfl) rfl ⟨hb, ?_⟩
      rw [HE2.out]
      exact ⟨A, m, d, rfl, HR.out.below hb⟩
    · have HE2 := Lib.hid (show r = some (cnot ⟨1, v, n, ps⟩) by rw [HE.out]; rfl)
      go_wp2_with (fail)
      first | (refine calls_named ?_; intro W hW) | (refine body_named ?_; intro W hW) | (refine wpList_named ?_; intro W hW) | (refine wp_named ?_; intro W hW)
      have hb : Below w.heap.size w W := by rw [← hW]; exact (((Below.refl _ _).alloc (Nat.le_refl _) _).alloc (by simp) _).alloc (by simp; omega) _
      have hx : Blk W (w.heap.size + 1) 24 #[.int .i64 4, .int .i64 0, .int .i64 0, .slice (some ⟨w.heap.size + 1 + 1, 0, none⟩) 1 1] := by
        rw [← hW, ← World.size_alloc w]
        exact (Blk.new _ _ _).alloc _
      have hy : Blk W (w.heap.size + 1 + 1) 24 #[.int .i64 1, .int .i64 v, .int .i64 n, .slice A m d] := by
        have e : w.heap.size + 1 + 1 = ((w.alloc (.cells #[.int .i64 1, .int .i64 v, .int .i64 n, .slice A m d] 24)).alloc (.cells #[.int .i64 4, .int .i64 0, .int .i64 0, .slice (some ⟨w.heap.size + 1 + 1, 0, none⟩) 1 1] 24)).heap.size := by simp [World.size_alloc]
        rw [← hW]
        have : Blk (((w.alloc (.cells #[.int .i64 1, .int .i64 v, .int .i64 n, .slice A m d] 24)).alloc (.cells #[.int .i64 4, .int .i64 0, .int .i64 0, .slice (some ⟨w.heap.size + 1 + 1, 0, none⟩) 1 1] 24)).alloc (.cells #[.int .i64 1, .int .i64 v, .int .i64 n, .slice A m d] 24)) ((w.alloc (.cells #[.int .i64 1, .int .i64 v, .int .i64 n, .slice A m d] 24)).alloc (.cells #[.int .i64 4, .int .i64 0, .int .i64 0, .slice (some ⟨w.heap.size + 1 + 1, 0, none⟩) 1 1] 24)).heap.size 24 #[.int .i64 1, .int .i64 v, .int .i64 n, .slice A m d] := Blk.new _ _ _
        rw [← e] at this
        exact this
      clear hW
      have r0 := hx.cell 0
      have r1 := hx.cell 1
      have r2 := hx.cell 2
      have r3 := hx.cell 3
      refine bodyPost_ret (v := .agg #[.int .i64 4, .int .i64 0, .int .i64 0, .slice (some ⟨w.heap.size + 1 + 1, 0, none⟩) 1 1]) (by simp [results, Tryz.results64, go_sem, r0, r1, r2, r3]; try rfl) rfl ⟨hb, ?_⟩
      rw [HE2.out]
      refine ⟨some ⟨w.heap.size + 1 + 1, 0, none⟩, 1, 1, rfl, [vi 1, vi v, vi n, .slice A m d], own_rd (own_of_blk2 (base := 0) (m := 1) hy rfl (Nat.zero_le _) (by omega)), fun _ p hp hs => ?_, RepF.one1 (x := ⟨1, v, n, ps⟩) (HR.out.below hb)⟩
      injection hp with hp
      have := HS.out _ hs
      rw [← hp] at this
      simp only at this
      omega
  · by_cases hk4 : k = 4
    · subst hk4
      have hc4 : ps.num = 1 ∧ ps.okB = true := by
        rcases HC.out with h | h | h
        · have := h.1; omega
        · exact ⟨h.2.2.2.1, h.2.2.2.2⟩
        · have := h.1; omega
      have hm0 : 0 < m := by have := HML.out; have := num_len ps; omega
      obtain ⟨b, off, x, B1, n1, e1, rfl, hb, hSb, hx, h0, h1, h2, h3, hr⟩ := HR.out.elem hm0
      simp only [Nat.zero_mul, Nat.add_zero] at h0 h1 h2 h3
      obtain ⟨t, ht⟩ : ∃ t, ps.toL = x :: t := by
        cases hl : ps.toL with
        | nil => rw [hl] at hx; cases hx
        | cons y t => rw [hl] at hx; injection hx with hx; exact ⟨t, by rw [hx]⟩
      have HE2 := Lib.hid (show r = norm f (!neg) x by rw [HE.out]; exact norm_four rfl ht)
      have HX := Lib.hid (show okC x = true ∧ x.ps.dep + 1 ≤ f from ⟨okB_mem hc4.2 x (by rw [ht]; simp), by
        have h5 := dep_in (F := ps) (p := x) (by rw [ht]; simp)
        have := HD.out
        omega⟩)
      have HRx := Lib.hid hr
      clear hx ht hr hc4 HC hSb HE
      have hm02 : (0 : Int) < (m : Int) := by omega
      go_enter Tryz.func64, Tryz.ntmps64
      go_wp2_with (fail)
      have hb1 : Below w.heap.size w ((w.alloc (.cells #[.int .i64 4, .int .i64 v, .int .i64 n, .slice (some ⟨b, off, none⟩) m d] 24)).alloc (.cells #[.int .i64 0, .int .i64 0, .int .i64 0, .slice none 0 0] 24)) := ((Below.refl _ _).alloc (Nat.le_refl _) _).alloc (by simp) _
      have hx1 : Blk ((w.alloc (.cells #[.int .i64 4, .int .i64 v, .int .i64 n, .slice (some ⟨b, off, none⟩) m d] 24)).alloc (.cells #[.int .i64 0, .int .i64 0, .int .i64 0, .slice none 0 0] 24)) (w.heap.size + 1) 24 #[.int .i64 0, .int .i64 0, .int .i64 0, .slice none 0 0] := by
        rw [← World.size_alloc w]
        exact Blk.new _ _ _
      generalize (w.alloc (.cells #[.int .i64 4, .int .i64 v, .int .i64 n, .slice (some ⟨b, off, none⟩) m d] 24)).alloc (.cells #[.int .i64 0, .int .i64 0, .int .i64 0, .slice none 0 0] 24) = W1 at hb1 hx1 ⊢
      have HB1 := Lib.hid hb1
      have HX1 := Lib.hid hx1
      clear h0 h1 h2 h3 hb1 hx1
      have hl1 := HX1.out.lt
      refine (HI.out (fun k => S k ∨ k = w.heap.size + 1) W1 x B1 n1 e1 (!neg) (fun k hk => by
        rcases hk with hk | rfl
        · exact Nat.lt_of_lt_of_le (HS.out k hk) HB1.out.size
        · exact hl1) HX.out.1 HX.out.2 ((HRx.out.new.below HB1.out).sub fun k hk => by
        rcases hk with hk | rfl
        · exact .inl hk
        · exact .inr (by omega))).mono ?_
      rintro e' w2 ⟨hb2, hp⟩
      rw [← HE2.out] at hp
      have HB2 := Lib.hid (HB1.out.trans (hb2.mono HB1.out.size))
      have HX2 := Lib.hid (HX1.out.below hb2 HX1.out.lt)
      clear hb2
      cases r with
      | none =>
        obtain rfl := hp
        go_wp2
        exact ⟨rfl, HB2.out, rfl⟩
      | some y =>
        obtain ⟨A2, m2, d2, rfl, hr2⟩ := hp
        have HR2 := Lib.hid hr2
        clear hr2
        unfold cV
        dsimp only [vi]
        have x0 := HX2.out.cell 0
        have x1 := HX2.out.cell 1
        have x2 := HX2.out.cell 2
        have x3 := HX2.out.cell 3
        have f0 := HX2.out.frozen 0
        have f1 := HX2.out.frozen 1
        have f2 := HX2.out.frozen 2
        have f3 := HX2.out.frozen 3
        have xl := HX2.out.lt
        go_wp2_with (fail)
        first | (refine calls_named ?_; intro W3 hW3) | (refine body_named ?_; intro W3 hW3) | (refine wpList_named ?_; intro W3 hW3) | (refine wp_named ?_; intro W3 hW3)
        have ho : Only (· = w.heap.size + 1) w2 W3 := by
          rw [← hW3]
          exact HX2.out.set4.2
        have hx : Blk W3 (w.heap.size + 1) 24 #[.int .i64 y.k, .int .i64 y.v, .int .i64 y.n, .slice A2 m2 d2] := by
          rw [← hW3]
          exact HX2.out.set4.1
        have hbb : Below w.heap.size w W3 := HB2.out.trans (by
          rw [← hW3]
          exact ((((Below.refl _ _).setCell (p := ⟨_, 0, none⟩) (by simp) _).setCell (p := ⟨_, 1, none⟩) (by simp) _).setCell (p := ⟨_, 2, none⟩) (by simp) _).setCell (p := ⟨_, 3, none⟩) (by simp) _)
        clear hW3
        have r0 := hx.cell 0
        have r1 := hx.cell 1
        have r2 := hx.cell 2
        have r3 := hx.cell 3
        refine bodyPost_ret (v := .agg #[.int .i64 y.k, .int .i64 y.v, .int .i64 y.n, .slice A2 m2 d2]) (by simp [results, Tryz.results64, go_sem, r0, r1, r2, r3]; try rfl) rfl ⟨hbb, ?_⟩
        exact ⟨A2, m2, d2, rfl, (HR2.out.only ho (fun k hk => .inr hk)).sub fun k hk => .inl hk⟩
    · have hc : (k = 2 ∨ k = 3) ∧ v = 0 ∧ n = 0 ∧ 1 ≤ ps.num ∧ ps.num ≤ 16 ∧ ps.okB = true := by
        rcases HC.out with h | h | h
        · exact absurd h.1 hk1
        · exact absurd h.1 hk4
        · exact h
      have hm16 : m ≤ 16 := by have := HML.out; have := num_len ps; omega
      have hm1 : 1 ≤ m := by have := HML.out; have := num_len ps; omega
      have HL := Lib.hid (HML.out.trans (toL_len ps).symm)
      have HK := Lib.hid hc.1
      have HOB := Lib.hid (okB_mem hc.2.2.2.2.2)
      have hk2 : 2 ≤ k := by omega
      have hk3 : k ≤ 3 := by omega
      have g1 : (k == 1) = false := by simpa using hk1
      have g4 : (k == 4) = false := by simpa using hk4
      obtain ⟨kind, hkd⟩ : ∃ kind : Int, kind = if neg then 5 - k else k := ⟨_, rfl⟩
      have HNL := Lib.hid (fun xs (h : seqO (ps.toL.map (norm f neg)) = some xs) => HE.out.trans (norm_list (c := ⟨k, v, n, ps⟩) HK.out hkd h))
      have HNN := Lib.hid (fun (h : seqO (ps.toL.map (norm f neg)) = none) => HE.out.trans (norm_list_none (c := ⟨k, v, n, ps⟩) HK.out h))
      have HK23 := Lib.hid (show kind = 2 ∨ kind = 3 by rw [hkd]; cases neg <;> simp <;> omega)
      have HPN := Lib.hid (show ps.toL ≠ [] by intro e; have := num_toL ps; rw [e] at this; simp only [List.length_nil] at this; have := hc.2.2.2.1; omega)
      clear hc HC hk1 hk4 HE HOK
      go_enter Tryz.func64, Tryz.ntmps64
      cases neg
      · obtain rfl : kind = k := hkd
        go_wp2_with (fail)
        have hb1 : Below w.heap.size w (((w.alloc (.cells #[.int .i64 kind, .int .i64 v, .int .i64 n, .slice A m d] 24)).alloc (.cells #[.int .i64 0, .int .i64 0, .int .i64 0, .slice none 0 0] 24)).alloc (.cells #[.int .i64 kind] 3)) := (((Below.refl _ _).alloc (Nat.le_refl _) _).alloc (by simp) _).alloc (by simp; omega) _
        have hx1 : Blk (((w.alloc (.cells #[.int .i64 kind, .int .i64 v, .int .i64 n, .slice A m d] 24)).alloc (.cells #[.int .i64 0, .int .i64 0, .int .i64 0, .slice none 0 0] 24)).alloc (.cells #[.int .i64 kind] 3)) (w.heap.size + 1) 24 #[.int .i64 0, .int .i64 0, .int .i64 0, .slice none 0 0] := by
          rw [← World.size_alloc w]
          exact (Blk.new _ _ _).alloc _
        have hk1 : Blk (((w.alloc (.cells #[.int .i64 kind, .int .i64 v, .int .i64 n, .slice A m d] 24)).alloc (.cells #[.int .i64 0, .int .i64 0, .int .i64 0, .slice none 0 0] 24)).alloc (.cells #[.int .i64 kind] 3)) (w.heap.size + 1 + 1) 3 #[.int .i64 kind] := Blk.at_end (by simp [World.size_alloc])
        generalize (((w.alloc (.cells #[.int .i64 kind, .int .i64 v, .int .i64 n, .slice A m d] 24)).alloc (.cells #[.int .i64 0, .int .i64 0, .int .i64 0, .slice none 0 0] 24)).alloc (.cells #[.int .i64 kind] 3)) = W1 at hb1 hx1 hk1 ⊢
        have HB1 := Lib.hid hb1
        have HX1 := Lib.hid hx1
        have HK1 := Lib.hid hk1
        have hl1 := hk1.lt
        have HS1 := Lib.hid (show ∀ q, (S q ∨ q = w.heap.size + 1) → q < W1.heap.size from fun q hq => by
          rcases hq with hq | rfl
          · exact Nat.lt_of_lt_of_le (HS.out q hq) HB1.out.size
          · omega)
        clear hb1 hx1 hk1
        go_loopw [6, 36] (fun o q wr => ∃ (i nn : Nat) (A' : Option Addr) (c' : Nat) (xs : List CT), i ≤ m ∧ nn ≤ 16 * i ∧ q = .int .i64 i ∧ o = .slice A' nn c' ∧ Hid (seqO ((ps.toL.take i).map (norm f false)) = some xs) ∧ Hid (NSt (fun q => S q ∨ q = w.heap.size + 1) W1 wr (flatN kind xs) A' nn c') ∧ Hid (Below W1.heap.size W1 wr)) (fun _ q _ => m - (intOf q).toNat)
        case atStart => exact ⟨0, 0, none, 0, [], Nat.zero_le _, Nat.le_refl _, rfl, rfl, rfl, NSt.zero, Below.refl _ _⟩
        case round =>
          obtain ⟨i, nn, A', c', xs, him, hnn, rfl, rfl, HXS, HN, HBr⟩ := hrel
          have HBw := Lib.hid (HB1.out.trans (HBr.out.mono HB1.out.size))
          have HXr := Lib.hid (HX1.out.below HBr.out HX1.out.lt)
          have HKr := Lib.hid (HK1.out.below HBr.out HK1.out.lt)
          have hzr := HBr.out.size
          by_cases hlt : i < m
          · obtain ⟨b, off, x, B1, n1, e1, rfl, hb, hSb, hx, h0, h1, h2, h3, hr⟩ := HR.out.elem hlt
            rw [← HBw.out.cell (p := ⟨b, _, none⟩) hb] at h0 h1 h2 h3
            have hbl : b < wr.heap.size := by omega
            have HPX := Lib.hid (show okC x = true ∧ x.ps.dep + 1 ≤ f ∧ x ∈ ps.toL from by
              obtain ⟨k1, k2⟩ := List.getElem?_eq_some_iff.1 hx
              have hmem : x ∈ ps.toL := by rw [← k2]; exact List.getElem_mem k1
              refine ⟨HOB.out x hmem, ?_, hmem⟩
              have h5 := dep_in (F := ps) (p := x) hmem
              have := HD.out
              omega)
            have HXI := Lib.hid (take_map (norm f false) hx)
            have HRx := Lib.hid hr
            have hi2 : (i : Int) < (m : Int) := by omega
            clear hx hr hSb
            go_wp2_with (fail)
            have hbq : Below wr.heap.size wr (wr.alloc (.cells #[.int .i64 x.k, .int .i64 x.v, .int .i64 x.n, .slice B1 n1 e1] 24)) := (Below.refl _ _).alloc (Nat.le_refl _) _
            generalize wr.alloc (.cells #[.int .i64 x.k, .int .i64 x.v, .int .i64 x.n, .slice B1 n1 e1] 24) = W2 at hbq ⊢
            have HN2 := Lib.hid (HN.out.below hbq)
            have hz2 := hbq.size
            have HBr2 := Lib.hid (HBr.out.trans (hbq.mono hzr))
            have HBw2 := Lib.hid (HBw.out.trans (hbq.mono HBw.out.size))
            have HKr2 := Lib.hid (HKr.out.below hbq HKr.out.lt)
            clear hbq h0 h1 h2 h3
            have HS2 := Lib.hid (show ∀ q, ((S q ∨ q = w.heap.size + 1) ∨ (Value.slice A' nn c').ownBlock = some q) → W1.heap.size ≤ q ∧ q < W2.heap.size ∨ (q = w.heap.size + 1 ∧ q < W2.heap.size) ∨ (S q ∧ q < W2.heap.size) from fun q hq => by
              rcases hq with (hq | rfl) | hq
              · exact .inr (.inr ⟨hq, by have := HS1.out q (.inl hq); omega⟩)
              · exact .inr (.inl ⟨rfl, by omega⟩)
              · obtain ⟨zs, hz, _⟩ := HN2.out.row
                exact .inl (hz.lt q hq))
            refine (HI.out (fun q => (S q ∨ q = w.heap.size + 1) ∨ (Value.slice A' nn c').ownBlock = some q) W2 x B1 n1 e1 false (fun q hq => by
              rcases HS2.out q hq with h | h | h
              · exact h.2
              · exact h.2
              · exact h.2) HPX.out.1 HPX.out.2.1 ((HRx.out.new.below HBw2.out).sub fun q hq => by
              rcases HS2.out q hq with h | h | h
              · exact .inr (by have := HB1.out.size; omega)
              · exact .inr (by omega)
              · exact .inl h.1)).mono ?_
            rintro e' w3 ⟨hb3, hp⟩
            have HB3 := Lib.hid (HBr2.out.trans (hb3.mono (by omega)))
            have HBw3 := Lib.hid (HBw2.out.trans (hb3.mono HBw2.out.size))
            have HN3 := Lib.hid (HN2.out.below hb3)
            have HK3 := Lib.hid (HKr2.out.below hb3 HKr2.out.lt)
            have hz3 := hb3.size
            clear hb3 HN HN2
            cases hy : norm f false x with
            | none =>
              rw [hy] at hp
              obtain rfl := hp
              have HRN := Lib.hid (HNN.out (seqO_no (by rw [← hy]; exact List.mem_map_of_mem HPX.out.2.2)))
              go_wp2
              refine ⟨rfl, HBw3.out, ?_⟩
              rw [HRN.out]
            | some y =>
              rw [hy] at hp
              obtain ⟨A2, m2, d2, rfl, hr2⟩ := hp
              have HR2 := Lib.hid hr2
              have HXS2 := Lib.hid (show seqO ((ps.toL.take (i + 1)).map (norm f false)) = some (xs ++ [y]) by
                rw [HXI.out, hy]
                exact seqO_snoc HXS.out)
              have HNy := Lib.hid (norm_norm f false x y HPX.out.1 hy)
              have HM2 := Lib.hid hr2.len
              clear hr2 hy
              unfold cV
              dsimp only [vi]
              have kc := HK3.out.cell 0
              have kl := HK3.out.lt
              by_cases hyk : y.k = kind
              · have HFN := Lib.hid (show flatN kind (xs ++ [y]) = flatN kind xs ++ y.ps.toL by rw [flatN_app, if_pos hyk])
                have hyk2 : (y.k == kind) = true := by rw [hyk]; simp
                have h16 : m2 ≤ 16 := by
                  have h1 := (HNy.out.parts (by have := HK23.out; omega)).2.2.2.2.2
                  have := toL_len y.ps
                  have := HM2.out
                  omega
                have Hyk := Lib.hid hyk
                clear hyk
                go_wp2_with (at_builtin; refine Hid.out ?_)
                refine Lib.hid ?_
                have hbb : Below w3.heap.size w3 (w3.alloc (.cells #[.int .i64 y.k, .int .i64 y.v, .int .i64 y.n, .slice A2 m2 d2] 24)) := (Below.refl _ _).alloc (Nat.le_refl _) _
                obtain ⟨zs, hrow, hrep⟩ := HN3.out.row
                obtain ⟨ys2, hrd2, hav2, hrf2⟩ := HR2.out.below hbb
                refine wpList_app_apart elemCond2 rfl (.tmp 47) (.tmp 49) rfl W1.heap.size A' nn c' zs rfl (own_below_all hrow hbb) _ A2 m2 d2 rfl ys2 hrd2 hrf2.one' (by omega) (by omega) (by simp only [World.size_alloc]; omega) ?_
                intro A4 c4 w5 hown5 hb5 hg5 hap5
                have HN5 := Lib.hid (NSt.push (HN3.out.below hbb) (M := y.ps.toL) (hrep.only (Only.of_below (S := fun _ => False) hbb) (fun _ h => h.elim)) (by rw [ofL_toL2]; exact hrf2) (by rw [toL_len, ← HM2.out]) hg5 hown5 hap5)
                have HB5 := Lib.hid (HB3.out.trans ((hbb.mono (by omega)).trans hb5))
                clear hbb hrow hrep hrd2 hav2 hrf2 hown5 hb5 hg5 hap5 kc kl
                go_wp2_with (fail)
                go_roundw
                case rel => exact ⟨i + 1, nn + m2, A4, c4, xs ++ [y], hlt, by omega, by go_num, rfl, HXS2.out, by rw [HFN.out]; exact HN5.out, HB5.out⟩
                case measure => simp [intOf]; omega
              · have HFN := Lib.hid (show flatN kind (xs ++ [y]) = flatN kind xs ++ [y] by rw [flatN_app, if_neg hyk])
                have hyk2 : (y.k == kind) = false := by simpa using hyk
                clear hyk
                go_wp2_with (at_builtin; refine Hid.out ?_)
                refine Lib.hid ?_
                rw [← World.size_alloc w3 (.cells #[.int .i64 y.k, .int .i64 y.v, .int .i64 y.n, .slice A2 m2 d2] 24)]
                have hbb : Below w3.heap.size w3 (w3.alloc (.cells #[.int .i64 y.k, .int .i64 y.v, .int .i64 y.n, .slice A2 m2 d2] 24)) := (Below.refl _ _).alloc (Nat.le_refl _) _
                generalize w3.alloc (.cells #[.int .i64 y.k, .int .i64 y.v, .int .i64 y.n, .slice A2 m2 d2] 24) = w4 at hbb ⊢
                have hbc := hbb.trans (((Below.refl w4.heap.size w4).alloc (Nat.le_refl _) (.cells #[.int .i64 y.k, .int .i64 y.v, .int .i64 y.n, .slice A2 m2 d2] 24)).mono hbb.size)
                have hz4 := hbb.size
                obtain ⟨zs, hrow, hrep⟩ := HN3.out.row
                refine wpList_push_apart elemCond2 rfl (.tmp 51) (.tmp 53) rfl W1.heap.size A' nn c' zs rfl (own_below_all hrow hbc) w4.heap.size rfl [.int .i64 y.k, .int .i64 y.v, .int .i64 y.n, .slice A2 m2 d2] rfl (new_cells _ _ _) (by intro u hu; simp at hu; rcases hu with rfl | rfl | rfl | rfl <;> rfl) (by omega) (by omega) (by simp only [World.size_alloc]; omega) ?_
                intro A4 c4 w5 hown5 hb5 hg5 hap5
                have HN5 := Lib.hid (NSt.push (HN3.out.below hbc) (M := [y]) (hrep.only (Only.of_below (S := fun _ => False) hbc) (fun _ h => h.elim)) (RepF.one1 (HR2.out.below hbc)) rfl hg5 hown5 hap5)
                have HB5 := Lib.hid (HB3.out.trans ((hbc.mono (by omega)).trans hb5))
                clear hbb hbc hrow hrep hown5 hb5 hg5 hap5 kc kl
                go_wp2_with (fail)
                go_roundw
                case rel => exact ⟨i + 1, nn + 1, A4, c4, xs ++ [y], hlt, by omega, by go_num, rfl, HXS2.out, by rw [HFN.out]; exact HN5.out, HB5.out⟩
                case measure => simp [intOf]; omega
          · obtain rfl : i = m := by omega
            have hii : ¬ (i : Int) < (i : Int) := by omega
            have hxs : seqO (ps.toL.map (norm f false)) = some xs := by
              have := HXS.out
              rwa [HL.out, List.take_length] at this
            obtain ⟨hnr, hne⟩ := norm_xs HK23.out HOB.out hxs HPN.out
            have HNL2 := Lib.hid (HNL.out xs hxs)
            change ∀ x ∈ flatN kind xs, Nrm x at hnr
            change (flatN kind xs).foldl (insC kind) [] ≠ [] at hne
            have HNR := Lib.hid hnr
            have HPE := Lib.hid (unl_perm (kind := kind) hnr)
            have HSO := Lib.hid (fun (R : List CT) (h1 : R.Perm (unl kind (flatN kind xs))) (h2 : R.Pairwise fun a b => a.cmp b ≤ 0) => unl_sorted hnr h1 h2)
            have HNE := Lib.hid hne
            clear hxs hnr hne HXS
            generalize (flatN kind xs).foldl (insC kind) [] = R at HNL2 HPE HSO HNE
            go_wp2_with (fail)
            refine (unless_any (S := fun q => S q ∨ q = w.heap.size + 1) kind (w.heap.size + 1 + 1) (CF.ofL (flatN kind xs)) A' nn c' wr (HN.out.rep HS1.out) (by rw [toL_ofL2]; exact HNR.out) (by omega) HKr.out).mono ?_
            rintro e' w3 ⟨A3, n3, c3, ys, rfl, hrow, hrep, hlen, hb3⟩
            rw [toL_ofL2] at hrep hlen
            have HB3 := Lib.hid (HBw.out.trans (hb3.mono HBw.out.size))
            have HK3 := Lib.hid (HKr.out.below hb3 HKr.out.lt)
            have HX3 := Lib.hid (HXr.out.below hb3 HXr.out.lt)
            have HBu := Lib.hid hb3
            have HRO := Lib.hid hrow
            have HRE := Lib.hid hrep
            have HLN := Lib.hid (hlen.trans HPE.out.length_eq.symm)
            have xl := HX3.out.lt
            have hz3 := hb3.size
            have hxr := HXr.out.lt
            clear hrow hrep hlen hb3
            have HR3 := Lib.hid (own_rep (S := fun q => S q ∨ q = w.heap.size + 1) HRO.out (fun q hq => by have := HS1.out q hq; omega) (HRE.out.only (Only.of_below (S := fun _ => False) HBu.out) (fun _ h => h.elim)))
            have hS4 : ∀ q, S q → q < w.heap.size := HS.out
            have HB3s := HB3.out.size
            by_cases h1 : n3 = 1
            · subst h1
              obtain ⟨b, off, y, B4, n4, e4, rfl, hb, hSb, hx, h0, h1, h2, h3, hr⟩ := HR3.out.elem (i := 0) (by omega)
              simp only [Nat.zero_mul, Nat.add_zero] at h0 h1 h2 h3
              have HRR := Lib.hid (show r = some y by
                have hl := HLN.out
                rw [HNL2.out]
                obtain ⟨z, hz⟩ := List.length_eq_one_iff.1 hl.symm
                have hp := HPE.out
                rw [hz] at hp
                have hu := List.perm_singleton.1 hp.symm
                rw [toL_ofL2, hu] at hx
                injection hx with hx
                rw [hz, ← hx]
                rfl)
              have HR4 := Lib.hid hr
              have x0 := HX3.out.cell 0
              have x1 := HX3.out.cell 1
              have x2 := HX3.out.cell 2
              have x3 := HX3.out.cell 3
              have f0 := HX3.out.frozen 0
              have f1 := HX3.out.frozen 1
              have f2 := HX3.out.frozen 2
              have f3 := HX3.out.frozen 3
              clear hr hx hSb
              go_wp2_with (fail)
              first | (refine calls_named ?_; intro W6 hW6) | (refine body_named ?_; intro W6 hW6) | (refine wpList_named ?_; intro W6 hW6) | (refine wp_named ?_; intro W6 hW6)
              have ho : Only (· = w.heap.size + 1) w3 W6 := by rw [← hW6]; exact HX3.out.set4.2
              have hx6 : Blk W6 (w.heap.size + 1) 24 #[.int .i64 y.k, .int .i64 y.v, .int .i64 y.n, .slice B4 n4 e4] := by rw [← hW6]; exact HX3.out.set4.1
              clear hW6
              have r0 := hx6.cell 0
              have r1 := hx6.cell 1
              have r2 := hx6.cell 2
              have r3 := hx6.cell 3
              refine bodyPost_ret (v := .agg #[.int .i64 y.k, .int .i64 y.v, .int .i64 y.n, .slice B4 n4 e4]) (by simp [results, Tryz.results64, go_sem, r0, r1, r2, r3]; try rfl) rfl ⟨ho.below HB3.out HB3.out.size (fun q hq => by rw [show q = w.heap.size + 1 from hq]; omega), ?_⟩
              rw [HRR.out]
              exact ⟨B4, n4, e4, rfl, (HR4.out.only ho (fun q hq => .inr hq)).sub fun q hq => .inl hq⟩
            · by_cases h16 : 16 < n3
              · have HRR := Lib.hid (show r = none by
                  have hl := HLN.out
                  rw [HNL2.out]
                  unfold normR
                  split
                  · simp only [List.length_singleton] at hl; omega
                  · rw [if_pos (by omega)])
                go_wp2_with (fail)
                exact ⟨rfl, HB3.out, by rw [HRR.out]⟩
              · have h0 : 0 < n3 := by
                  have hl := HLN.out
                  have := List.length_pos_iff.2 HNE.out
                  omega
                obtain ⟨g, rfl⟩ : ∃ g, A3 = some ⟨g, 0, none⟩ := by
                  rcases HRO.out.2 with ⟨e1, _⟩ | ⟨g', cap', cur, e1, _⟩
                  · injection e1 with e1 e2; omega
                  · injection e1 with e1; exact ⟨g', e1⟩
                have h16' : n3 ≤ 16 := by omega
                have n1 : ¬ (n3 : Int) = 1 := by omega
                go_wp2_with (fail)
                refine (csort_any (S := fun q => S q ∨ q = w.heap.size + 1) (w0 := wr) w3 wr.heap.size g n3 c3 (unl kind (flatN kind xs)) ys (HLN.out.trans HPE.out.length_eq).symm (by omega) (Nat.le_refl _) HBu.out HRE.out HRO.out).mono ?_
                rintro e' w5 ⟨rfl, l', zs, hp5, hs5, hr5, hrd5, hb5⟩
                rw [HSO.out l' hp5 hs5] at hr5
                have HB5 := Lib.hid (HB3.out.trans (hb5.mono HBw.out.size))
                have hb5r := HBu.out.trans hb5
                have HX5 := Lib.hid (HXr.out.below hb5r hxr)
                have HK5 := Lib.hid (HKr.out.below hb5r HKr.out.lt)
                have hz5 := hb5.size
                have HR5 := Lib.hid (show RepH (fun q => S q ∨ q = w.heap.size + 1) w5 (CF.ofL R) (some ⟨g, 0, none⟩) n3 c3 from ⟨zs, hrd5, fun _ p hp hs => by
                  injection hp with hp
                  have h6 := HS1.out _ hs
                  have h7 := (HRO.out.lt g rfl).1
                  rw [← hp] at h6
                  simp only at h6
                  omega, hr5.only (Only.of_below (S := fun _ => False) hb5r) (fun _ h => h.elim)⟩)
                have HRR := Lib.hid (show r = some ⟨kind, 0, 0, CF.ofL R⟩ by
                  have hl := HLN.out
                  rw [HNL2.out]
                  unfold normR
                  split
                  · simp only [List.length_singleton] at hl; omega
                  · rw [if_neg (by omega)])
                have x0 := HX5.out.cell 0
                have x1 := HX5.out.cell 1
                have x2 := HX5.out.cell 2
                have x3 := HX5.out.cell 3
                have f0 := HX5.out.frozen 0
                have f1 := HX5.out.frozen 1
                have f2 := HX5.out.frozen 2
                have f3 := HX5.out.frozen 3
                have kc := HK5.out.cell 0
                have kl := HK5.out.lt
                have xl5 := HX5.out.lt
                clear hp5 hs5 hr5 hrd5 hb5 hb5r
                go_wp2_with (fail)
                first | (refine calls_named ?_; intro W6 hW6) | (refine body_named ?_; intro W6 hW6) | (refine wpList_named ?_; intro W6 hW6) | (refine wp_named ?_; intro W6 hW6)
                have ho : Only (· = w.heap.size + 1) w5 W6 := by rw [← hW6]; exact HX5.out.set4.2
                have hx6 : Blk W6 (w.heap.size + 1) 24 #[.int .i64 kind, .int .i64 0, .int .i64 0, .slice (some ⟨g, 0, none⟩) n3 c3] := by rw [← hW6]; exact HX5.out.set4.1
                clear hW6
                have r0 := hx6.cell 0
                have r1 := hx6.cell 1
                have r2 := hx6.cell 2
                have r3 := hx6.cell 3
                refine bodyPost_ret (v := .agg #[.int .i64 kind, .int .i64 0, .int .i64 0, .slice (some ⟨g, 0, none⟩) n3 c3]) (by simp [results, Tryz.results64, go_sem, r0, r1, r2, r3]; try rfl) rfl ⟨ho.below HB5.out HB5.out.size (fun q hq => by rw [show q = w.heap.size + 1 from hq]; omega), ?_⟩
                rw [HRR.out]
                exact ⟨some ⟨g, 0, none⟩, n3, c3, rfl, (HR5.out.only ho (fun q hq => .inr hq)).sub fun q hq => .inl hq⟩
      · have HKD := Lib.hid (show 5 - k = kind from hkd.symm)
        clear hkd
        go_wp2_with (fail)
        rw [HKD.out]
        have hb1 : Below w.heap.size w (((w.alloc (.cells #[.int .i64 k, .int .i64 v, .int .i64 n, .slice A m d] 24)).alloc (.cells #[.int .i64 0, .int .i64 0, .int .i64 0, .slice none 0 0] 24)).alloc (.cells #[.int .i64 kind] 3)) := (((Below.refl _ _).alloc (Nat.le_refl _) _).alloc (by simp) _).alloc (by simp; omega) _
        have hx1 : Blk (((w.alloc (.cells #[.int .i64 k, .int .i64 v, .int .i64 n, .slice A m d] 24)).alloc (.cells #[.int .i64 0, .int .i64 0, .int .i64 0, .slice none 0 0] 24)).alloc (.cells #[.int .i64 kind] 3)) (w.heap.size + 1) 24 #[.int .i64 0, .int .i64 0, .int .i64 0, .slice none 0 0] := by
          rw [← World.size_alloc w]
          exact (Blk.new _ _ _).alloc _
        have hk1 : Blk (((w.alloc (.cells #[.int .i64 k, .int .i64 v, .int .i64 n, .slice A m d] 24)).alloc (.cells #[.int .i64 0, .int .i64 0, .int .i64 0, .slice none 0 0] 24)).alloc (.cells #[.int .i64 kind] 3)) (w.heap.size + 1 + 1) 3 #[.int .i64 kind] := Blk.at_end (by simp [World.size_alloc])
        generalize (((w.alloc (.cells #[.int .i64 k, .int .i64 v, .int .i64 n, .slice A m d] 24)).alloc (.cells #[.int .i64 0, .int .i64 0, .int .i64 0, .slice none 0 0] 24)).alloc (.cells #[.int .i64 kind] 3)) = W1 at hb1 hx1 hk1 ⊢
        have HB1 := Lib.hid hb1
        have HX1 := Lib.hid hx1
        have HK1 := Lib.hid hk1
        have hl1 := hk1.lt
        have HS1 := Lib.hid (show ∀ q, (S q ∨ q = w.heap.size + 1) → q < W1.heap.size from fun q hq => by
          rcases hq with hq | rfl
          · exact Nat.lt_of_lt_of_le (HS.out q hq) HB1.out.size
          · omega)
        clear hb1 hx1 hk1
        go_loopw [6, 36] (fun o q wr => ∃ (i nn : Nat) (A' : Option Addr) (c' : Nat) (xs : List CT), i ≤ m ∧ nn ≤ 16 * i ∧ q = .int .i64 i ∧ o = .slice A' nn c' ∧ Hid (seqO ((ps.toL.take i).map (norm f true)) = some xs) ∧ Hid (NSt (fun q => S q ∨ q = w.heap.size + 1) W1 wr (flatN kind xs) A' nn c') ∧ Hid (Below W1.heap.size W1 wr)) (fun _ q _ => m - (intOf q).toNat)
        case atStart => exact ⟨0, 0, none, 0, [], Nat.zero_le _, Nat.le_refl _, rfl, rfl, rfl, NSt.zero, Below.refl _ _⟩
        case round =>
          obtain ⟨i, nn, A', c', xs, him, hnn, rfl, rfl, HXS, HN, HBr⟩ := hrel
          have HBw := Lib.hid (HB1.out.trans (HBr.out.mono HB1.out.size))
          have HXr := Lib.hid (HX1.out.below HBr.out HX1.out.lt)
          have HKr := Lib.hid (HK1.out.below HBr.out HK1.out.lt)
          have hzr := HBr.out.size
          by_cases hlt : i < m
          · obtain ⟨b, off, x, B1, n1, e1, rfl, hb, hSb, hx, h0, h1, h2, h3, hr⟩ := HR.out.elem hlt
            rw [← HBw.out.cell (p := ⟨b, _, none⟩) hb] at h0 h1 h2 h3
            have hbl : b < wr.heap.size := by omega
            have HPX := Lib.hid (show okC x = true ∧ x.ps.dep + 1 ≤ f ∧ x ∈ ps.toL from by
              obtain ⟨k1, k2⟩ := List.getElem?_eq_some_iff.1 hx
              have hmem : x ∈ ps.toL := by rw [← k2]; exact List.getElem_mem k1
              refine ⟨HOB.out x hmem, ?_, hmem⟩
              have h5 := dep_in (F := ps) (p := x) hmem
              have := HD.out
              omega)
            have HXI := Lib.hid (take_map (norm f true) hx)
            have HRx := Lib.hid hr
            have hi2 : (i : Int) < (m : Int) := by omega
            clear hx hr hSb
            go_wp2_with (fail)
            have hbq : Below wr.heap.size wr (wr.alloc (.cells #[.int .i64 x.k, .int .i64 x.v, .int .i64 x.n, .slice B1 n1 e1] 24)) := (Below.refl _ _).alloc (Nat.le_refl _) _
            generalize wr.alloc (.cells #[.int .i64 x.k, .int .i64 x.v, .int .i64 x.n, .slice B1 n1 e1] 24) = W2 at hbq ⊢
            have HN2 := Lib.hid (HN.out.below hbq)
            have hz2 := hbq.size
            have HBr2 := Lib.hid (HBr.out.trans (hbq.mono hzr))
            have HBw2 := Lib.hid (HBw.out.trans (hbq.mono HBw.out.size))
            have HKr2 := Lib.hid (HKr.out.below hbq HKr.out.lt)
            clear hbq h0 h1 h2 h3
            have HS2 := Lib.hid (show ∀ q, ((S q ∨ q = w.heap.size + 1) ∨ (Value.slice A' nn c').ownBlock = some q) → W1.heap.size ≤ q ∧ q < W2.heap.size ∨ (q = w.heap.size + 1 ∧ q < W2.heap.size) ∨ (S q ∧ q < W2.heap.size) from fun q hq => by
              rcases hq with (hq | rfl) | hq
              · exact .inr (.inr ⟨hq, by have := HS1.out q (.inl hq); omega⟩)
              · exact .inr (.inl ⟨rfl, by omega⟩)
              · obtain ⟨zs, hz, _⟩ := HN2.out.row
                exact .inl (hz.lt q hq))
            refine (HI.out (fun q => (S q ∨ q = w.heap.size + 1) ∨ (Value.slice A' nn c').ownBlock = some q) W2 x B1 n1 e1 true (fun q hq => by
              rcases HS2.out q hq with h | h | h
              · exact h.2
              · exact h.2
              · exact h.2) HPX.out.1 HPX.out.2.1 ((HRx.out.new.below HBw2.out).sub fun q hq => by
              rcases HS2.out q hq with h | h | h
              · exact .inr (by have := HB1.out.size; omega)
              · exact .inr (by omega)
              · exact .inl h.1)).mono ?_
            rintro e' w3 ⟨hb3, hp⟩
            have HB3 := Lib.hid (HBr2.out.trans (hb3.mono (by omega)))
            have HBw3 := Lib.hid (HBw2.out.trans (hb3.mono HBw2.out.size))
            have HN3 := Lib.hid (HN2.out.below hb3)
            have HK3 := Lib.hid (HKr2.out.below hb3 HKr2.out.lt)
            have hz3 := hb3.size
            clear hb3 HN HN2
            cases hy : norm f true x with
            | none =>
              rw [hy] at hp
              obtain rfl := hp
              have HRN := Lib.hid (HNN.out (seqO_no (by rw [← hy]; exact List.mem_map_of_mem HPX.out.2.2)))
              go_wp2
              refine ⟨rfl, HBw3.out, ?_⟩
              rw [HRN.out]
            | some y =>
              rw [hy] at hp
              obtain ⟨A2, m2, d2, rfl, hr2⟩ := hp
              have HR2 := Lib.hid hr2
              have HXS2 := Lib.hid (show seqO ((ps.toL.take (i + 1)).map (norm f true)) = some (xs ++ [y]) by
                rw [HXI.out, hy]
                exact seqO_snoc HXS.out)
              have HNy := Lib.hid (norm_norm f true x y HPX.out.1 hy)
              have HM2 := Lib.hid hr2.len
              clear hr2 hy
              unfold cV
              dsimp only [vi]
              have kc := HK3.out.cell 0
              have kl := HK3.out.lt
              by_cases hyk : y.k = kind
              · have HFN := Lib.hid (show flatN kind (xs ++ [y]) = flatN kind xs ++ y.ps.toL by rw [flatN_app, if_pos hyk])
                have hyk2 : (y.k == kind) = true := by rw [hyk]; simp
                have h16 : m2 ≤ 16 := by
                  have h1 := (HNy.out.parts (by have := HK23.out; omega)).2.2.2.2.2
                  have := toL_len y.ps
                  have := HM2.out
                  omega
                have Hyk := Lib.hid hyk
                clear hyk
                go_wp2_with (at_builtin; refine Hid.out ?_)
                refine Lib.hid ?_
                have hbb : Below w3.heap.size w3 (w3.alloc (.cells #[.int .i64 y.k, .int .i64 y.v, .int .i64 y.n, .slice A2 m2 d2] 24)) := (Below.refl _ _).alloc (Nat.le_refl _) _
                obtain ⟨zs, hrow, hrep⟩ := HN3.out.row
                obtain ⟨ys2, hrd2, hav2, hrf2⟩ := HR2.out.below hbb
                refine wpList_app_apart elemCond2 rfl (.tmp 47) (.tmp 49) rfl W1.heap.size A' nn c' zs rfl (own_below_all hrow hbb) _ A2 m2 d2 rfl ys2 hrd2 hrf2.one' (by omega) (by omega) (by simp only [World.size_alloc]; omega) ?_
                intro A4 c4 w5 hown5 hb5 hg5 hap5
                have HN5 := Lib.hid (NSt.push (HN3.out.below hbb) (M := y.ps.toL) (hrep.only (Only.of_below (S := fun _ => False) hbb) (fun _ h => h.elim)) (by rw [ofL_toL2]; exact hrf2) (by rw [toL_len, ← HM2.out]) hg5 hown5 hap5)
                have HB5 := Lib.hid (HB3.out.trans ((hbb.mono (by omega)).trans hb5))
                clear hbb hrow hrep hrd2 hav2 hrf2 hown5 hb5 hg5 hap5 kc kl
                go_wp2_with (fail)
                go_roundw
                case rel => exact ⟨i + 1, nn + m2, A4, c4, xs ++ [y], hlt, by omega, by go_num, rfl, HXS2.out, by rw [HFN.out]; exact HN5.out, HB5.out⟩
                case measure => simp [intOf]; omega
              · have HFN := Lib.hid (show flatN kind (xs ++ [y]) = flatN kind xs ++ [y] by rw [flatN_app, if_neg hyk])
                have hyk2 : (y.k == kind) = false := by simpa using hyk
                clear hyk
                go_wp2_with (at_builtin; refine Hid.out ?_)
                refine Lib.hid ?_
                rw [← World.size_alloc w3 (.cells #[.int .i64 y.k, .int .i64 y.v, .int .i64 y.n, .slice A2 m2 d2] 24)]
                have hbb : Below w3.heap.size w3 (w3.alloc (.cells #[.int .i64 y.k, .int .i64 y.v, .int .i64 y.n, .slice A2 m2 d2] 24)) := (Below.refl _ _).alloc (Nat.le_refl _) _
                generalize w3.alloc (.cells #[.int .i64 y.k, .int .i64 y.v, .int .i64 y.n, .slice A2 m2 d2] 24) = w4 at hbb ⊢
                have hbc := hbb.trans (((Below.refl w4.heap.size w4).alloc (Nat.le_refl _) (.cells #[.int .i64 y.k, .int .i64 y.v, .int .i64 y.n, .slice A2 m2 d2] 24)).mono hbb.size)
                have hz4 := hbb.size
                obtain ⟨zs, hrow, hrep⟩ := HN3.out.row
                refine wpList_push_apart elemCond2 rfl (.tmp 51) (.tmp 53) rfl W1.heap.size A' nn c' zs rfl (own_below_all hrow hbc) w4.heap.size rfl [.int .i64 y.k, .int .i64 y.v, .int .i64 y.n, .slice A2 m2 d2] rfl (new_cells _ _ _) (by intro u hu; simp at hu; rcases hu with rfl | rfl | rfl | rfl <;> rfl) (by omega) (by omega) (by simp only [World.size_alloc]; omega) ?_
                intro A4 c4 w5 hown5 hb5 hg5 hap5
                have HN5 := Lib.hid (NSt.push (HN3.out.below hbc) (M := [y]) (hrep.only (Only.of_below (S := fun _ => False) hbc) (fun _ h => h.elim)) (RepF.one1 (HR2.out.below hbc)) rfl hg5 hown5 hap5)
                have HB5 := Lib.hid (HB3.out.trans ((hbc.mono (by omega)).trans hb5))
                clear hbb hbc hrow hrep hown5 hb5 hg5 hap5 kc kl
                go_wp2_with (fail)
                go_roundw
                case rel => exact ⟨i + 1, nn + 1, A4, c4, xs ++ [y], hlt, by omega, by go_num, rfl, HXS2.out, by rw [HFN.out]; exact HN5.out, HB5.out⟩
                case measure => simp [intOf]; omega
          · obtain rfl : i = m := by omega
            have hii : ¬ (i : Int) < (i : Int) := by omega
            have hxs : seqO (ps.toL.map (norm f true)) = some xs := by
              have := HXS.out
              rwa [HL.out, List.take_length] at this
            obtain ⟨hnr, hne⟩ := norm_xs HK23.out HOB.out hxs HPN.out
            have HNL2 := Lib.hid (HNL.out xs hxs)
            change ∀ x ∈ flatN kind xs, Nrm x at hnr
            change (flatN kind xs).foldl (insC kind) [] ≠ [] at hne
            have HNR := Lib.hid hnr
            have HPE := Lib.hid (unl_perm (kind := kind) hnr)
            have HSO := Lib.hid (fun (R : List CT) (h1 : R.Perm (unl kind (flatN kind xs))) (h2 : R.Pairwise fun a b => a.cmp b ≤ 0) => unl_sorted hnr h1 h2)
            have HNE := Lib.hid hne
            clear hxs hnr hne HXS
            generalize (flatN kind xs).foldl (insC kind) [] = R at HNL2 HPE HSO HNE
            go_wp2_with (fail)
            refine (unless_any (S := fun q => S q ∨ q = w.heap.size + 1) kind (w.heap.size + 1 + 1) (CF.ofL (flatN kind xs)) A' nn c' wr (HN.out.rep HS1.out) (by rw [toL_ofL2]; exact HNR.out) (by omega) HKr.out).mono ?_
            rintro e' w3 ⟨A3, n3, c3, ys, rfl, hrow, hrep, hlen, hb3⟩
            rw [toL_ofL2] at hrep hlen
            have HB3 := Lib.hid (HBw.out.trans (hb3.mono HBw.out.size))
            have HK3 := Lib.hid (HKr.out.below hb3 HKr.out.lt)
            have HX3 := Lib.hid (HXr.out.below hb3 HXr.out.lt)
            have HBu := Lib.hid hb3
            have HRO := Lib.hid hrow
            have HRE := Lib.hid hrep
            have HLN := Lib.hid (hlen.trans HPE.out.length_eq.symm)
            have xl := HX3.out.lt
            have hz3 := hb3.size
            have hxr := HXr.out.lt
            clear hrow hrep hlen hb3
            have HR3 := Lib.hid (own_rep (S := fun q => S q ∨ q = w.heap.size + 1) HRO.out (fun q hq => by have := HS1.out q hq; omega) (HRE.out.only (Only.of_below (S := fun _ => False) HBu.out) (fun _ h => h.elim)))
            have hS4 : ∀ q, S q → q < w.heap.size := HS.out
            have HB3s := HB3.out.size
            by_cases h1 : n3 = 1
            · subst h1
              obtain ⟨b, off, y, B4, n4, e4, rfl, hb, hSb, hx, h0, h1, h2, h3, hr⟩ := HR3.out.elem (i := 0) (by omega)
              simp only [Nat.zero_mul, Nat.add_zero] at h0 h1 h2 h3
              have HRR := Lib.hid (show r = some y by
                have hl := HLN.out
                rw [HNL2.out]
                obtain ⟨z, hz⟩ := List.length_eq_one_iff.1 hl.symm
                have hp := HPE.out
                rw [hz] at hp
                have hu := List.perm_singleton.1 hp.symm
                rw [toL_ofL2, hu] at hx
                injection hx with hx
                rw [hz, ← hx]
                rfl)
              have HR4 := Lib.hid hr
              have x0 := HX3.out.cell 0
              have x1 := HX3.out.cell 1
              have x2 := HX3.out.cell 2
              have x3 := HX3.out.cell 3
              have f0 := HX3.out.frozen 0
              have f1 := HX3.out.frozen 1
              have f2 := HX3.out.frozen 2
              have f3 := HX3.out.frozen 3
              clear hr hx hSb
              go_wp2_with (fail)
              first | (refine calls_named ?_; intro W6 hW6) | (refine body_named ?_; intro W6 hW6) | (refine wpList_named ?_; intro W6 hW6) | (refine wp_named ?_; intro W6 hW6)
              have ho : Only (· = w.heap.size + 1) w3 W6 := by rw [← hW6]; exact HX3.out.set4.2
              have hx6 : Blk W6 (w.heap.size + 1) 24 #[.int .i64 y.k, .int .i64 y.v, .int .i64 y.n, .slice B4 n4 e4] := by rw [← hW6]; exact HX3.out.set4.1
              clear hW6
              have r0 := hx6.cell 0
              have r1 := hx6.cell 1
              have r2 := hx6.cell 2
              have r3 := hx6.cell 3
              refine bodyPost_ret (v := .agg #[.int .i64 y.k, .int .i64 y.v, .int .i64 y.n, .slice B4 n4 e4]) (by simp [results, Tryz.results64, go_sem, r0, r1, r2, r3]; try rfl) rfl ⟨ho.below HB3.out HB3.out.size (fun q hq => by rw [show q = w.heap.size + 1 from hq]; omega), ?_⟩
              rw [HRR.out]
              exact ⟨B4, n4, e4, rfl, (HR4.out.only ho (fun q hq => .inr hq)).sub fun q hq => .inl hq⟩
            · by_cases h16 : 16 < n3
              · have HRR := Lib.hid (show r = none by
                  have hl := HLN.out
                  rw [HNL2.out]
                  unfold normR
                  split
                  · simp only [List.length_singleton] at hl; omega
                  · rw [if_pos (by omega)])
                go_wp2_with (fail)
                exact ⟨rfl, HB3.out, by rw [HRR.out]⟩
              · have h0 : 0 < n3 := by
                  have hl := HLN.out
                  have := List.length_pos_iff.2 HNE.out
                  omega
                obtain ⟨g, rfl⟩ : ∃ g, A3 = some ⟨g, 0, none⟩ := by
                  rcases HRO.out.2 with ⟨e1, _⟩ | ⟨g', cap', cur, e1, _⟩
                  · injection e1 with e1 e2; omega
                  · injection e1 with e1; exact ⟨g', e1⟩
                have h16' : n3 ≤ 16 := by omega
                have n1 : ¬ (n3 : Int) = 1 := by omega
                go_wp2_with (fail)
                refine (csort_any (S := fun q => S q ∨ q = w.heap.size + 1) (w0 := wr) w3 wr.heap.size g n3 c3 (unl kind (flatN kind xs)) ys (HLN.out.trans HPE.out.length_eq).symm (by omega) (Nat.le_refl _) HBu.out HRE.out HRO.out).mono ?_
                rintro e' w5 ⟨rfl, l', zs, hp5, hs5, hr5, hrd5, hb5⟩
                rw [HSO.out l' hp5 hs5] at hr5
                have HB5 := Lib.hid (HB3.out.trans (hb5.mono HBw.out.size))
                have hb5r := HBu.out.trans hb5
                have HX5 := Lib.hid (HXr.out.below hb5r hxr)
                have HK5 := Lib.hid (HKr.out.below hb5r HKr.out.lt)
                have hz5 := hb5.size
                have HR5 := Lib.hid (show RepH (fun q => S q ∨ q = w.heap.size + 1) w5 (CF.ofL R) (some ⟨g, 0, none⟩) n3 c3 from ⟨zs, hrd5, fun _ p hp hs => by
                  injection hp with hp
                  have h6 := HS1.out _ hs
                  have h7 := (HRO.out.lt g rfl).1
                  rw [← hp] at h6
                  simp only at h6
                  omega, hr5.only (Only.of_below (S := fun _ => False) hb5r) (fun _ h => h.elim)⟩)
                have HRR := Lib.hid (show r = some ⟨kind, 0, 0, CF.ofL R⟩ by
                  have hl := HLN.out
                  rw [HNL2.out]
                  unfold normR
                  split
                  · simp only [List.length_singleton] at hl; omega
                  · rw [if_neg (by omega)])
                have x0 := HX5.out.cell 0
                have x1 := HX5.out.cell 1
                have x2 := HX5.out.cell 2
                have x3 := HX5.out.cell 3
                have f0 := HX5.out.frozen 0
                have f1 := HX5.out.frozen 1
                have f2 := HX5.out.frozen 2
                have f3 := HX5.out.frozen 3
                have kc := HK5.out.cell 0
                have kl := HK5.out.lt
                have xl5 := HX5.out.lt
                clear hp5 hs5 hr5 hrd5 hb5 hb5r
                go_wp2_with (fail)
                first | (refine calls_named ?_; intro W6 hW6) | (refine body_named ?_; intro W6 hW6) | (refine wpList_named ?_; intro W6 hW6) | (refine wp_named ?_; intro W6 hW6)
                have ho : Only (· = w.heap.size + 1) w5 W6 := by rw [← hW6]; exact HX5.out.set4.2
                have hx6 : Blk W6 (w.heap.size + 1) 24 #[.int .i64 kind, .int .i64 0, .int .i64 0, .slice (some ⟨g, 0, none⟩) n3 c3] := by rw [← hW6]; exact HX5.out.set4.1
                clear hW6
                have r0 := hx6.cell 0
                have r1 := hx6.cell 1
                have r2 := hx6.cell 2
                have r3 := hx6.cell 3
                refine bodyPost_ret (v := .agg #[.int .i64 kind, .int .i64 0, .int .i64 0, .slice (some ⟨g, 0, none⟩) n3 c3]) (by simp [results, Tryz.results64, go_sem, r0, r1, r2, r3]; try rfl) rfl ⟨ho.below HB5.out HB5.out.size (fun q hq => by rw [show q = w.heap.size + 1 from hq]; omega), ?_⟩
                rw [HRR.out]
                exact ⟨some ⟨g, 0, none⟩, n3, c3, rfl, (HR5.out.only ho (fun q hq => .inr hq)).sub fun q hq => .inl hq⟩
theorem normal_any : ∀ f, NRM f
  | 0 => fun _ _ _ _ _ _ _ _ _ hd _ => absurd hd (by omega)
  | f + 1 => norm_of f (normal_any f)
end Go.Proofs.YticpjdjdimpglaaGreatDoor
