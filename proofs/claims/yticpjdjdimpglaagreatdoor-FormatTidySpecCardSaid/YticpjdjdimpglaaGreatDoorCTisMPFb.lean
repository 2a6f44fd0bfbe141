/- The reference's flat by its contract. -/
import Derived.Test.YticpjdjdimpglaaGreatDoorCTisMPFa
import Derived.Test.YticpjdjdimpglaaGreatDoorCTisMPTid
import Derived.Test.YticpjdjdimpglaaGreatDoorCTisMRSam
import Derived.Test.YticpjdjdimpglaaGreatDoorCTisMPNum
namespace Go.Proofs.YticpjdjdimpglaaGreatDoor
set_option linter.unusedVariables false
set_option linter.unusedSimpArgs false
open Go.RowKit
theorem elemIR : Elem Tryz.prog 57 3 1 8 := Elem.mk' Tryz.underlying57 (z := .int .i64 0) (by kernel_rfl) rfl (by omega)
theorem vi_one (ks : List Int) : ∀ u ∈ ks.map vi, u.oneCell' = true := by
  intro u hu
  obtain ⟨l, _, rfl⟩ := List.mem_map.1 hu
  rfl
/-- The row of the known criteria, apart from the block that O owns. -/
def KL (w : World) (O : Value) (A : Option Addr) (n c : Nat) (kn : List Int) : Prop := ∃ ks : List Int, Rd w w.heap.size 1 A n c (ks.map vi) ∧ Av (fun k => O.ownBlock = some k) A n ∧ ∀ y, y ∈ ks ↔ y ∈ kn
theorem KL.below {w W : World} {O : Value} {A : Option Addr} {n c : Nat} {kn : List Int} (h : KL w O A n c kn) (hb : Below w.heap.size w W) : KL W O A n c kn := by
  obtain ⟨ks, h1, h2, h3⟩ := h
  exact ⟨ks, (h1.below hb).more hb.size, h2, h3⟩
theorem KL.grown {w W : World} {O O' : Value} {A : Option Addr} {n c : Nat} {kn : List Int} (h : KL w O A n c kn) (hg : w.grownBy W O.ownBlock) (hap : ∀ k, O'.ownBlock = some k → O.ownBlock = some k ∨ w.heap.size ≤ k) : KL W O' A n c kn := by
  obtain ⟨ks, h1, h2, h3⟩ := h
  refine ⟨ks, h1.av h2 (Only.of_grown (S := fun k => O.ownBlock = some k) hg (fun k hk => hk)) (fun _ h => h), fun hn p hp hk => ?_, h3⟩
  rcases hap _ hk with h4 | h4
  · exact h2 hn p hp h4
  · obtain ⟨b, off, e, hb, _⟩ := h1.cells hn
    rw [hp] at e
    injection e with e
    rw [e] at h4
    dsimp only at h4
    omega
theorem KL.same {w : World} {O : Value} {A : Option Addr} {n c : Nat} {kn kn' : List Int} (h : KL w O A n c kn) (hs : ∀ y, y ∈ kn ↔ y ∈ kn') : KL w O A n c kn' := by
  obtain ⟨ks, h1, h2, h3⟩ := h
  exact ⟨ks, h1, h2, fun y => (h3 y).trans (hs y)⟩
theorem KL.new {w : World} {O : Value} {B : Nat} {A : Option Addr} {n c : Nat} {ks : List Int} (h : w.ownsRow B 3 1 (.slice A n c) n (ks.map vi)) (hO : ∀ k, O.ownBlock = some k → k < B) : KL w O A n c ks := by
  refine ⟨ks, own_rd h, fun hn p hp hk => ?_, fun _ => Iff.rfl⟩
  have h1 := hO _ hk
  have h2 := h.lt p.block (by
    rw [hp]
    rcases h.2 with ⟨e1, _⟩ | ⟨g', cap', cur, e1, _⟩
    · rw [hp] at e1
      simp at e1
    · rw [hp] at e1
      simp only [Value.slice.injEq, Option.some.injEq] at e1
      rw [e1.1]
      rfl)
  omega
/-- The state of flat's loop, at index i. -/
structure PSt (S : Nat → Prop) (w : World) (F : SF) (kn : List Int) (n : Nat) (i nn : Nat) (A : Option Addr) (c : Nat) (Ak : Option Addr) (nk ck : Nat) (wr : World) : Prop where
  ex : ∃ (G : SF) (kn' : List Int), FlatAt kn F kn' G (F.toL.drop i) ∧ SSt S w wr G A nn c ∧ KL wr (.slice A nn c) Ak nk ck kn' ∧ nk + szL (F.toL.drop i) ≤ n + F.sz ∧ nn + szL (F.toL.drop i) ≤ F.sz
  hb : Below w.heap.size w wr
theorem KL.arg {w W : World} {A : Option Addr} {n c : Nat} {ks kn : List Int} (h : Rd w w.heap.size 1 A n c (ks.map vi)) (hk : ∀ y, y ∈ ks ↔ y ∈ kn) (hb : Below w.heap.size w W) {O : Value} (hO : ∀ k, O.ownBlock = some k → w.heap.size ≤ k) : KL W O A n c kn := by
  refine ⟨ks, (h.below hb).more hb.size, fun hn p hp hk => ?_, hk⟩
  have h1 := hO _ hk
  obtain ⟨b, off, e, hb, _⟩ := h.cells hn
  rw [hp] at e
  injection e with e
  rw [e] at h1
  dsimp only at h1
  omega
/-- The contract of flat for steps of a size. -/
def PFL (N : Nat) : Prop := ∀ (S : Nat → Prop) (F : SF) (A : Option Addr) (m d : Nat) (Ak : Option Addr) (nk ck : Nat) (ks kn : List Int) (w : World), F.sz < N → nk + F.sz ≤ 100000 → (∀ k, S k → k < w.heap.size) → RepT S w F A m d → Rd w w.heap.size 1 Ak nk ck (ks.map vi) → (∀ y, y ∈ ks ↔ y ∈ kn) →
  Calls Tryz.prog 68 #[.slice A m d, .slice Ak nk ck] w (FlPost S w (flat kn F))
section
variable {ops : Array Oper} {o : Oper} {a : Act} {Q : Exit → Act → World → Prop}
/-- append([]int{}, known...) as one step. -/
theorem stepK1 {K : Act → World → Prop} {E : Prop} {w5 W : World} {ls : List Int} (hgd : o.guard = none) (s x : Operand) (ho : o.op = .call { callee := .builtin .append, args := #[s, x], argTypes := #[57, 57] })
    (g : Nat) (hs : a.eval s = .slice (some ⟨g, 0, none⟩) 0 0) (hb : Blk W g 3 #[]) (hg0 : w5.heap.size ≤ g) (X : Option Addr) (m c : Nat) (hx : a.eval x = .slice X m c) (hr : Rd w5 w5.heap.size 1 X m c (ls.map vi)) (hB : Below w5.heap.size w5 W) (hm : m ≤ 900000)
    (h : ∀ A' c' w', w'.ownsRow w5.heap.size 3 1 (.slice A' m c') m (ls.map vi) → Below w5.heap.size w5 w' → W.grownBy w' (some g) → K (a.put o.dst (.slice A' m c')) w') :
    if Region.wanted o (yielded ops a.tmps) = true then Oper.wp Tryz.prog o a W K Q else E := by
  refine step_app_apart elemIR hgd s x ho w5.heap.size (some ⟨g, 0, none⟩) 0 0 [] hs (own_of_blk2 (xs := []) (m := 0) (size := 1) hb rfl hg0 (by omega)) w5.heap.size X m c hx (ls.map vi) (hr.below hB) (vi_one ls) (by omega) (by omega) hB.size ?_
  intro A' c' w' h1 h2 h3 _
  rw [Nat.zero_add, List.nil_append] at h1
  rw [Nat.zero_add]
  exact h A' c' w' h1 (hB.trans h2) h3
end
theorem cell_grown {W w' : World} {g k i : Nat} {v : Value} (hg : W.grownBy w' (some g)) (hk : k < W.heap.size) (hne : k ≠ g) (h : W.cell? ⟨k, i, none⟩ = some v) : w'.cell? ⟨k, i, none⟩ = some v := by
  have h1 := (Only.of_grown (S := (· = g)) hg (fun j hj => by injection hj with hj; exact hj.symm)).block k hk hne
  have h2 : w'.cell? ⟨k, i, none⟩ = W.cell? ⟨k, i, none⟩ := by
    unfold World.cell?
    rw [h1]
  rw [h2]
  exact h
theorem new_cell1 (w : World) (v : Value) (t : TypeId) : ∀ j u, [v][j]? = some u → (w.alloc (.cells #[v] t)).cell? ⟨w.heap.size, j, none⟩ = some u := new_cells w [v] t
set_option maxHeartbeats 16000000 in
set_option maxRecDepth 100000 in
theorem pfl_of (N : Nat) (ih : PFL N) : PFL (N + 1) := by
  intro S F A m d Ak nk ck ks kn w hN hz hS h hr0 hks
  have HI := Lib.hid ih
  have HR := Lib.hid h
  have HS := Lib.hid hS
  have HN := Lib.hid hN
  have HZ := Lib.hid hz
  have HL := Lib.hid (h.len.trans (stoL_len F).symm)
  have HSZ := Lib.hid (show ∀ x ∈ F.toL, x.th.sz + x.el.sz + 2 ≤ F.sz from fun x hx => ssz_memF hx)
  generalize hrr : flat kn F = r
  have HE := Lib.hid hrr
  have hc := h.choose_spec.1.cap
  have hbg := h.choose_spec.1.big
  have HK0 := Lib.hid (fun (W : World) (hb : Below w.heap.size w W) (O : Value) (hO : ∀ k, O.ownBlock = some k → w.heap.size ≤ k) => KL.arg hr0 hks hb hO)
  clear ih h hS hN hz hrr hr0 hks
  go_enter Tryz.func68, Tryz.ntmps68
  go_wp2_with (fail)
  first | (refine calls_named ?_; intro w1 hW) | (refine body_named ?_; intro w1 hW) | (refine wpList_named ?_; intro w1 hW) | (refine wp_named ?_; intro w1 hW)
  have hb1 : Below w.heap.size w w1 := by rw [← hW]; exact (Below.refl _ _).alloc (Nat.le_refl _) _
  have hx1 : Blk w1 w.heap.size 56 #[] := by rw [← hW]; exact Blk.new w _ _
  clear hW
  have HB1 := Lib.hid hb1
  have HST := Lib.hid (show PSt S w F kn nk 0 0 (some ⟨w.heap.size, 0, none⟩) 0 Ak nk ck w1 from ⟨⟨.nil, kn, FlatAt.start kn F, ⟨rfl, hb1.size, [], own_of_blk2 (xs := []) (m := 0) (size := 8) hx1 rfl (Nat.le_refl _) (by omega), rfl⟩, HK0.out w1 hb1 _ (fun k hk => by
      have : w.heap.size = k := by simpa [Value.ownBlock] using hk
      omega), by rw [List.drop_zero, szL_toL]; exact Nat.le_refl _, by rw [List.drop_zero, szL_toL]; omega⟩, hb1⟩)
  clear hb1 hx1 HK0
  go_loopw [1, 6, 7] (fun kv o q wr => ∃ (i nn : Nat) (A' : Option Addr) (c' : Nat) (Ak' : Option Addr) (nk' ck' : Nat), i ≤ m ∧ q = .int .i64 i ∧ o = .slice A' nn c' ∧ kv = .slice Ak' nk' ck' ∧ Hid (PSt S w F kn nk i nn A' c' Ak' nk' ck' wr)) (fun _ _ q _ => m - (intOf q).toNat)
  case atStart => exact ⟨0, 0, _, 0, Ak, nk, ck, Nat.zero_le _, rfl, rfl, rfl, HST.out⟩
  case round =>
    obtain ⟨i, nn, A', c', Ak', nk', ck', him, rfl, rfl, rfl, HF⟩ := hrel
    clear HST HB1
    obtain ⟨G, kn', hfa, hss, hkl, hn1, hn2⟩ := HF.out.ex
    have HB := Lib.hid HF.out.hb
    clear HF
    by_cases hlt : i < m
    · obtain ⟨b, off, x, Bc, nc, ec, B1, n1, e1, B2, n2, e2, rfl, hb, hSb, hx, ⟨g0, g1, g2, g3, g4, g5, g6, g7⟩, k1, k2, k3⟩ := HR.out.elem hlt
      rw [← HB.out.cell (p := ⟨b, _, none⟩) hb] at g0 g1 g2 g3 g4 g5 g6 g7
      obtain ⟨hdr, hmem⟩ := drop_mem hx
      rw [hdr] at hfa hn1 hn2
      rw [szL_cons] at hn1 hn2
      have HFA := Lib.hid hfa
      have HXZ := Lib.hid (HSZ.out x hmem)
      have hbl : b < wr.heap.size := Nat.lt_of_lt_of_le hb HB.out.size
      have HC1 := Lib.hid k1
      have HC2 := Lib.hid k2
      have HC3 := Lib.hid k3
      clear hfa hx hdr hmem k1 k2 k3 hSb
      have hi2 : (i : Int) < (m : Int) := by omega
      have HN1 := Lib.hid hn1
      have HN2 := Lib.hid hn2
      have HSS := Lib.hid hss
      have HKL := Lib.hid hkl
      obtain ⟨ks, hks, hkav, hkm⟩ := hkl
      have HKM := Lib.hid hkm
      have HKS := Lib.hid hks
      have hkc := hks.cap
      have hkb := hks.big
      have HSL := Lib.hid (show ∀ k, (S k ∨ (Value.slice A' nn c').ownBlock = some k) → k < wr.heap.size ∧ (S k ∨ w.heap.size ≤ k) from fun k hk => by
        rcases hk with hk | hk
        · exact ⟨Nat.lt_of_lt_of_le (HS.out k hk) HB.out.size, .inl hk⟩
        · have := HSS.out.own_lt k hk
          exact ⟨this.2, .inr this.1⟩)
      clear hn1 hn2 hss hks hkav hkm
      by_cases hk : x.k = 1
      · have hk1 : (x.k == 1) = true := by rw [hk]; rfl
        have HK := Lib.hid hk
        clear hk
        go_wp2_with (fail)
        first | (refine calls_named ?_; intro W2 hW2) | (refine body_named ?_; intro W2 hW2) | (refine wpList_named ?_; intro W2 hW2) | (refine wp_named ?_; intro W2 hW2)
        have hb2 : Below wr.heap.size wr W2 := by rw [← hW2]; exact (Below.refl _ _).alloc (Nat.le_refl _) _
        have hx2 : Blk W2 wr.heap.size 56 #[.int .i64 x.k, .int .i64 x.b, .int .i64 x.c.k, .int .i64 x.c.v, .int .i64 x.c.n, .slice Bc nc ec, .slice B1 n1 e1, .slice B2 n2 e2] := by rw [← hW2]; exact Blk.new wr _ _
        clear hW2 g0 g1 g2 g3 g4 g5 g6 g7
        have HB2 := Lib.hid (HB.out.trans (hb2.mono HB.out.size))
        have HBr := Lib.hid hb2
        have HX2 := Lib.hid hx2
        clear hb2 hx2
        refine (phas_any ks Ak' nk' ck' x.b W2 (HKS.out.below HBr.out)).mono ?_
        rintro e w' ⟨rfl, rfl⟩
        have HCN := Lib.hid (show kn'.contains x.b = ks.contains x.b by
          rw [Bool.eq_iff_iff, List.contains_iff_mem, List.contains_iff_mem]
          exact (HKM.out x.b).symm)
        cases hcn : ks.contains x.b with
        | true =>
          have HST := Lib.hid (FlatAt.step HFA.out (stepF_by HK.out (HCN.out.trans hcn)))
          clear hcn
          go_wp2_with (fail)
          go_roundw
          case rel => exact ⟨i + 1, nn, A', c', Ak', nk', ck', hlt, by go_num, rfl, rfl, ⟨⟨_, _, by rw [appF_nil] at HST; exact HST.out, HSS.out.below HBr.out, HKL.out.below HBr.out, by have := HN1.out; omega, by have := HN2.out; omega⟩, HB2.out⟩⟩
          case measure => simp [intOf]; omega
        | false =>
          have HST := Lib.hid (FlatAt.step HFA.out (stepF_new HK.out (HCN.out.trans hcn)))
          clear hcn
          have x0 := HX2.out.cell 0
          have x1 := HX2.out.cell 1
          have x2 := HX2.out.cell 2
          have x3 := HX2.out.cell 3
          have x4 := HX2.out.cell 4
          have x5 := HX2.out.cell 5
          have x6 := HX2.out.cell 6
          have x7 := HX2.out.cell 7
          have xl := HX2.out.lt
          go_wp2_with (at_builtin; refine Hid.out ?_)
          refine Lib.hid ?_
          clear x0 x1 x2 x3 x4 x5 x6 x7
          have hbb : Below W2.heap.size W2 (W2.alloc (.cells #[.int .i64 x.k, .int .i64 x.b, .int .i64 x.c.k, .int .i64 x.c.v, .int .i64 x.c.n, .slice Bc nc ec, .slice B1 n1 e1, .slice B2 n2 e2] 56)) := (Below.refl _ _).alloc (Nat.le_refl _) _
          have hwz := HBr.out.size
          have HBW := Lib.hid (HB2.out.trans (hbb.mono HB2.out.size))
          have hbt : Below wr.heap.size wr (W2.alloc (.cells #[.int .i64 x.k, .int .i64 x.b, .int .i64 x.c.k, .int .i64 x.c.v, .int .i64 x.c.n, .slice Bc nc ec, .slice B1 n1 e1, .slice B2 n2 e2] 56)) := HBr.out.trans (hbb.mono hwz)
          have hssb := HSS.out.below hbt
          obtain ⟨zs, hrow, hrep⟩ := hssb.row
          have hnn : nn ≤ 900000 := by have := HN2.out; have := HZ.out; omega
          have hzw := HBW.out.size
          refine wpList_push_apart elemStep2 rfl (.tmp 35) (.tmp 37) rfl w.heap.size A' nn c' zs rfl hrow W2.heap.size rfl [.int .i64 x.k, .int .i64 x.b, .int .i64 x.c.k, .int .i64 x.c.v, .int .i64 x.c.n, .slice Bc nc ec, .slice B1 n1 e1, .slice B2 n2 e2] rfl (new_cells _ _ _) (by intro u hu; simp at hu; rcases hu with rfl | rfl | rfl | rfl | rfl | rfl | rfl | rfl <;> rfl) (by omega) (by omega) hzw ?_
          intro A4 c4 w5 hown5 hb5 hg5 hap5
          have hnews : RepS (fun k => S k ∨ (Value.slice A' nn c').ownBlock = some k) (W2.alloc (.cells #[.int .i64 x.k, .int .i64 x.b, .int .i64 x.c.k, .int .i64 x.c.v, .int .i64 x.c.n, .slice Bc nc ec, .slice B1 n1 e1, .slice B2 n2 e2] 56)) x.one [vi x.k, vi x.b, vi x.c.k, vi x.c.v, vi x.c.n, .slice Bc nc ec, .slice B1 n1 e1, .slice B2 n2 e2] :=
            RepS.st ((HC1.out.new.below HBW.out).sub fun k hk => (HSL.out k hk).2) ((HC2.out.new.below HBW.out).sub fun k hk => (HSL.out k hk).2) ((HC3.out.new.below HBW.out).sub fun k hk => (HSL.out k hk).2)
          have HSS5 := Lib.hid (SSt.push (M := x.one) hssb hrep hnews rfl hg5 hown5 hap5)
          have HKL5 := Lib.hid ((HKL.out.below hbt).grown hg5 hap5)
          have HX5 := Lib.hid ((HX2.out.below hbb xl).only (Only.of_grown hg5 (fun k hk => hk)) (fun hk => by
            have := (hrow.lt _ hk).2
            have h3 := HSS.out.own_lt _ hk
            omega))
          have HB5 := Lib.hid (HBW.out.grown hg5 (by have := HBW.out.size; exact this) (fun k hk => (HSS.out.own_lt _ hk).1))
          clear hbb hbt hssb hrow hrep hnews hown5 hb5 hg5 hap5 HX2 xl
          obtain ⟨ls, hls, hlav, hlm⟩ := HKL5.out
          have HLS := Lib.hid hls
          have HLM := Lib.hid hlm
          have y1 := HX5.out.cell 1
          have yl := HX5.out.lt
          clear hls hlav hlm
          go_wp2_with (fail)
          have hkz : nk' ≤ 900000 := by have := HN1.out; have := HZ.out; omega
          have HF2 := Lib.hid (show Blk ((w5.alloc (.cells #[] 3)).alloc (.cells #[.int .i64 x.b] 3)).drew w5.heap.size 3 #[] from (Blk.new w5 3 #[]).alloc _)
          have HG2 := Lib.hid (show World.cell? ((w5.alloc (.cells #[] 3)).alloc (.cells #[.int .i64 x.b] 3)).drew ⟨w5.heap.size + 1, 0, none⟩ = some (.int .i64 x.b) by
            have h := (Blk.new (w5.alloc (.cells #[] 3)) 3 #[.int .i64 x.b]).cell 0
            rw [World.size_alloc] at h
            exact h)
          have HF3 := Lib.hid (show Blk ((w5.alloc (.cells #[.int .i64 x.b] 3)).alloc (.cells #[] 3)).drew (w5.heap.size + 1) 3 #[] by
            have h := Blk.new (w5.alloc (.cells #[.int .i64 x.b] 3)) 3 #[]
            rw [World.size_alloc] at h
            exact h)
          have HG3 := Lib.hid (show World.cell? ((w5.alloc (.cells #[.int .i64 x.b] 3)).alloc (.cells #[] 3)).drew ⟨w5.heap.size, 0, none⟩ = some (.int .i64 x.b) from ((Blk.new w5 3 #[.int .i64 x.b]).alloc _).cell 0)
          have HD2 := Lib.hid (show Below w5.heap.size w5 ((w5.alloc (.cells #[] 3)).alloc (.cells #[.int .i64 x.b] 3)).drew from (((Below.refl _ _).alloc (Nat.le_refl _) _).alloc (by simp) _).trans ⟨rfl, rfl, rfl, Nat.le_refl _, fun _ _ => rfl⟩)
          have HD3 := Lib.hid (show Below w5.heap.size w5 ((w5.alloc (.cells #[.int .i64 x.b] 3)).alloc (.cells #[] 3)).drew from (((Below.refl _ _).alloc (Nat.le_refl _) _).alloc (by simp) _).trans ⟨rfl, rfl, rfl, Nat.le_refl _, fun _ _ => rfl⟩)
          have HS2 := Lib.hid (show w5.heap.size + 1 < (World.heap ((w5.alloc (.cells #[] 3)).alloc (.cells #[.int .i64 x.b] 3)).drew).size by show _ < ((w5.alloc (.cells #[] 3)).alloc (.cells #[.int .i64 x.b] 3)).heap.size; simp)
          have HS3 := Lib.hid (show w5.heap.size < (World.heap ((w5.alloc (.cells #[.int .i64 x.b] 3)).alloc (.cells #[] 3)).drew).size by show _ < ((w5.alloc (.cells #[.int .i64 x.b] 3)).alloc (.cells #[] 3)).heap.size; simp; try omega)
          go_region_law (first
            | (refine stepK1 (w5 := w5) (W := (w5.alloc (.cells #[] 3)).drew) (ls := ls) rfl (.tmp 39) (.tmp 40) rfl (w5.heap.size) (by simp [Act.eval, Act.put]) ((Blk.new w5 3 #[]) : Blk (w5.alloc (.cells #[] 3)).drew w5.heap.size 3 #[]) (by omega) Ak' nk' ck' (by simp [Act.eval, Act.put]) HLS.out (show Below w5.heap.size w5 (w5.alloc (.cells #[] 3)).drew from below_ad w5 _) (by omega) ?_
               intro A3 c3 w6 hown6 hb6 hg6
               have y1 := (hb6.cell (p := ⟨wr.heap.size, 1, none⟩) yl).trans y1
               have hz6 := hb6.size
               clear hg6)
            | (refine step_push_apart elemIR rfl (.tmp 41) (.tmp 44) rfl w5.heap.size A3 nk' c3 (ls.map vi) (by simp [Act.eval, Act.put]) (own_below_all hown6 ((Below.refl _ _).alloc (Nat.le_refl _) _)) (w6.heap.size) (by simp [Act.eval, Act.put]) [.int .i64 x.b] rfl (new_cell1 _ _ _) (by intro u hu; simp at hu; rw [hu]; rfl) (by omega) (by omega) (by simp only [World.size_alloc]; omega) ?_
               intro A7 c7 w7 hown7 hb7 hg7 hap7
               have HOWN := Lib.hid hown7
               have HB57 := Lib.hid ((hb6.alloc hz6 (.cells #[.int .i64 x.b] 3)).trans hb7)
               clear hown7 hb7 hg7 hap7)
            | (refine stepK1 (w5 := w5) (W := ((w5.alloc (.cells #[] 3)).alloc (.cells #[.int .i64 x.b] 3)).drew) (ls := ls) rfl (.tmp 39) (.tmp 40) rfl (w5.heap.size) (by simp [Act.eval, Act.put]) HF2.out (by omega) Ak' nk' ck' (by simp [Act.eval, Act.put]) HLS.out HD2.out (by omega) ?_
               intro A3 c3 w6 hown6 hb6 hg6
               have y1 := (hb6.cell (p := ⟨wr.heap.size, 1, none⟩) yl).trans y1
               have hz6 := hb6.size
               have hc2 : w6.cell? ⟨w5.heap.size + 1, 0, none⟩ = some (.int .i64 x.b) := cell_grown hg6 HS2.out (by omega) HG2.out
               clear hg6)
            | (refine stepK1 (w5 := w5) (W := ((w5.alloc (.cells #[.int .i64 x.b] 3)).alloc (.cells #[] 3)).drew) (ls := ls) rfl (.tmp 39) (.tmp 40) rfl (w5.heap.size + 1) (by simp [Act.eval, Act.put]) HF3.out (by omega) Ak' nk' ck' (by simp [Act.eval, Act.put]) HLS.out HD3.out (by omega) ?_
               intro A3 c3 w6 hown6 hb6 hg6
               have y1 := (hb6.cell (p := ⟨wr.heap.size, 1, none⟩) yl).trans y1
               have hz6 := hb6.size
               have hc3 : w6.cell? ⟨w5.heap.size, 0, none⟩ = some (.int .i64 x.b) := cell_grown hg6 HS3.out (by omega) HG3.out
               clear hg6)
            | (have hc44 := hc2
               refine step_push_apart elemIR rfl (.tmp 41) (.tmp 44) rfl w5.heap.size A3 nk' c3 (ls.map vi) (by simp [Act.eval, Act.put]) (hown6) (w5.heap.size + 1) (by simp [Act.eval, Act.put]) [.int .i64 x.b] rfl (fun j u hj => by
                 match j with
                 | 0 => simp at hj; rw [← hj]; exact hc44
                 | j + 1 => simp at hj) (by intro u hu; simp at hu; rw [hu]; rfl) (by omega) (by omega) (hz6) ?_
               intro A7 c7 w7 hown7 hb7 hg7 hap7
               have HOWN := Lib.hid hown7
               have HB57 := Lib.hid (hb6.trans hb7)
               clear hown7 hb7 hg7 hap7)
            | (have hc44 := hc3
               refine step_push_apart elemIR rfl (.tmp 41) (.tmp 44) rfl w5.heap.size A3 nk' c3 (ls.map vi) (by simp [Act.eval, Act.put]) (hown6) (w5.heap.size) (by simp [Act.eval, Act.put]) [.int .i64 x.b] rfl (fun j u hj => by
                 match j with
                 | 0 => simp at hj; rw [← hj]; exact hc44
                 | j + 1 => simp at hj) (by intro u hu; simp at hu; rw [hu]; rfl) (by omega) (by omega) (hz6) ?_
               intro A7 c7 w7 hown7 hb7 hg7 hap7
               have HOWN := Lib.hid hown7
               have HB57 := Lib.hid (hb6.trans hb7)
               clear hown7 hb7 hg7 hap7))
          all_goals
            have HSS7 := Lib.hid (HSS5.out.below HB57.out)
            have HKL7 := Lib.hid (show KL w7 (.slice A4 (nn + 1) c4) A7 (nk' + 1) c7 (x.b :: kn') from (KL.new (ks := ls ++ [x.b]) (B := w5.heap.size) (by
              have h := HOWN.out
              rw [show ls.map vi ++ [Value.int .i64 x.b] = (ls ++ [x.b]).map vi by rw [List.map_append]; rfl] at h
              exact h) (fun k hk => (HSS5.out.own_lt k hk).2)).same fun y => by
                rw [List.mem_append, List.mem_singleton, List.mem_cons, HLM.out y]
                exact Or.comm)
            have HB7 := Lib.hid (HB5.out.trans (HB57.out.mono HB5.out.size))
            go_wp2_with (fail)
            go_roundw
            case rel => exact ⟨i + 1, nn + 1, A4, c4, A7, nk' + 1, c7, hlt, by go_num, rfl, rfl, ⟨⟨_, _, HST.out, HSS7.out, HKL7.out, by have := HN1.out; omega, by have := HN2.out; omega⟩, HB7.out⟩⟩
            case measure => simp [intOf]; omega
      · have hkb : (x.k == 1) = false := by simpa using hk
        have HK := Lib.hid hk
        clear hk
        go_wp2_with (fail)
        first | (refine calls_named ?_; intro W2 hW2) | (refine body_named ?_; intro W2 hW2) | (refine wpList_named ?_; intro W2 hW2) | (refine wp_named ?_; intro W2 hW2)
        have hb2 : Below wr.heap.size wr W2 := by rw [← hW2]; exact (Below.refl _ _).alloc (Nat.le_refl _) _
        have hx2 : Blk W2 wr.heap.size 56 #[.int .i64 x.k, .int .i64 x.b, .int .i64 x.c.k, .int .i64 x.c.v, .int .i64 x.c.n, .slice Bc nc ec, .slice B1 n1 e1, .slice B2 n2 e2] := by rw [← hW2]; exact Blk.new wr _ _
        clear hW2 g0 g1 g2 g3 g4 g5 g6 g7
        have HX2 := Lib.hid hx2
        have HB2 := Lib.hid (HB.out.trans (hb2.mono HB.out.size))
        have HBr2 := Lib.hid hb2
        have hz2 := hb2.size
        clear hb2 hx2
        obtain ⟨⟨y, z⟩, hyz⟩ : ∃ q, q = tidy x.c := ⟨_, rfl⟩
        refine (ptidy_any (S := (fun k => S k ∨ (Value.slice A' nn c').ownBlock = some k)) (c := x.c) (fun k hk => Nat.lt_of_lt_of_le (HSL.out k hk).1 hz2) ((HC1.out.new.below HB2.out).sub fun k hk => (HSL.out k hk).2) (by have := HN2.out; have := HZ.out; omega)).mono ?_
        rw [← hyz]
        have HTY := Lib.hid hyz
        clear hyz
        rintro e w3 ⟨hb3, At, mt, dt, rfl, hrt⟩
        have HB3 := Lib.hid (HB2.out.trans (hb3.mono HB2.out.size))
        have HBr3 := Lib.hid (HBr2.out.trans (hb3.mono hz2))
        have HX3 := Lib.hid (HX2.out.below hb3 HX2.out.lt)
        have HRT := Lib.hid hrt
        have hz3 := hb3.size
        clear hb3 hrt HX2
        unfold cV
        dsimp only [vi]
        by_cases hz0 : z = 0
        case neg =>
          have HRR := Lib.hid (show r = .error z by
            rw [← HE.out]
            have h := FlatAt.stop HFA.out (stepF_e1 HK.out (show (tidy x.c).2 ≠ 0 by rw [← HTY.out]; exact hz0))
            rw [← HTY.out] at h
            exact h)
          have hzb : (z != 0) = true := bne_iff_ne.2 hz0
          clear hz0
          go_wp2_with (fail)
          first | (refine calls_named ?_; intro W4 hW4) | (refine body_named ?_; intro W4 hW4) | (refine wpList_named ?_; intro W4 hW4) | (refine wp_named ?_; intro W4 hW4)
          have hb4 : Below w3.heap.size w3 W4 := by rw [← hW4]; exact (Below.refl _ _).alloc (Nat.le_refl _) _
          clear hW4
          have HB4 := Lib.hid (HB3.out.trans (hb4.mono HB3.out.size))
          clear hb4
          go_ret2
          refine ⟨HB4.out, ?_⟩
          rw [HRR.out]
          rfl
        subst hz0
        have HZ0 := Lib.hid (show (tidy x.c).2 = 0 by rw [← HTY.out])
        have x6 := HX3.out.cell 6
        have xl := HX3.out.lt
        go_wp2_with (fail)
        first | (refine calls_named ?_; intro W4 hW4) | (refine body_named ?_; intro W4 hW4) | (refine wpList_named ?_; intro W4 hW4) | (refine wp_named ?_; intro W4 hW4)
        have hb4 : Below w3.heap.size w3 W4 := by rw [← hW4]; exact (Below.refl _ _).alloc (Nat.le_refl _) _
        have hc4 : Blk W4 w3.heap.size 24 #[.int .i64 y.k, .int .i64 y.v, .int .i64 y.n, .slice At mt dt] := by rw [← hW4]; exact Blk.new w3 _ _
        clear hW4 x6
        have HB4 := Lib.hid (HB3.out.trans (hb4.mono HB3.out.size))
        have HBr4 := Lib.hid (HBr3.out.trans (hb4.mono HBr3.out.size))
        have HX4 := Lib.hid (HX3.out.below hb4 xl)
        have HRT4 := Lib.hid (HRT.out.below hb4)
        have HCB4 := Lib.hid hc4
        have hz4 := hb4.size
        clear hb4 hc4 HX3 xl
        have HS4 := Lib.hid (show ∀ k, (S k ∨ (Value.slice A' nn c').ownBlock = some k) → k < W4.heap.size from fun k hk => by have := (HSL.out k hk).1; omega)
        refine (HI.out (fun k => S k ∨ (Value.slice A' nn c').ownBlock = some k) x.th B1 n1 e1 Ak' nk' ck' ks kn' W4 (by have := HXZ.out; have := HN.out; omega) (by have := HN1.out; have := HZ.out; omega) HS4.out ((HC2.out.new.below HB4.out).sub fun k hk => (HSL.out k hk).2) ((HKS.out.below HBr4.out).more HBr4.out.size) HKM.out).mono ?_
        cases ht : flat kn' x.th with
        | error e =>
          rintro e' w5 ⟨hb5, rfl⟩
          have HRR := Lib.hid (show r = .error e by rw [← HE.out]; exact FlatAt.stop HFA.out (stepF_e2 HK.out HZ0.out ht))
          have hne : (e != 0) = true := bne_iff_ne.2 (flat_err _ _ _ ht)
          have HB5 := Lib.hid (HB4.out.trans (hb5.mono HB4.out.size))
          clear hb5 ht
          go_wp2_with (fail)
          go_ret2
          refine ⟨HB5.out, ?_⟩
          rw [HRR.out]
          rfl
        | ok t =>
          rintro e' w5 ⟨hb5, A5, m5, d5, rfl, hr5⟩
          have HTH := Lib.hid ht
          have HB5 := Lib.hid (HB4.out.trans (hb5.mono HB4.out.size))
          have HBr5 := Lib.hid (HBr4.out.trans (hb5.mono HBr4.out.size))
          have HX5 := Lib.hid (HX4.out.below hb5 HX4.out.lt)
          have HRT5 := Lib.hid (HRT4.out.below hb5)
          have HCB5 := Lib.hid (HCB4.out.below hb5 HCB4.out.lt)
          have HR5 := Lib.hid hr5
          have HM5 := Lib.hid hr5.len
          have HTL := Lib.hid (flat_slen _ _ _ ht)
          have hz5 := hb5.size
          clear hb5 hr5 ht HX4 HRT4 HCB4
          have x7 := HX5.out.cell 7
          have xl := HX5.out.lt
          go_wp2_with (fail)
          refine (HI.out (fun k => S k ∨ (Value.slice A' nn c').ownBlock = some k) x.el B2 n2 e2 Ak' nk' ck' ks kn' w5 (by have := HXZ.out; have := HN.out; omega) (by have := HN1.out; have := HZ.out; omega) (fun k hk => Nat.lt_of_lt_of_le (HS4.out k hk) hz5) ((HC3.out.new.below HB5.out).sub fun k hk => (HSL.out k hk).2) ((HKS.out.below HBr5.out).more HBr5.out.size) HKM.out).mono ?_
          clear x7 xl
          cases hf : flat kn' x.el with
          | error e =>
            rintro e' w6 ⟨hb6, rfl⟩
            have HRR := Lib.hid (show r = .error e by rw [← HE.out]; exact FlatAt.stop HFA.out (stepF_e3 HK.out HZ0.out HTH.out hf))
            have hne : (e != 0) = true := bne_iff_ne.2 (flat_err _ _ _ hf)
            have HB6 := Lib.hid (HB5.out.trans (hb6.mono HB5.out.size))
            clear hb6 hf
            go_wp2_with (fail)
            go_ret2
            refine ⟨HB6.out, ?_⟩
            rw [HRR.out]
            rfl
          | ok f =>
            rintro e' w6 ⟨hb6, A6, m6, d6, rfl, hr6⟩
            have HEL := Lib.hid hf
            have HB6 := Lib.hid (HB5.out.trans (hb6.mono HB5.out.size))
            have HBr6 := Lib.hid (HBr5.out.trans (hb6.mono HBr5.out.size))
            have HRT6 := Lib.hid (HRT5.out.below hb6)
            have HCB6 := Lib.hid (HCB5.out.below hb6 HCB5.out.lt)
            have HR56 := Lib.hid (HR5.out.below hb6)
            have HR6 := Lib.hid hr6
            have HFL := Lib.hid (flat_slen _ _ _ hf)
            have hz6 := hb6.size
            clear hb6 hr6 hf HX5 HRT5 HCB5 HR5
            go_wp2_with (fail)
            refine (rsame_all (t.sz + 1) _ _ t f A5 m5 d5 A6 m6 d6 w6 (Nat.lt_succ_self _) HR56.out HR6.out).mono ?_
            rintro e' w7 ⟨rfl, hb7⟩
            have HB7 := Lib.hid (HB6.out.trans (hb7.mono HB6.out.size))
            have HBr7 := Lib.hid (HBr6.out.trans (hb7.mono HBr6.out.size))
            have HRT7 := Lib.hid (HRT6.out.below hb7)
            have HCB7 := Lib.hid (HCB6.out.below hb7 HCB6.out.lt)
            have HR57 := Lib.hid (HR56.out.below hb7)
            have HR67 := Lib.hid (HR6.out.below hb7)
            have hz7 := hb7.size
            have hc5 := HR57.out.choose_spec.1.cap
            have hbg5 := HR57.out.choose_spec.1.big
            clear hb7 HRT6 HCB6 HR56 HR6
            obtain ⟨wo, rfl⟩ : ∃ wo, wo = wr := ⟨_, rfl⟩
            by_cases htf : t = f
            · rw [decide_eq_true htf]
              have HTS := Lib.hid (FlatAt.step HFA.out (stepF_same HK.out HZ0.out HTH.out (HEL.out.trans (congrArg Except.ok htf.symm))))
              have HTm := Lib.hid (HM5.out.trans (stoL_len t).symm)
              have HN5 := Lib.hid (show nk' + m5 + szL (F.toL.drop (i + 1)) ≤ nk + F.sz ∧ nn + m5 + szL (F.toL.drop (i + 1)) ≤ F.sz by
                have h1 := HTL.out
                have h2 := HM5.out
                have h3 := HN1.out
                have h4 := HN2.out
                omega)
              clear htf
              go_wp2_with (at_builtin; refine Hid.out ?_)
              refine Lib.hid ?_
              obtain ⟨zs, hrow, hrep⟩ := (HSS.out.below HBr7.out).row
              obtain ⟨ys, hrd, hav, hrf⟩ := HR57.out
              have hnn : nn + m5 ≤ 900000 := by have := HN5.out; have := HZ.out; omega
              have hzw := HB7.out.size
              refine wpList_app_apart elemStep2 rfl (.tmp 86) (.tmp 87) rfl w.heap.size A' nn c' zs rfl hrow _ A5 m5 d5 rfl ys hrd hrf.one' (by omega) (by omega) hzw ?_
              intro A9 c9 w11 hown11 hb11 hg11 hap11
              have HSS11 := Lib.hid (SSt.push (M := t) (HSS.out.below HBr7.out) hrep (hrf.sub fun k hk => hk) (by rw [← HM5.out]) hg11 hown11 hap11)
              have HKL11 := Lib.hid ((HKL.out.below HBr7.out).grown hg11 hap11)
              have HB11 := Lib.hid (HB7.out.grown hg11 HB7.out.size (fun k hk => (HSS.out.own_lt _ hk).1))
              have HR511 := Lib.hid ((HR57.out.only (Only.of_grown (S := fun k => (Value.slice A' nn c').ownBlock = some k) hg11 (fun k hk => hk)) (fun k hk => .inr hk)).sub (S' := fun _ => False) fun _ h => h.elim)
              clear hrow hrep hrd hav hrf hown11 hb11 hg11 hap11
              go_wp2_with (fail)
              go_loopw [1, 13] (fun kv q wq => ∃ (j : Nat) (Ak2 : Option Addr) (nk2 ck2 : Nat) (kn2 : List Int), j ≤ m5 ∧ q = .int .i64 j ∧ kv = .slice Ak2 nk2 ck2 ∧ nk2 ≤ nk' + j ∧ Hid (KL wq (.slice A9 (nn + m5) c9) Ak2 nk2 ck2 kn2) ∧ Hid (∀ y, y ∈ kn2 ↔ y ∈ (SF.ofL (t.toL.take j)).byL ∨ y ∈ kn') ∧ Hid (SSt S w wq (G.appF t) A9 (nn + m5) c9) ∧ Hid (RepT (fun _ => False) wq t A5 m5 d5) ∧ Hid (Below w.heap.size w wq)) (fun _ q _ => m5 - (intOf q).toNat)
              case atStart => exact ⟨0, Ak', nk', ck', kn', Nat.zero_le _, rfl, rfl, Nat.le_refl _, HKL11.out, fun y => by simp [SF.ofL, SF.byL], HSS11.out, HR511.out, HB11.out⟩
              case round =>
                obtain ⟨j, Ak2, nk2, ck2, kn2, hj, rfl, rfl, hnk2, HKq, HMM, HSq, HRq, HBq⟩ := hrel
                by_cases hjl : j < m5
                · obtain ⟨bq, oq, q, Bd, nd, ed, D1, l1, v1, D2, l2, v2, rfl, hbq, hSq, hq, ⟨q0, q1, q2, q3, q4, q5, q6, q7⟩, -, -, -⟩ := HRq.out.elem hjl
                  have HMJ := Lib.hid (byL_take hq)
                  have hj2 : (j : Int) < (m5 : Int) := by omega
                  clear hq hSq
                  by_cases hk : q.k = 1
                  · have hk1 : (q.k == 1) = true := by rw [hk]; rfl
                    have HQK := Lib.hid hk
                    obtain ⟨ls, hls, hlav, hlm⟩ := HKq.out
                    have HLS := Lib.hid hls
                    have HLM := Lib.hid hlm
                    have hcl := hls.cap
                    have hbl2 := hls.big
                    clear hls hlav hlm hk q2 q3 q4 q5 q6 q7
                    go_wp2_with (fail)
                    have hkz : nk2 ≤ 900000 := by have := HN5.out; have := HZ.out; omega
                    have HF2 := Lib.hid (show Blk ((wr.alloc (.cells #[] 3)).alloc (.cells #[.int .i64 q.b] 3)).drew wr.heap.size 3 #[] from (Blk.new wr 3 #[]).alloc _)
                    have HG2 := Lib.hid (show World.cell? ((wr.alloc (.cells #[] 3)).alloc (.cells #[.int .i64 q.b] 3)).drew ⟨wr.heap.size + 1, 0, none⟩ = some (.int .i64 q.b) by
                      have h := (Blk.new (wr.alloc (.cells #[] 3)) 3 #[.int .i64 q.b]).cell 0
                      rw [World.size_alloc] at h
                      exact h)
                    have HF3 := Lib.hid (show Blk ((wr.alloc (.cells #[.int .i64 q.b] 3)).alloc (.cells #[] 3)).drew (wr.heap.size + 1) 3 #[] by
                      have h := Blk.new (wr.alloc (.cells #[.int .i64 q.b] 3)) 3 #[]
                      rw [World.size_alloc] at h
                      exact h)
                    have HG3 := Lib.hid (show World.cell? ((wr.alloc (.cells #[.int .i64 q.b] 3)).alloc (.cells #[] 3)).drew ⟨wr.heap.size, 0, none⟩ = some (.int .i64 q.b) from ((Blk.new wr 3 #[.int .i64 q.b]).alloc _).cell 0)
                    have HD2 := Lib.hid (show Below wr.heap.size wr ((wr.alloc (.cells #[] 3)).alloc (.cells #[.int .i64 q.b] 3)).drew from (((Below.refl _ _).alloc (Nat.le_refl _) _).alloc (by simp) _).trans ⟨rfl, rfl, rfl, Nat.le_refl _, fun _ _ => rfl⟩)
                    have HD3 := Lib.hid (show Below wr.heap.size wr ((wr.alloc (.cells #[.int .i64 q.b] 3)).alloc (.cells #[] 3)).drew from (((Below.refl _ _).alloc (Nat.le_refl _) _).alloc (by simp) _).trans ⟨rfl, rfl, rfl, Nat.le_refl _, fun _ _ => rfl⟩)
                    have HS2 := Lib.hid (show wr.heap.size + 1 < (World.heap ((wr.alloc (.cells #[] 3)).alloc (.cells #[.int .i64 q.b] 3)).drew).size by show _ < ((wr.alloc (.cells #[] 3)).alloc (.cells #[.int .i64 q.b] 3)).heap.size; simp)
                    have HS3 := Lib.hid (show wr.heap.size < (World.heap ((wr.alloc (.cells #[.int .i64 q.b] 3)).alloc (.cells #[] 3)).drew).size by show _ < ((wr.alloc (.cells #[.int .i64 q.b] 3)).alloc (.cells #[] 3)).heap.size; simp; try omega)
                    go_region_law (first
                      | (refine stepK1 (w5 := wr) (W := (wr.alloc (.cells #[] 3)).drew) (ls := ls) rfl (.tmp 101) (.tmp 102) rfl (wr.heap.size) (by simp [Act.eval, Act.put]) ((Blk.new wr 3 #[]) : Blk (wr.alloc (.cells #[] 3)).drew wr.heap.size 3 #[]) (by omega) Ak2 nk2 ck2 (by simp [Act.eval, Act.put]) HLS.out (show Below wr.heap.size wr (wr.alloc (.cells #[] 3)).drew from below_ad wr _) (by omega) ?_
                         intro A3 c3 w6 hown6 hb6 hg6
                         have q1 := (hb6.cell (p := ⟨bq, oq + j * 8 + 1, none⟩) hbq).trans q1
                         have hz6 := hb6.size
                         clear hg6)
                      | (refine step_push_apart elemIR rfl (.tmp 103) (.tmp 109) rfl wr.heap.size A3 nk2 c3 (ls.map vi) (by simp [Act.eval, Act.put]) (own_below_all hown6 ((Below.refl _ _).alloc (Nat.le_refl _) _)) (w6.heap.size) (by simp [Act.eval, Act.put]) [.int .i64 q.b] rfl (new_cell1 _ _ _) (by intro u hu; simp at hu; rw [hu]; rfl) (by omega) (by omega) (by simp only [World.size_alloc]; omega) ?_
                         intro A7 c7 w7 hown7 hb7 hg7 hap7
                         have HOWN := Lib.hid hown7
                         have HB57 := Lib.hid ((hb6.alloc hz6 (.cells #[.int .i64 q.b] 3)).trans hb7)
                         clear hown7 hb7 hg7 hap7)
                      | (refine stepK1 (w5 := wr) (W := ((wr.alloc (.cells #[] 3)).alloc (.cells #[.int .i64 q.b] 3)).drew) (ls := ls) rfl (.tmp 101) (.tmp 102) rfl (wr.heap.size) (by simp [Act.eval, Act.put]) HF2.out (by omega) Ak2 nk2 ck2 (by simp [Act.eval, Act.put]) HLS.out HD2.out (by omega) ?_
                         intro A3 c3 w6 hown6 hb6 hg6
                         have q1 := (hb6.cell (p := ⟨bq, oq + j * 8 + 1, none⟩) hbq).trans q1
                         have hz6 := hb6.size
                         have hc2 : w6.cell? ⟨wr.heap.size + 1, 0, none⟩ = some (.int .i64 q.b) := cell_grown hg6 HS2.out (by omega) HG2.out
                         clear hg6)
                      | (refine stepK1 (w5 := wr) (W := ((wr.alloc (.cells #[.int .i64 q.b] 3)).alloc (.cells #[] 3)).drew) (ls := ls) rfl (.tmp 101) (.tmp 102) rfl (wr.heap.size + 1) (by simp [Act.eval, Act.put]) HF3.out (by omega) Ak2 nk2 ck2 (by simp [Act.eval, Act.put]) HLS.out HD3.out (by omega) ?_
                         intro A3 c3 w6 hown6 hb6 hg6
                         have q1 := (hb6.cell (p := ⟨bq, oq + j * 8 + 1, none⟩) hbq).trans q1
                         have hz6 := hb6.size
                         have hc3 : w6.cell? ⟨wr.heap.size, 0, none⟩ = some (.int .i64 q.b) := cell_grown hg6 HS3.out (by omega) HG3.out
                         clear hg6)
                      | (have hc44 := hc2
                         refine step_push_apart elemIR rfl (.tmp 103) (.tmp 109) rfl wr.heap.size A3 nk2 c3 (ls.map vi) (by simp [Act.eval, Act.put]) (hown6) (wr.heap.size + 1) (by simp [Act.eval, Act.put]) [.int .i64 q.b] rfl (fun j u hj => by
                           match j with
                           | 0 => simp at hj; rw [← hj]; exact hc44
                           | j + 1 => simp at hj) (by intro u hu; simp at hu; rw [hu]; rfl) (by omega) (by omega) (hz6) ?_
                         intro A7 c7 w7 hown7 hb7 hg7 hap7
                         have HOWN := Lib.hid hown7
                         have HB57 := Lib.hid (hb6.trans hb7)
                         clear hown7 hb7 hg7 hap7)
                      | (have hc44 := hc3
                         refine step_push_apart elemIR rfl (.tmp 103) (.tmp 109) rfl wr.heap.size A3 nk2 c3 (ls.map vi) (by simp [Act.eval, Act.put]) (hown6) (wr.heap.size) (by simp [Act.eval, Act.put]) [.int .i64 q.b] rfl (fun j u hj => by
                           match j with
                           | 0 => simp at hj; rw [← hj]; exact hc44
                           | j + 1 => simp at hj) (by intro u hu; simp at hu; rw [hu]; rfl) (by omega) (by omega) (hz6) ?_
                         intro A7 c7 w7 hown7 hb7 hg7 hap7
                         have HOWN := Lib.hid hown7
                         have HB57 := Lib.hid (hb6.trans hb7)
                         clear hown7 hb7 hg7 hap7))
                    all_goals
                      have HS8 := Lib.hid (HSq.out.below HB57.out)
                      have HR8 := Lib.hid (HRq.out.below HB57.out)
                      have HK8 := Lib.hid (show KL w7 (.slice A9 (nn + m5) c9) A7 (nk2 + 1) c7 (q.b :: kn2) from (KL.new (ks := ls ++ [q.b]) (B := wr.heap.size) (by
                        have h := HOWN.out
                        rw [show ls.map vi ++ [Value.int .i64 q.b] = (ls ++ [q.b]).map vi by rw [List.map_append]; rfl] at h
                        exact h) (fun k hk => (HSq.out.own_lt k hk).2)).same fun y => by
                          rw [List.mem_append, List.mem_singleton, List.mem_cons, HLM.out y]
                          exact Or.comm)
                      have HB8 := Lib.hid (HBq.out.trans (HB57.out.mono HBq.out.size))
                      have HM8 := Lib.hid (show ∀ y, y ∈ q.b :: kn2 ↔ y ∈ (SF.ofL (t.toL.take (j + 1))).byL ∨ y ∈ kn' from fun y => by
                        rw [HMJ.out, List.mem_cons, HMM.out]
                        constructor
                        · rintro (rfl | h | h)
                          · exact .inl (.inr ⟨HQK.out, rfl⟩)
                          · exact .inl (.inl h)
                          · exact .inr h
                        · rintro ((h | ⟨_, rfl⟩) | h)
                          · exact .inr (.inl h)
                          · exact .inl rfl
                          · exact .inr (.inr h))
                      go_wp2_with (fail)
                      go_roundw
                      case rel => exact ⟨j + 1, A7, nk2 + 1, c7, q.b :: kn2, hjl, by go_num, rfl, by omega, HK8.out, HM8.out, HS8.out, HR8.out, HB8.out⟩
                      case measure => simp [intOf]; omega
                  · have hk1 : (q.k == 1) = false := by simpa using hk
                    have HM8 := Lib.hid (show ∀ y, y ∈ kn2 ↔ y ∈ (SF.ofL (t.toL.take (j + 1))).byL ∨ y ∈ kn' from fun y => by
                      rw [HMJ.out, HMM.out]
                      constructor
                      · rintro (h | h)
                        · exact .inl (.inl h)
                        · exact .inr h
                      · rintro ((h | ⟨h, _⟩) | h)
                        · exact .inl h
                        · exact absurd h hk
                        · exact .inr h)
                    clear hk
                    go_wp2_with (fail)
                    go_roundw
                    case rel => exact ⟨j + 1, Ak2, nk2, ck2, kn2, hjl, by go_num, rfl, by omega, HKq.out, HM8.out, HSq.out, HRq.out, HBq.out⟩
                    case measure => simp [intOf]; omega
                · obtain rfl : j = m5 := by omega
                  have hjj : ¬ (j : Int) < (j : Int) := by omega
                  have HK8 := Lib.hid (HKq.out.same (kn' := t.byL ++ kn') fun y => by
                    rw [HMM.out, List.take_of_length_le (by rw [← HTm.out]; exact Nat.le_refl _), sofL_toL, List.mem_append])
                  go_wp2_with (fail)
                  go_roundw
                  case rel => exact ⟨i + 1, nn + j, A9, c9, Ak2, nk2, ck2, hlt, by go_num, rfl, rfl, ⟨⟨_, _, HTS.out, HSq.out, HK8.out, by have := HN5.out; omega, HN5.out.2⟩, HBq.out⟩⟩
                  case measure => simp [intOf]; omega
            · rw [decide_eq_false htf]
              have HNE := Lib.hid htf
              clear htf
              by_cases h0 : m5 = 0
              · subst h0
                have HT0 := Lib.hid (show t.num = 0 by rw [snum_len, ← HM5.out])
                have c0 := HCB7.out.cell 0
                have c1 := HCB7.out.cell 1
                have c2 := HCB7.out.cell 2
                have c3 := HCB7.out.cell 3
                have cl := HCB7.out.lt
                go_wp2_with (fail)
                refine (pnot_any (fun k => S k ∨ (Value.slice A' nn c').ownBlock = some k) y At mt dt w7 (fun k hk => by have := HS4.out k hk; omega) HRT7.out).mono ?_
                rintro e' w8 ⟨hb8, gn, rfl, hrn⟩
                have HB8 := Lib.hid (HB7.out.trans (hb8.mono HB7.out.size))
                have HBr8 := Lib.hid (HBr7.out.trans (hb8.mono HBr7.out.size))
                have HR68 := Lib.hid (HR67.out.below hb8)
                have hz8 := hb8.size
                have HRN := Lib.hid (show RepH (fun k => S k ∨ (Value.slice A' nn c').ownBlock = some k) w8 (cnot y).ps (some ⟨gn, 0, none⟩) 1 1 from hrn)
                have HCN := Lib.hid (show (cnot y).ps.cnt ≤ 400000 by
                  have h1 := (tidy_ok HZ0.out).2.2.1
                  rw [← HTY.out] at h1
                  have h2 : (CF.one y .nil).cnt ≤ 256 := (tcond_ok h1).2.1
                  have h3 : (cnot y).ps.cnt = (CF.one y .nil).cnt := rfl
                  omega)
                clear hb8 hrn c0 c1 c2 c3 cl
                obtain ⟨⟨y2, z2⟩, hyz2⟩ : ∃ q, q = tidy (cnot y) := ⟨_, rfl⟩
                go_wp2_with (fail)
                refine (ptidy_any (S := (fun k => S k ∨ (Value.slice A' nn c').ownBlock = some k)) (c := cnot y) (fun k hk => by have := HS4.out k hk; omega) HRN.out HCN.out).mono ?_
                rw [← hyz2]
                have HTZ := Lib.hid (show tidy (cnot (tidy x.c).1) = (y2, z2) by rw [← HTY.out]; exact hyz2.symm)
                clear hyz2
                rintro e' w9 ⟨hb9, Ad, md, dd, rfl, hrd⟩
                have HB9 := Lib.hid (HB8.out.trans (hb9.mono HB8.out.size))
                have HBr9 := Lib.hid (HBr8.out.trans (hb9.mono HBr8.out.size))
                have HR69 := Lib.hid (HR68.out.below hb9)
                have HRD := Lib.hid hrd
                clear hb9 hrd
                unfold cV
                dsimp only [vi]
                by_cases hz2 : z2 = 0
                · subst hz2
                  have HST := Lib.hid (FlatAt.step HFA.out (stepF_not HK.out HZ0.out HTH.out HEL.out HNE.out HT0.out (by rw [HTZ.out])))
                  rw [HTZ.out] at HST
                  go_wp2_with (at_builtin; refine Hid.out ?_)
                  refine Lib.hid ?_
                  have hb10 : Below w9.heap.size w9 (w9.alloc (.cells #[.int .i64 y2.k, .int .i64 y2.v, .int .i64 y2.n, .slice Ad md dd] 24)) := (Below.refl _ _).alloc (Nat.le_refl _) _
                  rw [← show (w9.alloc (.cells #[.int .i64 y2.k, .int .i64 y2.v, .int .i64 y2.n, .slice Ad md dd] 24)).heap.size = w9.heap.size + 1 from World.size_alloc _ _]
                  generalize w9.alloc (.cells #[.int .i64 y2.k, .int .i64 y2.v, .int .i64 y2.n, .slice Ad md dd] 24) = w10 at hb10 ⊢
                  have HB10 := Lib.hid (HB9.out.trans (hb10.mono HB9.out.size))
                  have HBr10 := Lib.hid (HBr9.out.trans (hb10.mono HBr9.out.size))
                  have HR610 := Lib.hid (HR69.out.below hb10)
                  have HRD10 := Lib.hid (HRD.out.below hb10)
                  clear hb10
                  have hba : Below w10.heap.size w10 (w10.alloc (.cells #[.int .i64 2, .int .i64 0, .int .i64 y2.k, .int .i64 y2.v, .int .i64 y2.n, .slice Ad md dd, .slice A6 m6 d6, .slice none 0 0] 56)) := (Below.refl _ _).alloc (Nat.le_refl _) _
                  have HBW := Lib.hid (HB10.out.trans (hba.mono HB10.out.size))
                  have hbt : Below wo.heap.size wo (w10.alloc (.cells #[.int .i64 2, .int .i64 0, .int .i64 y2.k, .int .i64 y2.v, .int .i64 y2.n, .slice Ad md dd, .slice A6 m6 d6, .slice none 0 0] 56)) := HBr10.out.trans (hba.mono HBr10.out.size)
                  have hssb := HSS.out.below hbt
                  obtain ⟨zs, hrow, hrep⟩ := hssb.row
                  have hnn : nn ≤ 900000 := by have := HN2.out; have := HZ.out; omega
                  have hzw := HBW.out.size
                  refine wpList_push_apart elemStep2 rfl (.tmp 124) (.tmp 128) rfl w.heap.size A' nn c' zs rfl hrow w10.heap.size rfl [.int .i64 2, .int .i64 0, .int .i64 y2.k, .int .i64 y2.v, .int .i64 y2.n, .slice Ad md dd, .slice A6 m6 d6, .slice none 0 0] rfl (new_cells _ _ _) (by intro u hu; simp at hu; rcases hu with rfl | rfl | rfl | rfl | rfl | rfl | rfl | rfl <;> rfl) (by omega) (by omega) hzw ?_
                  intro A9 c9 w11 hown11 hb11 hg11 hap11
                  have hnews : RepS (fun k => S k ∨ (Value.slice A' nn c').ownBlock = some k) (w10.alloc (.cells #[.int .i64 2, .int .i64 0, .int .i64 y2.k, .int .i64 y2.v, .int .i64 y2.n, .slice Ad md dd, .slice A6 m6 d6, .slice none 0 0] 56)) (SF.one 2 0 y2 f .nil .nil) [.int .i64 2, .int .i64 0, .int .i64 y2.k, .int .i64 y2.v, .int .i64 y2.n, .slice Ad md dd, .slice A6 m6 d6, .slice none 0 0] := RepS.st (x := ⟨2, 0, y2, f, .nil⟩) (HRD10.out.below hba) (HR610.out.below hba) RepT.nil
                  have HSS11 := Lib.hid (SSt.push (M := SF.one 2 0 y2 f .nil .nil) hssb hrep hnews rfl hg11 hown11 hap11)
                  have HKL11 := Lib.hid ((HKL.out.below hbt).grown hg11 hap11)
                  have HB11 := Lib.hid (HBW.out.grown hg11 HBW.out.size (fun k hk => (HSS.out.own_lt _ hk).1))
                  clear hba hbt hssb hrow hrep hnews hown11 hb11 hg11 hap11
                  go_wp2_with (fail)
                  go_roundw
                  case rel => exact ⟨i + 1, nn + 1, A9, c9, Ak', nk', ck', hlt, by go_num, rfl, rfl, ⟨⟨_, _, HST.out, HSS11.out, HKL11.out, by have := HN1.out; omega, by have := HN2.out; omega⟩, HB11.out⟩⟩
                  case measure => simp [intOf]; omega
                · have HRR := Lib.hid (show r = .error z2 by
                    rw [← HE.out]
                    have h := FlatAt.stop HFA.out (stepF_e4 HK.out HZ0.out HTH.out HEL.out HNE.out HT0.out (by rw [HTZ.out]; exact hz2))
                    rw [HTZ.out] at h
                    exact h)
                  have hzb : (z2 != 0) = true := bne_iff_ne.2 hz2
                  clear hz2
                  go_wp2_with (fail)
                  first | (refine calls_named ?_; intro W10 hW10) | (refine body_named ?_; intro W10 hW10) | (refine wpList_named ?_; intro W10 hW10) | (refine wp_named ?_; intro W10 hW10)
                  have hb10 : Below w9.heap.size w9 W10 := by rw [← hW10]; exact (Below.refl _ _).alloc (Nat.le_refl _) _
                  clear hW10
                  have HB10 := Lib.hid (HB9.out.trans (hb10.mono HB9.out.size))
                  clear hb10
                  go_ret2
                  refine ⟨HB10.out, ?_⟩
                  rw [HRR.out]
                  rfl
              · have HT0 := Lib.hid (show t.num ≠ 0 by rw [snum_len, ← HM5.out]; exact h0)
                have HST := Lib.hid (FlatAt.step HFA.out (stepF_if HK.out HZ0.out HTH.out HEL.out HNE.out HT0.out))
                rw [← HTY.out] at HST
                have hm5 : ((m5 : Int) == 0) = false := by simpa using h0
                have c0 := HCB7.out.cell 0
                have c1 := HCB7.out.cell 1
                have c2 := HCB7.out.cell 2
                have c3 := HCB7.out.cell 3
                have cl := HCB7.out.lt
                clear h0
                go_wp2_with (at_builtin; refine Hid.out ?_)
                refine Lib.hid ?_
                clear c0 c1 c2 c3 cl
                have hba : Below w7.heap.size w7 (w7.alloc (.cells #[.int .i64 2, .int .i64 0, .int .i64 y.k, .int .i64 y.v, .int .i64 y.n, .slice At mt dt, .slice A5 m5 d5, .slice A6 m6 d6] 56)) := (Below.refl _ _).alloc (Nat.le_refl _) _
                have HBW := Lib.hid (HB7.out.trans (hba.mono HB7.out.size))
                have hbt : Below wo.heap.size wo (w7.alloc (.cells #[.int .i64 2, .int .i64 0, .int .i64 y.k, .int .i64 y.v, .int .i64 y.n, .slice At mt dt, .slice A5 m5 d5, .slice A6 m6 d6] 56)) := HBr7.out.trans (hba.mono HBr7.out.size)
                have hssb := HSS.out.below hbt
                obtain ⟨zs, hrow, hrep⟩ := hssb.row
                have hnn : nn ≤ 900000 := by have := HN2.out; have := HZ.out; omega
                have hzw := HBW.out.size
                refine wpList_push_apart elemStep2 rfl (.tmp 75) (.tmp 80) rfl w.heap.size A' nn c' zs rfl hrow w7.heap.size rfl [.int .i64 2, .int .i64 0, .int .i64 y.k, .int .i64 y.v, .int .i64 y.n, .slice At mt dt, .slice A5 m5 d5, .slice A6 m6 d6] rfl (new_cells _ _ _) (by intro u hu; simp at hu; rcases hu with rfl | rfl | rfl | rfl | rfl | rfl | rfl | rfl <;> rfl) (by omega) (by omega) hzw ?_
                intro A9 c9 w11 hown11 hb11 hg11 hap11
                have hnews : RepS (fun k => S k ∨ (Value.slice A' nn c').ownBlock = some k) (w7.alloc (.cells #[.int .i64 2, .int .i64 0, .int .i64 y.k, .int .i64 y.v, .int .i64 y.n, .slice At mt dt, .slice A5 m5 d5, .slice A6 m6 d6] 56)) (SF.one 2 0 y t f .nil) [.int .i64 2, .int .i64 0, .int .i64 y.k, .int .i64 y.v, .int .i64 y.n, .slice At mt dt, .slice A5 m5 d5, .slice A6 m6 d6] := RepS.st (x := ⟨2, 0, y, t, f⟩) (HRT7.out.below hba) (HR57.out.below hba) (HR67.out.below hba)
                have HSS11 := Lib.hid (SSt.push (M := SF.one 2 0 y t f .nil) hssb hrep hnews rfl hg11 hown11 hap11)
                have HKL11 := Lib.hid ((HKL.out.below hbt).grown hg11 hap11)
                have HB11 := Lib.hid (HBW.out.grown hg11 HBW.out.size (fun k hk => (HSS.out.own_lt _ hk).1))
                clear hba hbt hssb hrow hrep hnews hown11 hb11 hg11 hap11
                go_wp2_with (fail)
                go_roundw
                case rel => exact ⟨i + 1, nn + 1, A9, c9, Ak', nk', ck', hlt, by go_num, rfl, rfl, ⟨⟨_, _, HST.out, HSS11.out, HKL11.out, by have := HN1.out; omega, by have := HN2.out; omega⟩, HB11.out⟩⟩
                case measure => simp [intOf]; omega
    · obtain rfl : i = m := by omega
      have hii : ¬ (i : Int) < (i : Int) := by omega
      have HRR := Lib.hid (show r = .ok G by
        rw [List.drop_eq_nil_of_le (by rw [← HL.out]; omega)] at hfa
        rw [← HE.out]
        exact hfa.end_)
      have HRT := Lib.hid (hss.rep HS.out)
      clear hfa hss hkl
      go_wp2_with (fail)
      go_ret2
      refine ⟨HB.out, ?_⟩
      rw [HRR.out]
      exact ⟨_, _, _, rfl, HRT.out⟩
theorem pfl_all : ∀ N, PFL N
  | 0 => fun _ _ _ _ _ _ _ _ _ _ _ h => absurd h (by omega)
  | N + 1 => pfl_of N (pfl_all N)
end Go.Proofs.YticpjdjdimpglaaGreatDoor
