/- The reference's Cores by its contract. -/
import Derived.Test.YticpjdjdimpglaaGreatDoorCFpaMTRow
import Derived.Test.YticpjdjdimpglaaGreatDoorCFpaMNor
import Derived.Test.YticpjdjdimpglaaGreatDoorCFpaMWText3
import Derived.Test.YticpjdjdimpglaaGreatDoorCFpaMFRules
import Derived.Deep.RegionLaw
namespace Go.Proofs.YticpjdjdimpglaaGreatDoor
set_option linter.unusedVariables false
set_option linter.unusedSimpArgs false
open Go.RowKit
section
variable {P : Program} {ops : Array Oper} {o : Oper} {a : Act} {w : World} {Q : Exit → Act → World → Prop}
theorem step_push_apart {K : Act → World → Prop} {F : Prop} {t e : TypeId} {size bytes : Nat} (E : Elem P t e size bytes) (hgd : o.guard = none) (s x : Operand)
    (ho : o.op = .call { callee := .builtin .append, args := #[s, x], argTypes := #[t, t] })
    (B : Nat) (A : Option Addr) (n c : Nat) (xs : List Value) (hs : a.eval s = .slice A n c) (hown : w.ownsRow B e size (.slice A n c) n xs)
    (g : Nat) (hx : a.eval x = .slice (some ⟨g, 0, none⟩) 1 1) (news : List Value) (hl : news.length = size) (hnews : ∀ j u, news[j]? = some u → w.cell? ⟨g, j, none⟩ = some u) (h1 : ∀ u ∈ news, u.oneCell' = true)
    (hbytes : (n + 1) * bytes ≤ 140737488355328) (h63 : n + 1 ≤ 9223372036854775807) (hbase : B ≤ w.heap.size)
    (h : ∀ A' c' w', w'.ownsRow B e size (.slice A' (n + 1) c') (n + 1) (xs ++ news) → Below B w w' → w.grownBy w' (Value.slice A n c).ownBlock → (∀ k, (Value.slice A' (n + 1) c').ownBlock = some k → (Value.slice A n c).ownBlock = some k ∨ w.heap.size ≤ k) → K (a.put o.dst (.slice A' (n + 1) c')) w') :
    if Region.wanted o (yielded ops a.tmps) = true then Oper.wp P o a w K Q else F := by
  have hw : Region.wanted o (yielded ops a.tmps) = true := by simp [Region.wanted, hgd]
  rw [if_pos hw]
  obtain ⟨v', w', hr, r1, r2, r3⟩ := run_push_apart (P := P) (w := w) E o.type B (.slice A n c) n xs hown ⟨g, 0, none⟩ 1 1 news (by omega) (fun j u hj => by
    have hadd : (⟨g, 0, none⟩ : Addr).add j = ⟨g, j, none⟩ := by unfold Addr.add; split <;> simp_all
    rw [hadd]
    exact hnews j u hj) h1 (by unfold maxLen; omega) hbytes hbase
  obtain ⟨A', c', rfl⟩ := own_shape r1
  unfold Oper.wp execOp
  simp only [ho, resolve, invoke, builtin, Sem.run_bind, Sem.run_pure, Result.andThen_ok, List.map_toArray, List.map_cons, List.map_nil, hs, hx, hr]
  exact h A' c' w' r1 ((Below.refl B w).grown r2 hbase (fun k hk => (hown.lt k hk).1)) r2 r3
end
theorem NSt.only {S So : Nat → Prop} {w0 wr W : World} {L : List CT} {A : Option Addr} {n c : Nat} (h : NSt S w0 wr L A n c) (ho : Only So wr W) (hn : ∀ k, So k → k < w0.heap.size) (hs : ∀ k, So k → S k) : NSt S w0 W L A n c := by
  obtain ⟨xs, h1, h2⟩ := h.row
  exact ⟨h.len, Nat.le_trans h.base ho.size, xs, own_only h1 ho (fun k hk he => by have h3 := (h1.lt k hk).1; have h4 := hn k he; omega), h2.only ho (fun k hk => .inl (hs k hk))⟩
theorem only_sub {S S' : Nat → Prop} {w w' : World} (h : Only S w w') (hs : ∀ k, S k → S' k) : Only S' w w' := ⟨h.os, h.tape, h.output, h.size, fun k hk hn => h.block k hk fun h' => hn (hs k h')⟩
theorem cnt_memC {F : CF} {x : CT} (h : x ∈ F.toL) : x.ps.cnt < F.cnt := by
  induction F with
  | nil => cases h
  | cons k v n ps r _ ih =>
    rw [CF.toL] at h
    rw [CF.cnt]
    rcases List.mem_cons.1 h with rfl | h
    · show ps.cnt < _; omega
    · have := ih h; omega
/-- The contract of Cores for conditions of a size. -/
def CRS (N : Nat) : Prop := ∀ (S S' : Nat → Prop) (x : CT) (A : Option Addr) (m d : Nat) (w : World), x.ps.cnt < N → x.ps.cnt ≤ 900000 → (∀ k, S k → k < w.heap.size) → RepH S' w x.ps A m d →
  Calls Tryz.prog 31 #[.agg #[.int .i64 x.k, .int .i64 x.v, .int .i64 x.n, .slice A m d]] w fun e w' => Below w.heap.size w w' ∧ ∃ A' m' d', e = .returned (.agg #[.int .i64 (cores x).k, .int .i64 (cores x).v, .int .i64 (cores x).n, .slice A' m' d']) ∧ RepH S w' (cores x).ps A' m' d'
set_option maxHeartbeats 8000000 in
set_option maxRecDepth 100000 in
theorem crs_of (N : Nat) (ih : CRS N) : CRS (N + 1) := by
  intro S S' x A m d w hN hz hS h
  have HI := Lib.hid ih
  have HR := Lib.hid h
  have HN := Lib.hid hN
  have HZ := Lib.hid hz
  have HS := Lib.hid hS
  have HCX := Lib.hid (show cores x = ⟨(core x).k, (core x).v, (core x).n, CF.ofL ((core x).ps.toL.map cores)⟩ by rw [cores_def, corF_list])
  have HCC := Lib.hid (core_cnt x)
  clear ih h hN hz hS
  generalize cores x = z at HCX ⊢
  go_enter Tryz.func31, Tryz.ntmps31
  go_wp2_with (fail)
  first | (refine calls_named ?_; intro W hW) | (refine body_named ?_; intro W hW) | (refine wpList_named ?_; intro W hW) | (refine wp_named ?_; intro W hW)
  have hb : Below w.heap.size w W := by rw [← hW]; exact ((Below.refl _ _).alloc (Nat.le_refl _) _).alloc (by simp) _
  have hc : Blk W w.heap.size 24 #[.int .i64 x.k, .int .i64 x.v, .int .i64 x.n, .slice A m d] := by rw [← hW]; exact (Blk.new w _ _).alloc _
  have hr : Blk W (w.heap.size + 1) 24 #[.int .i64 0, .int .i64 0, .int .i64 0, .slice none 0 0] := by
    rw [← hW, ← World.size_alloc w]
    exact Blk.new _ _ _
  clear hW
  have HB := Lib.hid hb
  have HC := Lib.hid hc
  have HRB := Lib.hid hr
  clear hb hc hr
  refine (rcore_any (S := fun k => w.heap.size ≤ k) (c := x) ((HR.out.new.below HB.out).sub fun k hk => .inr hk)).mono ?_
  rintro e w1 ⟨⟨A1, m1, d1, rfl, hr1⟩, hb1⟩
  have HON1 := Lib.hid (show Only (fun k => w.heap.size ≤ k) W w1 from Only.of_below hb1)
  have HC1 := Lib.hid (HC.out.below hb1 HC.out.lt)
  have HRB1 := Lib.hid (HRB.out.below hb1 HRB.out.lt)
  have HY := Lib.hid hr1
  have HML := Lib.hid (hr1.len.trans (toL_len _).symm)
  have hcap := hr1.choose_spec.1.cap
  have hbig := hr1.choose_spec.1.big
  clear hr1 hb1 HC HRB
  generalize core x = y at *
  unfold cV
  dsimp only [vi]
  have c0 := HC1.out.cell 0
  have c1 := HC1.out.cell 1
  have c2 := HC1.out.cell 2
  have c3 := HC1.out.cell 3
  have f0 := HC1.out.frozen 0
  have f1 := HC1.out.frozen 1
  have f2 := HC1.out.frozen 2
  have f3 := HC1.out.frozen 3
  have cl := HC1.out.lt
  go_wp2_with (with_reducible refine at_op (Op.load 3 (.tmp 7)) rfl ?_; refine Hid.out ?_)
  refine Lib.hid ?_
  first | (refine calls_named ?_; intro W2 hW) | (refine body_named ?_; intro W2 hW) | (refine wpList_named ?_; intro W2 hW) | (refine wp_named ?_; intro W2 hW)
  have hO2 : Only (· = w.heap.size) w1 W2 := by rw [← hW]; exact HC1.out.set4.2
  have hc2 : Blk W2 w.heap.size 24 #[.int .i64 y.k, .int .i64 y.v, .int .i64 y.n, .slice A1 m1 d1] := by rw [← hW]; exact HC1.out.set4.1
  clear hW c0 c1 c2 c3 f0 f1 f2 f3 cl
  have HON2 := Lib.hid (HON1.out.trans (only_sub hO2 (fun k hk => by rw [show k = w.heap.size from hk]; exact Nat.le_refl _)))
  have HRB2 := Lib.hid (HRB1.out.only hO2 (fun he => by have h1 : w.heap.size + 1 = w.heap.size := he; omega))
  have HC2 := Lib.hid hc2
  have c0 := hc2.cell 0
  have c1 := hc2.cell 1
  have c2 := hc2.cell 2
  have cl := hc2.lt
  clear hO2 hc2 HON1 HC1 HRB1
  go_wp2_with (fail)
  clear c0 c1 c2 cl
  have hb3 : Below W2.heap.size W2 (W2.alloc (.cells #[.int .i64 y.k, .int .i64 y.v, .int .i64 y.n, .slice none 0 0] 24)) := (Below.refl _ _).alloc (Nat.le_refl _) _
  have hx3 : Blk (W2.alloc (.cells #[.int .i64 y.k, .int .i64 y.v, .int .i64 y.n, .slice none 0 0] 24)) W2.heap.size 24 #[.int .i64 y.k, .int .i64 y.v, .int .i64 y.n, .slice none 0 0] := Blk.new _ _ _
  generalize W2.alloc (.cells #[.int .i64 y.k, .int .i64 y.v, .int .i64 y.n, .slice none 0 0] 24) = w3 at hb3 hx3 ⊢
  have HX3 := Lib.hid hx3
  have HC3 := Lib.hid (HC2.out.below hb3 HC2.out.lt)
  have HRB3 := Lib.hid (HRB2.out.below hb3 HRB2.out.lt)
  have HON3 := Lib.hid (HON2.out.trans (Only.of_below hb3))
  have HXB := Lib.hid (show w.heap.size + 1 < W2.heap.size from HRB2.out.lt)
  have HS3 := Lib.hid (show ∀ k, (S k ∨ k = w.heap.size ∨ k = w.heap.size + 1 ∨ k = W2.heap.size) → k < w3.heap.size from fun k hk => by
    have h1 := HX3.out.lt
    have h2 := HXB.out
    rcases hk with hk | rfl | rfl | rfl
    · have := HS.out k hk; omega
    · omega
    · omega
    · omega)
  clear hb3 hx3 HC2 HRB2 HON2
  generalize W2.heap.size = xb at *
  go_loopw [4] (fun q wr => ∃ (i : Nat) (A' : Option Addr) (c' : Nat), i ≤ m1 ∧ q = .int .i64 i ∧ Hid (NSt (fun k => S k ∨ k = w.heap.size ∨ k = w.heap.size + 1 ∨ k = xb) w3 wr ((y.ps.toL.take i).map cores) A' i c') ∧ Hid (Blk wr xb 24 #[.int .i64 y.k, .int .i64 y.v, .int .i64 y.n, .slice A' i c']) ∧
    Hid (Blk wr w.heap.size 24 #[.int .i64 y.k, .int .i64 y.v, .int .i64 y.n, .slice A1 m1 d1]) ∧ Hid (Blk wr (w.heap.size + 1) 24 #[.int .i64 0, .int .i64 0, .int .i64 0, .slice none 0 0]) ∧ Hid (Only (fun k => w.heap.size ≤ k) W wr)) (fun q _ => m1 - (intOf q).toNat)
  case atStart => exact ⟨0, none, 0, Nat.zero_le _, rfl, NSt.zero, HX3.out, HC3.out, HRB3.out, HON3.out⟩
  case round =>
    obtain ⟨i, A', c', him, rfl, HNS, HXr, HCr, HRr, HON⟩ := hrel
    have x3 := HXr.out.cell 3
    have xf := HXr.out.frozen 3
    have xl := HXr.out.lt
    have k3 := HCr.out.cell 3
    have kl := HCr.out.lt
    by_cases hlt : i < m1
    · obtain ⟨b, off, p, Bp, np, ep, rfl, hbl, hSb, hp, g0, g1, g2, g3, hr⟩ := (HY.out.only HON.out (fun k hk => hk)).elem hlt
      have HTK := Lib.hid (show (y.ps.toL.take (i + 1)).map cores = (y.ps.toL.take i).map cores ++ [cores p] by rw [List.take_add_one, hp]; simp)
      have HPM := Lib.hid (show p.ps.cnt < y.ps.cnt by
        obtain ⟨a1, a2⟩ := List.getElem?_eq_some_iff.1 hp
        exact cnt_memC (by rw [← a2]; exact List.getElem_mem a1))
      have HRp := Lib.hid hr
      clear hp hr hSb
      have hi2 : (i : Int) < (m1 : Int) := by omega
      have hdr : Below wr.heap.size wr wr.drew := ⟨rfl, rfl, rfl, Nat.le_refl _, fun _ _ => rfl⟩
      have HS2 := Lib.hid (show ∀ k, ((S k ∨ k = w.heap.size ∨ k = w.heap.size + 1 ∨ k = xb) ∨ (Value.slice A' i c').ownBlock = some k) → k < wr.heap.size from fun k hk => by
        rcases hk with hk | hk
        · exact Nat.lt_of_lt_of_le (HS3.out k hk) HNS.out.base
        · obtain ⟨zs, hz, _⟩ := HNS.out.row
          exact (hz.lt k hk).2)
      have HPC := Lib.hid (HI.out (fun k => (S k ∨ k = w.heap.size ∨ k = w.heap.size + 1 ∨ k = xb) ∨ (Value.slice A' i c').ownBlock = some k) _ p Bp np ep wr.drew (by have h1 := HPM.out; have h2 := HCC.out; have h3 := HN.out; omega) (by have h1 := HPM.out; have h2 := HCC.out; have h3 := HZ.out; omega) HS2.out (HRp.out.below hdr))
      obtain ⟨zs, hrow, hrep⟩ := HNS.out.row
      have HRW := Lib.hid hrow
      have HRP := Lib.hid hrep
      have hnb := HNS.out.base
      have hzz : i ≤ 1000000 := by have h1 := HML.out; have h2 := toL_len y.ps; have h3 := len_cnt y.ps; have h4 := HCC.out; have h5 := HZ.out; omega
      clear hrow hrep
      go_wp2_with (fail)
      go_region_law (first
        | (go_simp
           go_at_call 31
           refine HPC.out.mono ?_
           rintro e' wn ⟨hbn, An, mn, dn, rfl, hrn⟩
           have HBN := Lib.hid (hdr.trans hbn)
           have HRN := Lib.hid hrn
           have x3 := (hbn.cell (p := ⟨xb, 3, none⟩) xl).trans x3
           have xf : wn.frozen? ⟨xb, 3, none⟩ = false := (HXr.out.below HBN.out xl).frozen 3
           have k3 := (hbn.cell (p := ⟨w.heap.size, 3, none⟩) kl).trans k3
           have xl := Nat.lt_of_lt_of_le xl hbn.size
           clear hbn hrn)
        | (have hba : Below wn.heap.size wn (wn.alloc (.cells #[.int .i64 (cores p).k, .int .i64 (cores p).v, .int .i64 (cores p).n, .slice An mn dn] 24)) := (Below.refl _ _).alloc (Nat.le_refl _) _
           have HBA := Lib.hid (HBN.out.trans (hba.mono HBN.out.size))
           refine step_push_apart elemCond2 rfl (.tmp 22) (.tmp 29) rfl w3.heap.size A' i c' zs (by simp [Act.eval, Act.put]) (own_below_all HRW.out HBA.out) wn.heap.size (by simp [Act.eval, Act.put]) [.int .i64 (cores p).k, .int .i64 (cores p).v, .int .i64 (cores p).n, .slice An mn dn] rfl (new_cells _ _ _) (by intro u hu; simp at hu; rcases hu with rfl | rfl | rfl | rfl <;> rfl) (by omega) (by omega) (by have := HBN.out.size; simp only [World.size_alloc]; omega) ?_
           intro A5 c5 w5 hown5 hb5 hg5 hap5
           have HN5 := Lib.hid (NSt.push (HNS.out.below HBA.out) (M := [cores p]) (HRP.out.only (Only.of_below (S := fun _ => False) HBA.out) (fun _ h => h.elim)) (RepF.one1 (HRN.out.below hba)) rfl hg5 hown5 hap5)
           have hO5 := Only.of_grown (S := fun k => (Value.slice A' i c').ownBlock = some k) hg5 (fun k hk => hk)
           have hne : ∀ k, (Value.slice A' i c').ownBlock = some k → w3.heap.size ≤ k := fun k hk => (HRW.out.lt k hk).1
           have HX5 := Lib.hid ((HXr.out.below HBA.out HXr.out.lt).only hO5 (fun hk => by have h1 := hne _ hk; have h2 := HX3.out.lt; omega))
           have HC5 := Lib.hid ((HCr.out.below HBA.out HCr.out.lt).only hO5 (fun hk => by have h1 := hne _ hk; have h2 := HC3.out.lt; omega))
           have HR5 := Lib.hid ((HRr.out.below HBA.out HRr.out.lt).only hO5 (fun hk => by have h1 := hne _ hk; have h2 := HRB3.out.lt; omega))
           have HO5 := Lib.hid ((HON.out.trans (Only.of_below HBA.out)).trans (only_sub hO5 (fun k hk => by have h1 := hne _ hk; have h2 := HC3.out.lt; omega)))
           have x3 : w5.cell? ⟨xb, 3, none⟩ = some (.slice A' i c') := HX5.out.cell 3
           have xf : w5.frozen? ⟨xb, 3, none⟩ = false := HX5.out.frozen 3
           have xl := HX5.out.lt
           clear hba hown5 hb5 hg5 hap5 hO5 hne))
      all_goals
        have hOx : Only (· = xb) w5 (w5.setCell ⟨xb, 3, none⟩ (.slice A5 (i + 1) c5)) := Only.set (S := (· = xb)) w5 (p := ⟨xb, 3, none⟩) rfl _
        have HN6 := Lib.hid (HN5.out.only hOx (fun k hk => by rw [show k = xb from hk]; exact HX3.out.lt) (fun k hk => .inr (.inr (.inr hk))))
        rw [← HTK.out] at HN6
        have HX6 := Lib.hid (show Blk (w5.setCell ⟨xb, 3, none⟩ (.slice A5 (i + 1) c5)) xb 24 #[.int .i64 y.k, .int .i64 y.v, .int .i64 y.n, .slice A5 (i + 1) c5] from HX5.out.set 3 (.slice A5 (i + 1) c5))
        have HC6 := Lib.hid (HC5.out.far (p := ⟨xb, 3, none⟩) (fun he => by have h1 := HXB.out; have h2 : w.heap.size = xb := he; omega) (.slice A5 (i + 1) c5))
        have HR6 := Lib.hid (HR5.out.far (p := ⟨xb, 3, none⟩) (fun he => by have h1 := HXB.out; have h2 : w.heap.size + 1 = xb := he; omega) (.slice A5 (i + 1) c5))
        have HO6 := Lib.hid (HO5.out.trans (only_sub hOx (fun k hk => by have h1 := HXB.out; have h2 : k = xb := hk; omega)))
        clear hOx x3 xf xl k3 kl
        generalize w5.setCell ⟨xb, 3, none⟩ (.slice A5 (i + 1) c5) = w6 at HN6 HX6 HC6 HR6 HO6 ⊢
        go_wp2_with (fail)
        go_roundw
        case rel => exact ⟨i + 1, A5, c5, by omega, by go_num, HN6.out, HX6.out, HC6.out, HR6.out, HO6.out⟩
        case measure => simp [intOf]; omega
    · obtain rfl : i = m1 := by omega
      have hii : ¬ (i : Int) < (i : Int) := by omega
      have x0 := HXr.out.cell 0
      have x1 := HXr.out.cell 1
      have x2 := HXr.out.cell 2
      have r0 := HRr.out.cell 0
      have r1 := HRr.out.cell 1
      have r2 := HRr.out.cell 2
      have r3 := HRr.out.cell 3
      have rf0 := HRr.out.frozen 0
      have rf1 := HRr.out.frozen 1
      have rf2 := HRr.out.frozen 2
      have rf3 := HRr.out.frozen 3
      have rl := HRr.out.lt
      go_wp2_with (fail)
      generalize hW : (((wr.setCell ⟨w.heap.size + 1, 0, none⟩ (.int .i64 y.k)).setCell ⟨w.heap.size + 1, 1, none⟩ (.int .i64 y.v)).setCell ⟨w.heap.size + 1, 2, none⟩ (.int .i64 y.n)).setCell ⟨w.heap.size + 1, 3, none⟩ (.slice A' i c') = W8
      have hO8 : Only (· = w.heap.size + 1) wr W8 := by rw [← hW]; exact HRr.out.set4.2
      have hr8 : Blk W8 (w.heap.size + 1) 24 #[.int .i64 y.k, .int .i64 y.v, .int .i64 y.n, .slice A' i c'] := by rw [← hW]; exact HRr.out.set4.1
      have HN8 := Lib.hid (HNS.out.only hO8 (fun k hk => by rw [show k = w.heap.size + 1 from hk]; exact HRB3.out.lt) (fun k hk => .inr (.inr (.inl hk))))
      have HO8 := Lib.hid (HON.out.trans (only_sub hO8 (fun k hk => by have h2 : k = w.heap.size + 1 := hk; omega)))
      clear hW hO8 x0 x1 x2 x3 xf xl k3 kl r0 r1 r2 r3 rf0 rf1 rf2 rf3 rl
      have r0 := hr8.cell 0
      have r1 := hr8.cell 1
      have r2 := hr8.cell 2
      have r3 := hr8.cell 3
      refine bodyPost_ret (P := Tryz.prog) (fn := Tryz.f31) (v := .agg #[.int .i64 y.k, .int .i64 y.v, .int .i64 y.n, .slice A' i c']) (by simp [results, Tryz.results31, go_sem, r0, r1, r2, r3]; try rfl) rfl ?_
      refine ⟨HO8.out.below HB.out HB.out.size (fun k hk => hk), A', i, c', by rw [HCX.out], ?_⟩
      have h1 := HN8.out.rep HS3.out
      rw [List.take_of_length_le (by have := HML.out; omega)] at h1
      rw [HCX.out]
      exact h1.sub fun k hk => .inl hk
theorem crs_all : ∀ N, CRS N
  | 0 => fun _ _ _ _ _ _ _ h => absurd h (by omega)
  | N + 1 => crs_of N (crs_all N)
end Go.Proofs.YticpjdjdimpglaaGreatDoor
