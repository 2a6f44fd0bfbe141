/- The reference's normal by its contract. -/
import Derived.Test.YticpjdjdimpglaaGreatDoorCTisMPIns
import Derived.Test.YticpjdjdimpglaaGreatDoorCTisMCor
import Derived.Test.YticpjdjdimpglaaGreatDoorCTisMYLaws
namespace Go.Proofs.YticpjdjdimpglaaGreatDoor
set_option linter.unusedVariables false
set_option linter.unusedSimpArgs false
open Go.RowKit
theorem insC_len (kind : Int) (l : List CT) (c : CT) : (insC kind l c).length ≤ l.length + 1 := by
  unfold insC
  split
  · omega
  · rw [List.length_append, List.length_cons]
    have h : ∀ l : List CT, (l.filter fun y => !covers kind c y && decide (y.cmp c < 0)).length + (l.filter fun y => !covers kind c y && !decide (y.cmp c < 0)).length ≤ l.length := by
      intro l
      induction l with
      | nil => exact Nat.le_refl _
      | cons y l ih =>
        rw [List.filter_cons, List.filter_cons]
        cases covers kind c y <;> cases decide (y.cmp c < 0) <;> simp only [Bool.not_true, Bool.not_false, Bool.and_true, Bool.and_false, Bool.true_and, Bool.false_and, if_true, if_false, Bool.false_eq_true, List.length_cons] <;> omega
    have := h l
    omega
theorem fold_len (kind : Int) : ∀ (xs l : List CT), (xs.foldl (insC kind) l).length ≤ l.length + xs.length
  | [], l => Nat.le_refl _
  | x :: xs, l => by
    have h1 := fold_len kind xs (insC kind l x)
    have h2 := insC_len kind l x
    rw [List.foldl_cons, List.length_cons]
    omega
theorem flatN_len {kind : Int} : ∀ {xs : List CT}, (∀ x ∈ xs, x.k = kind → x.ps.toL.length ≤ 16) → (flatN kind xs).length ≤ 16 * xs.length
  | [], _ => Nat.le_refl _
  | x :: xs, h => by
    have ih := flatN_len (kind := kind) (xs := xs) fun y hy => h y (List.mem_cons_of_mem _ hy)
    have h1 := h x (by simp)
    unfold flatN at ih ⊢
    rw [List.flatMap_cons, List.length_append, List.length_cons]
    by_cases hk : x.k = kind
    · have := h1 hk
      rw [if_pos hk]
      omega
    · rw [if_neg hk, List.length_singleton]
      omega
theorem flatN_nrm {kind : Int} (hk : kind = 2 ∨ kind = 3) {xs : List CT} (h : ∀ x ∈ xs, Norm x) : ∀ x ∈ flatN kind xs, Nrm x := fun x hx' => by
  unfold flatN at hx'
  obtain ⟨z, hz, hz2⟩ := List.mem_flatMap.1 hx'
  split at hz2
  · next hc => exact (((h z hz).parts (by omega)).2.2.1 x hz2).1.nrm
  · next hc =>
    have e := List.mem_singleton.1 hz2
    rw [e]
    exact (h z hz).nrm
theorem normR_ne {kind : Int} {L : List CT} (h : L.length ≠ 1) : normR kind L = if 16 < L.length then none else some ⟨kind, 0, 0, CF.ofL L⟩ := by
  unfold normR
  split
  · next x => exact absurd rfl h
  · rfl
theorem seqO_len {α β : Type} {f : β → Option α} {l : List β} {xs : List α} (h : seqO (l.map f) = some xs) : xs.length = l.length := (seqO_some h).1
theorem RepH.empty {S : Nat → Prop} {w : World} {A : Option Addr} : RepH S w .nil A 0 0 := ⟨[], ⟨by simp, by omega, by omega, fun h => absurd h (by omega)⟩, fun hn => (by omega), rfl⟩
/-- What the reference's normal answers. -/
def PNPost (S : Nat → Prop) (w : World) (r : Option CT) (e : Ending) (w' : World) : Prop :=
  Below w.heap.size w w' ∧ match r with
    | some y => ∃ A m d, e = .returned (.tuple #[cV y A m d, .int .i64 0]) ∧ RepH S w' y.ps A m d
    | none => e = .returned (.tuple #[.agg #[.int .i64 0, .int .i64 0, .int .i64 0, .slice none 0 0], .int .i64 2])
/-- What a kind's parts come to. -/
def joinR (kind : Int) (rs : List (Option CT)) : Option CT := (seqO rs).bind fun xs => normR kind ((flatN kind xs).foldl (insC kind) [])
set_option maxHeartbeats 16000000 in
set_option maxRecDepth 100000 in
theorem pjoin (S : Nat → Prop) (kind v n : Int) (Z : CF) (A : Option Addr) (m d : Nat) (w : World) (g : CT → Option CT) (hS : ∀ k, S k → k < w.heap.size) (hk : kind = 2 ∨ kind = 3) (h : RepH S w Z A m d) (hm : m ≤ 16)
    (hc : ∀ z ∈ Z.toL, ∀ (S' : Nat → Prop) (W : World) (B : Option Addr) (q e : Nat), (∀ k, S' k → k < W.heap.size) → RepH S' W z.ps B q e → Calls Tryz.prog 65 #[.agg #[.int .i64 z.k, .int .i64 z.v, .int .i64 z.n, .slice B q e]] W (PNPost S' W (g z)))
    (hg : ∀ z ∈ Z.toL, ∀ y, g z = some y → Norm y) :
    Calls Tryz.prog 65 #[.agg #[.int .i64 kind, .int .i64 v, .int .i64 n, .slice A m d]] w (PNPost S w (joinR kind (Z.toL.map g))) := by
  have HS := Lib.hid hS
  have HR := Lib.hid h
  have HC := Lib.hid hc
  have HG := Lib.hid hg
  have HK := Lib.hid hk
  have HL := Lib.hid (h.len.trans (toL_len Z).symm)
  have k1 : (kind == 1) = false := by rcases hk with rfl | rfl <;> rfl
  have k4 : (kind == 4) = false := by rcases hk with rfl | rfl <;> rfl
  have hcap := h.choose_spec.1.cap
  have hbig := h.choose_spec.1.big
  have HRR := Lib.hid (show joinR kind (Z.toL.map g) = joinR kind (Z.toL.map g) from rfl)
  generalize hr : joinR kind (Z.toL.map g) = r at HRR ⊢
  have HRE := Lib.hid hr.symm
  clear hS h hc hg hk hr HRR
  go_enter Tryz.func65, Tryz.ntmps65
  go_wp2_with (fail)
  first | (refine calls_named ?_; intro w2 hW) | (refine body_named ?_; intro w2 hW) | (refine wpList_named ?_; intro w2 hW) | (refine wp_named ?_; intro w2 hW)
  have HB2 := Lib.hid (show Below w.heap.size w w2 by rw [← hW]; exact (((Below.refl _ _).alloc (Nat.le_refl _) _).alloc (by simp) _).alloc (by simp; omega) _)
  have HX2 := Lib.hid (show Blk w2 w.heap.size 24 #[.int .i64 kind, .int .i64 v, .int .i64 n, .slice A m d] by rw [← hW]; exact ((Blk.new w _ _).alloc _).alloc _)
  have HQ2 := Lib.hid (show Blk w2 (w.heap.size + 1) 24 #[.int .i64 0, .int .i64 0, .int .i64 0, .slice none 0 0] by rw [← hW, ← World.size_alloc w]; exact (Blk.new _ _ _).alloc _)
  have HL2 := Lib.hid (show Blk w2 (w.heap.size + 1 + 1) 24 #[] by rw [← hW]; exact Blk.at_end (by simp [World.size_alloc]))
  clear hW
  have HE2 := Lib.hid (show RepH (fun k => S k ∨ k = w.heap.size + 1) w2 (CF.ofL ((flatN kind []).foldl (insC kind) [])) (some ⟨w.heap.size + 1 + 1, 0, none⟩) 0 0 from RepH.empty)
  go_loopw [7, 8] (fun l q wr => ∃ (i nn : Nat) (A' : Option Addr) (c' : Nat) (xs : List CT), i ≤ m ∧ q = .int .i64 i ∧ l = .slice A' nn c' ∧ nn ≤ 256 ∧ Hid (seqO ((Z.toL.take i).map g) = some xs) ∧ Hid (RepH (fun k => S k ∨ k = w.heap.size + 1) wr (CF.ofL ((flatN kind xs).foldl (insC kind) [])) A' nn c') ∧ Hid (Below w.heap.size w wr) ∧ Hid (Blk wr w.heap.size 24 #[.int .i64 kind, .int .i64 v, .int .i64 n, .slice A m d]) ∧ Hid (Blk wr (w.heap.size + 1) 24 #[.int .i64 0, .int .i64 0, .int .i64 0, .slice none 0 0])) (fun _ q _ => m - (intOf q).toNat)
  case atStart => exact ⟨0, 0, _, 0, [], Nat.zero_le _, rfl, rfl, by omega, rfl, HE2.out, HB2.out, HX2.out, HQ2.out⟩
  case round =>
    obtain ⟨i, nn, A', c', xs, him, rfl, rfl, hnn, HXS, HRW, HB, HX, HQ⟩ := hrel
    clear HE2 HB2 HX2 HQ2 HL2
    obtain ⟨wo, rfl⟩ : ∃ wo, wo = wr := ⟨_, rfl⟩
    have x0 := HX.out.cell 0
    have x3 := HX.out.cell 3
    have xl := HX.out.lt
    have HNX := Lib.hid (show ∀ x ∈ xs, Norm x from fun x hx => by
      obtain ⟨b, hb, hb2⟩ := (seqO_mem HXS.out).1 x hx
      exact HG.out b (List.mem_of_mem_take hb) x hb2)
    have HXL := Lib.hid (show xs.length = i by
      have h1 := seqO_len HXS.out
      rw [h1, List.length_take]
      have := HL.out
      omega)
    by_cases hlt : i < m
    · obtain ⟨b, off, z, Bz, nz, ez, rfl, hb, hSb, hx, g0, g1, g2, g3, hrz⟩ := HR.out.elem hlt
      have hbl : b < wo.heap.size := Nat.lt_of_lt_of_le hb HB.out.size
      rw [← HB.out.cell (p := ⟨b, _, none⟩) hb] at g0 g1 g2 g3
      have HMZ := Lib.hid (List.mem_of_getElem? hx)
      have HTE := Lib.hid (show (Z.toL.take (i + 1)).map g = (Z.toL.take i).map g ++ [g z] by rw [List.take_add_one, hx, List.map_append]; rfl)
      have HGM := Lib.hid (show g z ∈ Z.toL.map g from List.mem_map.2 ⟨z, HMZ.out, rfl⟩)
      have HRZ := Lib.hid hrz
      have hi2 : (i : Int) < (m : Int) := by omega
      clear hx hrz hSb
      go_wp2_with (fail)
      refine (HC.out z HMZ.out (fun k => S k ∨ k = w.heap.size + 1) wo Bz nz ez (fun k hk => by
        have h1 := HB.out.size
        have h2 := HQ.out.lt
        rcases hk with hk | rfl
        · exact Nat.lt_of_lt_of_le (HS.out k hk) h1
        · exact h2) ((HRZ.out.new.below HB.out).sub fun k hk => by
        rcases hk with hk | rfl
        · exact .inl hk
        · exact .inr (by omega))).mono ?_
      rintro e w3 ⟨hb3, hp⟩
      have HB3 := Lib.hid (HB.out.trans (hb3.mono HB.out.size))
      have HX3 := Lib.hid (HX.out.below hb3 HX.out.lt)
      have HQ3 := Lib.hid (HQ.out.below hb3 HQ.out.lt)
      have HRW3 := Lib.hid (HRW.out.below hb3)
      clear hb3 HB HX HQ HRW g0 g1 g2 g3 x0 x3 xl hbl
      generalize hgz : g z = r1 at hp HTE HGM
      have HGZ := Lib.hid hgz
      clear hgz
      have x0 := HX3.out.cell 0
      have x3 := HX3.out.cell 3
      have xl := HX3.out.lt
      cases r1 with
      | none =>
        obtain rfl := hp
        have HNO := Lib.hid (show r = none by
          rw [HRE.out]
          unfold joinR
          rw [seqO_no HGM.out]
          rfl)
        have r0 := HQ3.out.cell 0
        have r1 := HQ3.out.cell 1
        have r2 := HQ3.out.cell 2
        have r3 := HQ3.out.cell 3
        have rf0 := HQ3.out.frozen 0
        have rf1 := HQ3.out.frozen 1
        have rf2 := HQ3.out.frozen 2
        have rf3 := HQ3.out.frozen 3
        have rl := HQ3.out.lt
        go_wp2_with (fail)
        first | (refine calls_named ?_; intro W8 hW) | (refine body_named ?_; intro W8 hW) | (refine wpList_named ?_; intro W8 hW) | (refine wp_named ?_; intro W8 hW)
        have hs := HQ3.out.set4 (y0 := .int .i64 0) (y1 := .int .i64 0) (y2 := .int .i64 0) (y3 := .slice none 0 0)
        have hO8 : Only (· = w.heap.size + 1) w3 W8 := by rw [← hW]; first | (with_reducible exact hs.2) | (with_reducible exact hs.2.trans (Only.of_below ((Below.refl _ _).alloc (Nat.le_refl _) _)))
        have hr8 : Blk W8 (w.heap.size + 1) 24 #[.int .i64 0, .int .i64 0, .int .i64 0, .slice none 0 0] := by rw [← hW]; first | (with_reducible exact hs.1) | (with_reducible exact hs.1.alloc _)
        have HB8 := Lib.hid (hO8.below HB3.out HB3.out.size (fun k hk => by rw [show k = w.heap.size + 1 from hk]; omega))
        clear hW hs r0 r1 r2 r3 rf0 rf1 rf2 rf3 rl
        have r0 := hr8.cell 0
        have r1 := hr8.cell 1
        have r2 := hr8.cell 2
        have r3 := hr8.cell 3
        refine bodyPost_ret (P := Tryz.prog) (fn := Tryz.f65) (v := .tuple #[.agg #[.int .i64 0, .int .i64 0, .int .i64 0, .slice none 0 0], .int .i64 2]) (by simp [results, Tryz.results65, go_sem, r0, r1, r2, r3]; try rfl) rfl ?_
        exact ⟨HB8.out, by rw [HNO.out]⟩
      | some y =>
        obtain ⟨Ay, my, dy, rfl, hry⟩ := hp
        have HRY := Lib.hid hry
        have hcy := hry.choose_spec.1.cap
        have hby := hry.choose_spec.1.big
        have HLY := Lib.hid (hry.len.trans (toL_len y.ps).symm)
        have HXS2 := Lib.hid (show seqO ((Z.toL.take (i + 1)).map g) = some (xs ++ [y]) by rw [HTE.out]; exact seqO_snoc HXS.out)
        have HNY := Lib.hid (HG.out z HMZ.out y HGZ.out)
        have HNX2 := Lib.hid (show ∀ x ∈ xs ++ [y], Norm x from fun x hx => by
          rcases List.mem_append.1 hx with hx | hx
          · exact HNX.out x hx
          · rw [List.mem_singleton.1 hx]; exact HNY.out)
        have HLN := Lib.hid (show ((flatN kind (xs ++ [y])).foldl (insC kind) []).length ≤ 256 by
          have h1 := fold_len kind (flatN kind (xs ++ [y])) []
          have h2 := flatN_len (kind := kind) (xs := xs ++ [y]) (fun x hx hk => ((HNX2.out x hx).parts (by have := HK.out; omega)).2.2.2.2.2)
          rw [List.length_append, HXL.out, List.length_singleton] at h2
          rw [List.length_nil] at h1
          omega)
        unfold cV
        dsimp only [vi]
        clear hry
        by_cases hyk : y.k = kind
        case neg =>
          have hyk2 : (y.k != kind) = true := bne_iff_ne.2 hyk
          have HFN := Lib.hid (show (flatN kind (xs ++ [y])).foldl (insC kind) [] = insC kind ((flatN kind xs).foldl (insC kind) []) y by rw [flatN_app, if_neg hyk, List.foldl_append]; rfl)
          clear hyk
          go_wp2_with (fail)
          first | (refine calls_named ?_; intro W4 hW) | (refine body_named ?_; intro W4 hW) | (refine wpList_named ?_; intro W4 hW) | (refine wp_named ?_; intro W4 hW)
          have hb4 : Below w3.heap.size w3 W4 := by rw [← hW]; exact (Below.refl _ _).alloc (Nat.le_refl _) _
          clear hW x0 x3 xl
          have HB4 := Lib.hid (HB3.out.trans (hb4.mono HB3.out.size))
          refine (pins_any (fun k => S k ∨ k = w.heap.size + 1) kind (CF.ofL ((flatN kind xs).foldl (insC kind) [])) A' nn c' y Ay my dy W4 (fun k hk => by
            have h1 := HB4.out.size
            have h2 := HQ3.out.lt
            have h3 := hb4.size
            rcases hk with hk | rfl
            · exact Nat.lt_of_lt_of_le (HS.out k hk) h1
            · omega) (HRW3.out.below hb4) (HRY.out.below hb4) (by rw [toL_ofL2]; exact fun x hx => flatN_nrm HK.out HNX.out x ((((ins_fold (kind := kind) _ _ rfl (flatN_nrm HK.out HNX.out)).2.1 x).1 hx).1)) HNY.out.nrm (by rw [toL_ofL2]; exact (ins_fold (kind := kind) _ _ rfl (flatN_nrm HK.out HNX.out)).1) (by omega)).mono ?_
          rintro e w5 ⟨hb5, A5, m5, c5, rfl, hr5⟩
          rw [toL_ofL2, ← HFN.out] at hr5
          have HB5 := Lib.hid (HB4.out.trans (hb5.mono HB4.out.size))
          have HX5 := Lib.hid ((HX3.out.below hb4 HX3.out.lt).below hb5 (Nat.lt_of_lt_of_le HX3.out.lt hb4.size))
          have HQ5 := Lib.hid ((HQ3.out.below hb4 HQ3.out.lt).below hb5 (Nat.lt_of_lt_of_le HQ3.out.lt hb4.size))
          have HR5 := Lib.hid hr5
          have hm5 : m5 ≤ 256 := by rw [hr5.len, ofL_len]; exact HLN.out
          clear hb4 hb5 hr5
          go_wp2_with (fail)
          go_roundw
          case rel => exact ⟨i + 1, m5, A5, c5, xs ++ [y], hlt, by go_num, rfl, hm5, HXS2.out, HR5.out, HB5.out, HX5.out, HQ5.out⟩
          case measure => simp [intOf]; omega
        have hyk2 : (y.k != kind) = false := by simpa using hyk
        have HFN := Lib.hid (show flatN kind (xs ++ [y]) = flatN kind xs ++ y.ps.toL by rw [flatN_app, if_pos hyk])
        have HFM := Lib.hid (flatN_nrm HK.out HNX2.out)
        rw [HFN.out] at HFM HLN
        clear hyk
        go_wp2_with (fail)
        first | (refine calls_named ?_; intro W4 hW) | (refine body_named ?_; intro W4 hW) | (refine wpList_named ?_; intro W4 hW) | (refine wp_named ?_; intro W4 hW)
        have hb4 : Below w3.heap.size w3 W4 := by rw [← hW]; exact (Below.refl _ _).alloc (Nat.le_refl _) _
        have HY4 := Lib.hid (show Blk W4 w3.heap.size 24 #[.int .i64 y.k, .int .i64 y.v, .int .i64 y.n, .slice Ay my dy] by rw [← hW]; exact Blk.new _ _ _)
        clear hW x0 x3 xl
        have HB4 := Lib.hid hb4
        have HRW4 := Lib.hid (show RepH (fun k => S k ∨ k = w.heap.size + 1) W4 (CF.ofL ((flatN kind xs ++ y.ps.toL.take 0).foldl (insC kind) [])) A' nn c' by rw [List.take_zero, List.append_nil]; exact HRW3.out.below hb4)
        clear hb4
        go_loopw [7, 11] (fun l q wr => ∃ (k nn : Nat) (A' : Option Addr) (c' : Nat), k ≤ my ∧ q = .int .i64 k ∧ l = .slice A' nn c' ∧ nn ≤ 256 ∧ Hid (RepH (fun k => S k ∨ k = w.heap.size + 1) wr (CF.ofL ((flatN kind xs ++ y.ps.toL.take k).foldl (insC kind) [])) A' nn c') ∧ Hid (Below w3.heap.size w3 wr) ∧ Hid (Blk wr w3.heap.size 24 #[.int .i64 y.k, .int .i64 y.v, .int .i64 y.n, .slice Ay my dy])) (fun _ q _ => my - (intOf q).toNat)
        case atStart => exact ⟨0, nn, A', c', Nat.zero_le _, rfl, rfl, hnn, HRW4.out, HB4.out, HY4.out⟩
        case round =>
          obtain ⟨k, nk, Ak, ck, hkm, rfl, rfl, hnk, HRK, HBK, HYK⟩ := hrel
          clear HRW4 HB4 HY4
          have HBW := Lib.hid (HB3.out.trans (HBK.out.mono HB3.out.size))
          have HXK := Lib.hid (HX3.out.below HBK.out HX3.out.lt)
          have HQK := Lib.hid (HQ3.out.below HBK.out HQ3.out.lt)
          have u3 := HYK.out.cell 3
          have ul := HYK.out.lt
          by_cases hlk : k < my
          · obtain ⟨b', off', p, Bp, np, ep, rfl, hb', hSb', hp', h0, h1, h2, h3, hrp⟩ := HRY.out.elem hlk
            have hbl' : b' < wr.heap.size := Nat.lt_of_lt_of_le hb' HBK.out.size
            rw [← HBK.out.cell (p := ⟨b', _, none⟩) hb'] at h0 h1 h2 h3
            have hmp := List.mem_of_getElem? hp'
            have HTK := Lib.hid (show (flatN kind xs ++ y.ps.toL.take (k + 1)).foldl (insC kind) [] = insC kind ((flatN kind xs ++ y.ps.toL.take k).foldl (insC kind) []) p by
              rw [List.take_add_one, hp', ← List.append_assoc, List.foldl_append]; rfl)
            have HNL := Lib.hid (show ∀ x ∈ flatN kind xs ++ y.ps.toL.take k, Nrm x from fun x hx => HFM.out x (by
              rcases List.mem_append.1 hx with hx | hx
              · exact List.mem_append_left _ hx
              · exact List.mem_append_right _ (List.mem_of_mem_take hx)))
            have HNP := Lib.hid (HFM.out p (List.mem_append_right _ hmp))
            have HL9 := Lib.hid (show ((flatN kind xs ++ y.ps.toL.take (k + 1)).foldl (insC kind) []).length ≤ 256 by
              have e1 := fold_len kind (flatN kind xs ++ y.ps.toL.take (k + 1)) []
              have e2 := flatN_len (kind := kind) (xs := xs ++ [y]) (fun x hx hk => ((HNX2.out x hx).parts (by have := HK.out; omega)).2.2.2.2.2)
              rw [List.length_append, HXL.out, List.length_singleton, HFN.out, List.length_append] at e2
              rw [List.length_nil, List.length_append, List.length_take] at e1
              omega)
            have CI := Lib.hid (fun (W : World) (hW : Below wr.heap.size wr W) => pins_any (fun k => S k ∨ k = w.heap.size + 1) kind (CF.ofL ((flatN kind xs ++ y.ps.toL.take k).foldl (insC kind) [])) Ak nk ck p Bp np ep W (fun k hk => by
              have h1 := HBW.out.size
              have h2 := HQK.out.lt
              have h3 := hW.size
              rcases hk with hk | rfl
              · exact Nat.lt_of_lt_of_le (HS.out k hk) (Nat.le_trans h1 h3)
              · omega) (HRK.out.below hW) ((hrp.below HBK.out).below hW) (by rw [toL_ofL2]; exact fun x hx => HNL.out x ((((ins_fold (kind := kind) _ _ rfl HNL.out).2.1 x).1 hx).1)) HNP.out (by rw [toL_ofL2]; exact (ins_fold (kind := kind) _ _ rfl HNL.out).1) (by omega))
            unfold cV at CI
            dsimp only [vi] at CI
            rw [toL_ofL2, ← HTK.out] at CI
            have ZB := Lib.hid (show Below wr.heap.size wr wr.drew from ⟨rfl, rfl, rfl, Nat.le_refl _, fun _ _ => rfl⟩)
            have xl := HXK.out.lt
            have HSx := Lib.hid (show ∀ W, Below wr.heap.size wr W → (W.cell? ⟨w.heap.size, 0, none⟩ = some (.int .i64 kind) ∧ W.cell? ⟨w3.heap.size, 3, none⟩ = some (.slice (some ⟨b', off', none⟩) my dy) ∧ W.cell? ⟨b', off' + k * 4, none⟩ = some (.int .i64 p.k) ∧ W.cell? ⟨b', off' + k * 4 + 1, none⟩ = some (.int .i64 p.v) ∧ W.cell? ⟨b', off' + k * 4 + 2, none⟩ = some (.int .i64 p.n) ∧ W.cell? ⟨b', off' + k * 4 + 3, none⟩ = some (.slice Bp np ep) ∧ Hid (Below wr.heap.size wr W)) from fun W hb =>
              ⟨(hb.cell (p := ⟨w.heap.size, 0, none⟩) xl).trans (HXK.out.cell 0), (hb.cell (p := ⟨w3.heap.size, 3, none⟩) ul).trans u3, (hb.cell (p := ⟨b', _, none⟩) hbl').trans h0, (hb.cell (p := ⟨b', _, none⟩) hbl').trans h1, (hb.cell (p := ⟨b', _, none⟩) hbl').trans h2, (hb.cell (p := ⟨b', _, none⟩) hbl').trans h3, Lib.hid hb⟩)
            have hk2 : (k : Int) < (my : Int) := by omega
            clear hp' hmp hrp hSb' h0 h1 h2 h3
            go_wp2_with (fail)
            go_region_held3 (fun W => W.cell? ⟨w.heap.size, 0, none⟩ = some (.int .i64 kind) ∧ W.cell? ⟨w3.heap.size, 3, none⟩ = some (.slice (some ⟨b', off', none⟩) my dy) ∧ W.cell? ⟨b', off' + k * 4, none⟩ = some (.int .i64 p.k) ∧ W.cell? ⟨b', off' + k * 4 + 1, none⟩ = some (.int .i64 p.v) ∧ W.cell? ⟨b', off' + k * 4 + 2, none⟩ = some (.int .i64 p.n) ∧ W.cell? ⟨b', off' + k * 4 + 3, none⟩ = some (.slice Bp np ep) ∧ Hid (Below wr.heap.size wr W))
              (exact HSx.out _ ZB.out)
              ((first
                | (go_at_call 113
                   with_reducible refine (CI.out _ ZB.out).mono ?_
                   rintro e' wn ⟨hbn, A5, m5, c5, rfl, hrn⟩
                   have hm5 : m5 ≤ 256 := by rw [hrn.len, ofL_len]; exact HL9.out
                   have ZB := Lib.hid (ZB.out.trans (hbn.mono ZB.out.size))
                   have HRN := Lib.hid hrn
                   clear hbn hrn)))
            all_goals
              have HB5 := Lib.hid (HBK.out.trans (ZB.out.mono HBK.out.size))
              have HY5 := Lib.hid (HYK.out.below ZB.out HYK.out.lt)
              go_wp2_with (fail)
              go_roundw
              case rel => exact ⟨k + 1, m5, A5, c5, hlk, by go_num, rfl, hm5, HRN.out, HB5.out, HY5.out⟩
              case measure => simp [intOf]; omega
          · obtain rfl : k = my := by omega
            have hkk : ¬ (k : Int) < (k : Int) := by omega
            have HR9 := Lib.hid (show RepH (fun k => S k ∨ k = w.heap.size + 1) wr (CF.ofL ((flatN kind (xs ++ [y])).foldl (insC kind) [])) Ak nk ck by
              have h := HRK.out
              rw [List.take_of_length_le (by have := HLY.out; omega), ← HFN.out] at h
              exact h)
            go_wp2_with (fail)
            go_roundw
            case rel => exact ⟨i + 1, nk, Ak, ck, xs ++ [y], hlt, by go_num, rfl, hnk, HXS2.out, HR9.out, HBW.out, HXK.out, HQK.out⟩
            case measure => simp [intOf]; omega
    · obtain rfl : i = m := by omega
      have hii : ¬ (i : Int) < (i : Int) := by omega
      have HRN := Lib.hid (show r = normR kind ((flatN kind xs).foldl (insC kind) []) by
        rw [HRE.out]
        unfold joinR
        have h := HXS.out
        rw [List.take_of_length_le (by have := HL.out; omega)] at h
        rw [h]
        rfl)
      have HLR := Lib.hid (show ((flatN kind xs).foldl (insC kind) []).length = nn by rw [← ofL_len]; exact HRW.out.len.symm)
      generalize (flatN kind xs).foldl (insC kind) [] = R at HRW HRN HLR
      clear HXS HNX HXL HRE
      by_cases h1 : nn = 1
      · have h1' : ((nn : Int) == 1) = true := by rw [h1]; rfl
        obtain ⟨b, off, y, By, ny, ey, rfl, hb, hSb, hx, g0, g1, g2, g3, hry⟩ := HRW.out.elem (i := 0) (by omega)
        rw [Nat.zero_mul, Nat.add_zero] at g0 g1 g2 g3
        have HRY := Lib.hid (show r = some y by
          rw [HRN.out]
          rw [toL_ofL2] at hx
          have hl := HLR.out
          match R, hl, hx with
          | [a], _, hx => injection hx with hx; rw [← hx]; rfl
          | [], hl, _ => simp at hl; omega
          | _ :: _ :: _, hl, _ => simp at hl; omega)
        have HRow := Lib.hid hry
        have hn0 : 0 < nn := by omega
        clear hx hry hSb HRN HLR
        have r0 := HQ.out.cell 0
        have r1 := HQ.out.cell 1
        have r2 := HQ.out.cell 2
        have r3 := HQ.out.cell 3
        have rf0 := HQ.out.frozen 0
        have rf1 := HQ.out.frozen 1
        have rf2 := HQ.out.frozen 2
        have rf3 := HQ.out.frozen 3
        have rl := HQ.out.lt
        go_wp2_with (fail)
        first | (refine calls_named ?_; intro W8 hW) | (refine body_named ?_; intro W8 hW) | (refine wpList_named ?_; intro W8 hW) | (refine wp_named ?_; intro W8 hW)
        have hs := HQ.out.set4 (y0 := .int .i64 y.k) (y1 := .int .i64 y.v) (y2 := .int .i64 y.n) (y3 := .slice By ny ey)
        have hO8 : Only (· = w.heap.size + 1) wo W8 := by rw [← hW]; first | (with_reducible exact hs.2) | (with_reducible exact hs.2.trans (Only.of_below ((Below.refl _ _).alloc (Nat.le_refl _) _)))
        have hr8 : Blk W8 (w.heap.size + 1) 24 #[.int .i64 y.k, .int .i64 y.v, .int .i64 y.n, .slice By ny ey] := by rw [← hW]; first | (with_reducible exact hs.1) | (with_reducible exact hs.1.alloc _)
        have HB8 := Lib.hid (hO8.below HB.out HB.out.size (fun k hk => by rw [show k = w.heap.size + 1 from hk]; omega))
        clear hW hs r0 r1 r2 r3 rf0 rf1 rf2 rf3 rl
        have r0 := hr8.cell 0
        have r1 := hr8.cell 1
        have r2 := hr8.cell 2
        have r3 := hr8.cell 3
        refine bodyPost_ret (P := Tryz.prog) (fn := Tryz.f65) (v := .tuple #[.agg #[.int .i64 y.k, .int .i64 y.v, .int .i64 y.n, .slice By ny ey], .int .i64 0]) (by simp [results, Tryz.results65, go_sem, r0, r1, r2, r3]; try rfl) rfl ?_
        exact ⟨HB8.out, by rw [HRY.out]; exact ⟨By, ny, ey, rfl, (HRow.out.only hO8 (fun k hk => .inr hk)).sub fun k hk => .inl hk⟩⟩
      · have h1' : ((nn : Int) == 1) = false := by simp; omega
        have HRN2 := Lib.hid (show r = if 16 < nn then none else some ⟨kind, 0, 0, CF.ofL R⟩ by rw [HRN.out, normR_ne (by rw [HLR.out]; exact h1), HLR.out])
        clear h1 HRN
        by_cases h16 : 16 < nn
        · have h16' : (16 : Int) < (nn : Int) := by omega
          have HNO := Lib.hid (HRN2.out.trans (if_pos h16))
          clear h16
          have r0 := HQ.out.cell 0
          have r1 := HQ.out.cell 1
          have r2 := HQ.out.cell 2
          have r3 := HQ.out.cell 3
          have rf0 := HQ.out.frozen 0
          have rf1 := HQ.out.frozen 1
          have rf2 := HQ.out.frozen 2
          have rf3 := HQ.out.frozen 3
          have rl := HQ.out.lt
          go_wp2_with (fail)
          first | (refine calls_named ?_; intro W8 hW) | (refine body_named ?_; intro W8 hW) | (refine wpList_named ?_; intro W8 hW) | (refine wp_named ?_; intro W8 hW)
          have hs := HQ.out.set4 (y0 := .int .i64 0) (y1 := .int .i64 0) (y2 := .int .i64 0) (y3 := .slice none 0 0)
          have hO8 : Only (· = w.heap.size + 1) wo W8 := by rw [← hW]; first | (with_reducible exact hs.2) | (with_reducible exact hs.2.trans (Only.of_below ((Below.refl _ _).alloc (Nat.le_refl _) _)))
          have hr8 : Blk W8 (w.heap.size + 1) 24 #[.int .i64 0, .int .i64 0, .int .i64 0, .slice none 0 0] := by rw [← hW]; first | (with_reducible exact hs.1) | (with_reducible exact hs.1.alloc _)
          have HB8 := Lib.hid (hO8.below HB.out HB.out.size (fun k hk => by rw [show k = w.heap.size + 1 from hk]; omega))
          clear hW hs r0 r1 r2 r3 rf0 rf1 rf2 rf3 rl
          have r0 := hr8.cell 0
          have r1 := hr8.cell 1
          have r2 := hr8.cell 2
          have r3 := hr8.cell 3
          refine bodyPost_ret (P := Tryz.prog) (fn := Tryz.f65) (v := .tuple #[.agg #[.int .i64 0, .int .i64 0, .int .i64 0, .slice none 0 0], .int .i64 2]) (by simp [results, Tryz.results65, go_sem, r0, r1, r2, r3]; try rfl) rfl ?_
          exact ⟨HB8.out, by rw [HNO.out]⟩
        · have h16' : ¬ (16 : Int) < (nn : Int) := by omega
          have HNO := Lib.hid (HRN2.out.trans (if_neg h16))
          clear h16
          have r0 := HQ.out.cell 0
          have r1 := HQ.out.cell 1
          have r2 := HQ.out.cell 2
          have r3 := HQ.out.cell 3
          have rf0 := HQ.out.frozen 0
          have rf1 := HQ.out.frozen 1
          have rf2 := HQ.out.frozen 2
          have rf3 := HQ.out.frozen 3
          have rl := HQ.out.lt
          go_wp2_with (fail)
          first | (refine calls_named ?_; intro W8 hW) | (refine body_named ?_; intro W8 hW) | (refine wpList_named ?_; intro W8 hW) | (refine wp_named ?_; intro W8 hW)
          have hs := HQ.out.set4 (y0 := .int .i64 kind) (y1 := .int .i64 0) (y2 := .int .i64 0) (y3 := .slice A' nn c')
          have hO8 : Only (· = w.heap.size + 1) wo W8 := by rw [← hW]; first | (with_reducible exact hs.2) | (with_reducible exact hs.2.trans (Only.of_below ((Below.refl _ _).alloc (Nat.le_refl _) _)))
          have hr8 : Blk W8 (w.heap.size + 1) 24 #[.int .i64 kind, .int .i64 0, .int .i64 0, .slice A' nn c'] := by rw [← hW]; first | (with_reducible exact hs.1) | (with_reducible exact hs.1.alloc _)
          have HB8 := Lib.hid (hO8.below HB.out HB.out.size (fun k hk => by rw [show k = w.heap.size + 1 from hk]; omega))
          clear hW hs r0 r1 r2 r3 rf0 rf1 rf2 rf3 rl
          have r0 := hr8.cell 0
          have r1 := hr8.cell 1
          have r2 := hr8.cell 2
          have r3 := hr8.cell 3
          refine bodyPost_ret (P := Tryz.prog) (fn := Tryz.f65) (v := .tuple #[.agg #[.int .i64 kind, .int .i64 0, .int .i64 0, .slice A' nn c'], .int .i64 0]) (by simp [results, Tryz.results65, go_sem, r0, r1, r2, r3]; try rfl) rfl ?_
          exact ⟨HB8.out, by rw [HNO.out]; exact ⟨A', nn, c', rfl, (HRW.out.only hO8 (fun k hk => .inr hk)).sub fun k hk => .inl hk⟩⟩
/-- The contract of normal for a depth: for a valid condition, or the NotC of one. -/
def zneg (neg : Bool) (c : CT) : CT := if neg then cnot c else c
def PN (f : Nat) : Prop := ∀ (S : Nat → Prop) (w : World) (c : CT) (neg : Bool) (A : Option Addr) (m d : Nat), (∀ k, S k → k < w.heap.size) → okC c = true → c.ps.dep + 1 ≤ f → RepH S w (zneg neg c).ps A m d →
  Calls Tryz.prog 65 #[.agg #[.int .i64 (zneg neg c).k, .int .i64 (zneg neg c).v, .int .i64 (zneg neg c).n, .slice A m d]] w (PNPost S w (norm f neg c))
theorem norm_join {f : Nat} {neg : Bool} {c : CT} {kind : Int} (h1 : c.k = 2 ∨ c.k = 3) (hk : kind = if neg then 5 - c.k else c.k) : norm (f + 1) neg c = joinR kind (c.ps.toL.map (norm f neg)) := by
  unfold joinR
  cases hs : seqO (c.ps.toL.map (norm f neg)) with
  | none => rw [norm_list_none h1 hs]; rfl
  | some xs => rw [norm_list h1 hk hs]; rfl
theorem dep_parts {F : CF} {p : CT} (h : p ∈ F.toL) : p.ps.dep + 1 ≤ F.dep := by
  induction F with
  | nil => cases h
  | cons k v n ps r _ ih =>
    rw [CF.toL] at h
    rw [CF.dep]
    rcases List.mem_cons.1 h with rfl | h
    · show ps.dep + 1 ≤ _; omega
    · have := ih h; omega
def partR (f : Nat) (z : CT) : Option CT := match z.ps.toL with | p :: _ => norm f true p | [] => none
set_option maxHeartbeats 16000000 in
set_option maxRecDepth 100000 in
theorem pn_at (S : Nat → Prop) (w : World) (c : CT) (A : Option Addr) (m d : Nat) (hk : c.k = 1) (h : RepH S w c.ps A m d) :
    Calls Tryz.prog 65 #[.agg #[.int .i64 c.k, .int .i64 c.v, .int .i64 c.n, .slice A m d]] w (PNPost S w (some c)) := by
  have HR := Lib.hid h
  have k1 : (c.k == 1) = true := by rw [hk]; rfl
  clear h hk
  go_enter Tryz.func65, Tryz.ntmps65
  go_wp2_with (fail)
  first | (refine calls_named ?_; intro W hW) | (refine body_named ?_; intro W hW) | (refine wpList_named ?_; intro W hW) | (refine wp_named ?_; intro W hW)
  have hb : Below w.heap.size w W := by rw [← hW]; exact ((Below.refl _ _).alloc (Nat.le_refl _) _).alloc (by simp) _
  have hr : Blk W (w.heap.size + 1) 24 #[.int .i64 c.k, .int .i64 c.v, .int .i64 c.n, .slice A m d] := by rw [← hW, ← World.size_alloc w]; exact Blk.new _ _ _
  clear hW
  have r0 := hr.cell 0
  have r1 := hr.cell 1
  have r2 := hr.cell 2
  have r3 := hr.cell 3
  refine bodyPost_ret (P := Tryz.prog) (fn := Tryz.f65) (v := .tuple #[.agg #[.int .i64 c.k, .int .i64 c.v, .int .i64 c.n, .slice A m d], .int .i64 0]) (by simp [results, Tryz.results65, go_sem, r0, r1, r2, r3]; try rfl) rfl ?_
  exact ⟨hb, A, m, d, rfl, HR.out.below hb⟩
theorem four_not {c : CT} (hk : c.k = 4) (hv : c.v = 0) (hn : c.n = 0) (h : c.ps.num = 1) : ∃ p, c = cnot p := by
  obtain ⟨k, v, n, ps⟩ := c
  dsimp only at hk hv hn h
  subst hk hv hn
  match ps, h with
  | .cons k v n ps .nil, _ => exact ⟨⟨k, v, n, ps⟩, rfl⟩
  | .cons _ _ _ _ (.cons _ _ _ _ _), h => simp [CF.num] at h
  | .nil, h => simp [CF.num] at h
set_option maxHeartbeats 16000000 in
set_option maxRecDepth 100000 in
theorem pn_neg (f : Nat) (ih : PN f) (S : Nat → Prop) (w : World) (c : CT) (A : Option Addr) (m d : Nat) (hS : ∀ k, S k → k < w.heap.size) (hok : okC c = true) (hd : c.ps.dep ≤ f) (h : RepH S w (.one c .nil) A m d) :
    Calls Tryz.prog 65 #[.agg #[.int .i64 4, .int .i64 0, .int .i64 0, .slice A m d]] w (PNPost S w (norm (f + 1) true c)) := by
  have HR := Lib.hid h
  have HS := Lib.hid hS
  have HI := Lib.hid ih
  have HD := Lib.hid hd
  have hm : m = 1 := h.len.trans rfl
  have hcap := h.choose_spec.1.cap
  have hbig := h.choose_spec.1.big
  obtain ⟨b, off, x, B, nb, eb, rfl, hb, hSb, hx, g0, g1, g2, g3, hr⟩ := h.elem (i := 0) (by omega)
  rw [Nat.zero_mul, Nat.add_zero] at g0 g1 g2 g3
  have hxc : c = x := by simpa [CF.one, CF.toL] using hx
  subst hxc
  have HRC := Lib.hid hr
  have hcp := hr.choose_spec.1.cap
  have hbg := hr.choose_spec.1.big
  have HLC := Lib.hid (hr.len.trans (toL_len c.ps).symm)
  subst hm
  clear h hx hr hSb ih hS hd
  generalize hr : norm (f + 1) true c = r
  have HRE := Lib.hid hr.symm
  clear hr
  rcases okC_cases hok with h1 | h1 | h1
  · have hk := h1.1
    have k1 : (c.k == 1) = true := by rw [hk]; rfl
    have HRR := Lib.hid (show r = some (cnot c) by rw [HRE.out, norm, if_pos hk]; rfl)
    clear h1 hk hok HRE
    go_enter Tryz.func65, Tryz.ntmps65
    go_wp2_with (fail)
    first | (refine calls_named ?_; intro W hW) | (refine body_named ?_; intro W hW) | (refine wpList_named ?_; intro W hW) | (refine wp_named ?_; intro W hW)
    have hb1 : Below w.heap.size w W := by rw [← hW]; exact (((Below.refl _ _).alloc (Nat.le_refl _) _).alloc (by simp) _).alloc (by simp; omega) _
    have hr1 : Blk W (w.heap.size + 1) 24 #[.int .i64 4, .int .i64 0, .int .i64 0, .slice (some ⟨b, off, none⟩) 1 d] := by
      rw [← hW, ← World.size_alloc w]
      exact (Blk.new _ _ _).alloc _
    clear hW
    have r0 := hr1.cell 0
    have r1 := hr1.cell 1
    have r2 := hr1.cell 2
    have r3 := hr1.cell 3
    refine bodyPost_ret (P := Tryz.prog) (fn := Tryz.f65) (v := .tuple #[.agg #[.int .i64 4, .int .i64 0, .int .i64 0, .slice (some ⟨b, off, none⟩) 1 d], .int .i64 0]) (by simp [results, Tryz.results65, go_sem, r0, r1, r2, r3]; try rfl) rfl ?_
    refine ⟨hb1, ?_⟩
    rw [HRR.out]
    exact ⟨_, _, _, rfl, HR.out.below hb1⟩
  · have hk := h1.1
    have k1 : (c.k == 1) = false := by rw [hk]; rfl
    have k4 : (c.k == 4) = true := by rw [hk]; rfl
    obtain ⟨p, rfl⟩ := four_not hk h1.2.1 h1.2.2.1 h1.2.2.2.1
    have HRR := Lib.hid (show r = norm f false p by rw [HRE.out]; exact norm_four (c := cnot p) rfl rfl)
    have HOP := Lib.hid (okB_mem h1.2.2.2.2 p (by simp [cnot, CF.one, CF.toL]))
    have HDP := Lib.hid (show p.ps.dep + 1 ≤ f from Nat.le_trans (dep_parts (F := (cnot p).ps) (by simp [cnot, CF.one, CF.toL])) HD.out)
    have hnb : nb = 1 := HLC.out
    obtain ⟨b', off', p', B', n', e', rfl, hb', hSb', hx', h0, h1', h2, h3, hr'⟩ := HRC.out.elem (i := 0) (by omega)
    rw [Nat.zero_mul, Nat.add_zero] at h0 h1' h2 h3
    have hpp : p = p' := by simpa [cnot, CF.one, CF.toL] using hx'
    subst hpp
    subst hnb
    have HRP := Lib.hid hr'
    clear h1 hk hok hx' hr' hSb' HRE HRC HLC
    change w.cell? ⟨b, off, none⟩ = some (.int .i64 4) at g0
    change w.cell? ⟨b, off + 1, none⟩ = some (.int .i64 0) at g1
    change w.cell? ⟨b, off + 2, none⟩ = some (.int .i64 0) at g2
    have q1' : b' < w.heap.size + 1 := by omega
    have q2' : b' < w.heap.size + 1 + 1 := by omega
    have q3' : b' < w.heap.size + 2 := by omega
    go_enter Tryz.func65, Tryz.ntmps65
    go_wp2_with (fail)
    first | (refine calls_named ?_; intro W3 hW) | (refine body_named ?_; intro W3 hW) | (refine wpList_named ?_; intro W3 hW) | (refine wp_named ?_; intro W3 hW)
    have HB3 := Lib.hid (show Below w.heap.size w W3 by rw [← hW]; exact (((Below.refl _ _).alloc (Nat.le_refl _) _).alloc (by simp) _).alloc (by simp; omega) _)
    have HQ3 := Lib.hid (show Blk W3 (w.heap.size + 1) 24 #[.int .i64 0, .int .i64 0, .int .i64 0, .slice none 0 0] by rw [← hW, ← World.size_alloc w]; exact (Blk.new _ _ _).alloc _)
    clear hW g0 g1 g2 g3 h0 h1' h2 h3 q1' q2' q3'
    refine (HI.out (fun k => S k ∨ k = w.heap.size + 1) W3 p false B' n' e' (fun k hk => by
      rcases hk with hk | rfl
      · exact Nat.lt_of_lt_of_le (HS.out k hk) HB3.out.size
      · exact HQ3.out.lt) HOP.out HDP.out ((HRP.out.new.below HB3.out).sub fun k hk => by
      rcases hk with hk | rfl
      · exact .inl hk
      · exact .inr (by omega))).mono ?_
    rw [← HRR.out]
    rintro e w4 ⟨hb4, hp⟩
    have HB4 := Lib.hid (HB3.out.trans (hb4.mono HB3.out.size))
    have HQ4 := Lib.hid (HQ3.out.below hb4 HQ3.out.lt)
    clear hb4 HB3 HQ3
    cases r with
    | none =>
      obtain rfl := hp
      have r0 := HQ4.out.cell 0
      have r1 := HQ4.out.cell 1
      have r2 := HQ4.out.cell 2
      have r3 := HQ4.out.cell 3
      have rf0 := HQ4.out.frozen 0
      have rf1 := HQ4.out.frozen 1
      have rf2 := HQ4.out.frozen 2
      have rf3 := HQ4.out.frozen 3
      have rl := HQ4.out.lt
      go_wp2_with (fail)
      first | (refine calls_named ?_; intro W8 hW) | (refine body_named ?_; intro W8 hW) | (refine wpList_named ?_; intro W8 hW) | (refine wp_named ?_; intro W8 hW)
      have hs := HQ4.out.set4 (y0 := .int .i64 0) (y1 := .int .i64 0) (y2 := .int .i64 0) (y3 := .slice none 0 0)
      have hO8 : Only (· = w.heap.size + 1) w4 W8 := by rw [← hW]; first | (with_reducible exact hs.2) | (with_reducible exact hs.2.trans (Only.of_below ((Below.refl _ _).alloc (Nat.le_refl _) _)))
      have hr8 : Blk W8 (w.heap.size + 1) 24 #[.int .i64 0, .int .i64 0, .int .i64 0, .slice none 0 0] := by rw [← hW]; first | (with_reducible exact hs.1) | (with_reducible exact hs.1.alloc _)
      have HB8 := Lib.hid (hO8.below HB4.out HB4.out.size (fun k hk => by rw [show k = w.heap.size + 1 from hk]; omega))
      clear hW hs r0 r1 r2 r3 rf0 rf1 rf2 rf3 rl
      have r0 := hr8.cell 0
      have r1 := hr8.cell 1
      have r2 := hr8.cell 2
      have r3 := hr8.cell 3
      refine bodyPost_ret (P := Tryz.prog) (fn := Tryz.f65) (v := .tuple #[.agg #[.int .i64 0, .int .i64 0, .int .i64 0, .slice none 0 0], .int .i64 2]) (by simp [results, Tryz.results65, go_sem, r0, r1, r2, r3]; try rfl) rfl ?_
      exact ⟨HB8.out, rfl⟩
    | some y =>
      obtain ⟨Ay, my, dy, rfl, hry⟩ := hp
      have HRow := Lib.hid hry
      clear hry
      unfold cV
      dsimp only [vi]
      have r0 := HQ4.out.cell 0
      have r1 := HQ4.out.cell 1
      have r2 := HQ4.out.cell 2
      have r3 := HQ4.out.cell 3
      have rf0 := HQ4.out.frozen 0
      have rf1 := HQ4.out.frozen 1
      have rf2 := HQ4.out.frozen 2
      have rf3 := HQ4.out.frozen 3
      have rl := HQ4.out.lt
      go_wp2_with (fail)
      first | (refine calls_named ?_; intro W8 hW) | (refine body_named ?_; intro W8 hW) | (refine wpList_named ?_; intro W8 hW) | (refine wp_named ?_; intro W8 hW)
      have hs := HQ4.out.set4 (y0 := .int .i64 y.k) (y1 := .int .i64 y.v) (y2 := .int .i64 y.n) (y3 := .slice Ay my dy)
      have hO8 : Only (· = w.heap.size + 1) w4 W8 := by rw [← hW]; first | (with_reducible exact hs.2) | (with_reducible exact hs.2.trans (Only.of_below ((Below.refl _ _).alloc (Nat.le_refl _) _)))
      have hr8 : Blk W8 (w.heap.size + 1) 24 #[.int .i64 y.k, .int .i64 y.v, .int .i64 y.n, .slice Ay my dy] := by rw [← hW]; first | (with_reducible exact hs.1) | (with_reducible exact hs.1.alloc _)
      have HB8 := Lib.hid (hO8.below HB4.out HB4.out.size (fun k hk => by rw [show k = w.heap.size + 1 from hk]; omega))
      clear hW hs r0 r1 r2 r3 rf0 rf1 rf2 rf3 rl
      have r0 := hr8.cell 0
      have r1 := hr8.cell 1
      have r2 := hr8.cell 2
      have r3 := hr8.cell 3
      refine bodyPost_ret (P := Tryz.prog) (fn := Tryz.f65) (v := .tuple #[.agg #[.int .i64 y.k, .int .i64 y.v, .int .i64 y.n, .slice Ay my dy], .int .i64 0]) (by simp [results, Tryz.results65, go_sem, r0, r1, r2, r3]; try rfl) rfl ?_
      exact ⟨HB8.out, Ay, my, dy, rfl, (HRow.out.only hO8 (fun k hk => .inr hk)).sub fun k hk => .inl hk⟩
  · obtain ⟨hk, -, -, hn1, hn16, hokp⟩ := h1
    have HOP := Lib.hid (fun p hp => okB_mem hokp p hp)
    have HDP := Lib.hid (show ∀ p ∈ c.ps.toL, p.ps.dep + 1 ≤ f from fun p hp => Nat.le_trans (dep_parts hp) HD.out)
    have HNB := Lib.hid (show nb ≤ 16 by rw [HLC.out, num_toL]; exact hn16)
    obtain ⟨kd, hkd⟩ : ∃ kd : Int, kd = 5 - c.k := ⟨_, rfl⟩
    have HKD := Lib.hid (show kd = 2 ∨ kd = 3 by omega)
    have HRJ := Lib.hid (show r = joinR kd ((CF.ofL (c.ps.toL.map cnot)).toL.map (partR f)) by
      rw [HRE.out, norm_join hk (kind := kd) (by rw [hkd]; rfl), toL_ofL2, List.map_map]
      rfl)
    have k1 : (c.k == 1) = false := by rcases hk with h | h <;> rw [h] <;> rfl
    have k4 : (c.k == 4) = false := by rcases hk with h | h <;> rw [h] <;> rfl
    have hb0 : ∀ c1 c2 c3 c4 : Array Value, Below w.heap.size w ((((w.alloc (.cells c1 24)).alloc (.cells c2 24)).alloc (.cells c3 24)).alloc (.cells c4 24)) := fun c1 c2 c3 c4 => ((((Below.refl _ _).alloc (Nat.le_refl _) _).alloc (by simp) _).alloc (by simp; omega) _).alloc (by simp; omega) _
    have hq0 : ∀ c1 c2 c3 c4 : Array Value, Blk ((((w.alloc (.cells c1 24)).alloc (.cells c2 24)).alloc (.cells c3 24)).alloc (.cells c4 24)) (w.heap.size + 1) 24 c2 := fun c1 c2 c3 c4 => by
      rw [← World.size_alloc w]
      exact ((Blk.new _ _ _).alloc _).alloc _
    have hx0 : ∀ c1 c2 c3 c4 : Array Value, Blk ((((w.alloc (.cells c1 24)).alloc (.cells c2 24)).alloc (.cells c3 24)).alloc (.cells c4 24)) (w.heap.size + 1 + 1) 24 c3 := fun c1 c2 c3 c4 => (Blk.at_end (by simp [World.size_alloc])).alloc _
    have hy0 : ∀ c1 c2 c3 c4 : Array Value, Blk ((((w.alloc (.cells c1 24)).alloc (.cells c2 24)).alloc (.cells c3 24)).alloc (.cells c4 24)) (w.heap.size + 1 + 1 + 1) 24 c4 := fun c1 c2 c3 c4 => Blk.at_end (by simp [World.size_alloc])
    have hkk : (c.k == 2) = true ∧ kd = 3 ∨ (c.k == 2) = false ∧ kd = 2 := by
      rcases hk with h | h
      · exact .inl ⟨by rw [h]; rfl, by omega⟩
      · exact .inr ⟨by rw [h]; rfl, by omega⟩
    clear hk hokp hn1 hn16 hkd HRE hok
    go_enter Tryz.func65, Tryz.ntmps65
    rcases hkk with ⟨k2, hkd3⟩ | ⟨k2, hkd3⟩
    all_goals
      go_wp2_with (fail)
      first | (refine calls_named ?_; intro W3 hW) | (refine body_named ?_; intro W3 hW) | (refine wpList_named ?_; intro W3 hW) | (refine wp_named ?_; intro W3 hW)
      have HB3 := Lib.hid (show Below w.heap.size w W3 by
        rw [← hW]
        first
          | exact hb0 _ _ _ _
          | exact (Only.set (S := (· = w.heap.size + 1 + 1 + 1)) _ (p := ⟨w.heap.size + 1 + 1 + 1, 0, none⟩) rfl _).below (hb0 _ _ _ _) (hb0 _ _ _ _).size (fun k hk => by rw [show k = w.heap.size + 1 + 1 + 1 from hk]; omega))
      have HQ3 := Lib.hid (show Blk W3 (w.heap.size + 1) 24 #[.int .i64 0, .int .i64 0, .int .i64 0, .slice none 0 0] by
        rw [← hW]
        first
          | exact hq0 _ _ _ _
          | exact (hq0 _ _ _ _).far (p := ⟨w.heap.size + 1 + 1 + 1, 0, none⟩) (fun he => by have h : w.heap.size + 1 = w.heap.size + 1 + 1 + 1 := he; omega) _)
      have HX3 := Lib.hid (show Blk W3 (w.heap.size + 1 + 1) 24 #[.int .i64 c.k, .int .i64 c.v, .int .i64 c.n, .slice B nb eb] by
        rw [← hW]
        first
          | exact hx0 _ _ _ _
          | exact (hx0 _ _ _ _).far (p := ⟨w.heap.size + 1 + 1 + 1, 0, none⟩) (fun he => by have h : w.heap.size + 1 + 1 = w.heap.size + 1 + 1 + 1 := he; omega) _)
      have HY3 := Lib.hid (show Blk W3 (w.heap.size + 1 + 1 + 1) 24 #[.int .i64 kd, .int .i64 0, .int .i64 0, .slice none 0 0] by
        rw [← hW, hkd3]
        first
          | exact hy0 _ _ _ _
          | exact (hy0 _ _ _ #[.int .i64 2, .int .i64 0, .int .i64 0, .slice none 0 0]).set 0 (.int .i64 3))
      clear hW hb0 hq0 hx0 hy0 g0 g1 g2 g3 k1 k4 k2 hkd3
      have HS3 := Lib.hid (show ∀ k, (S k ∨ k = w.heap.size + 1 ∨ k = w.heap.size + 1 + 1 + 1) → k < W3.heap.size from fun k hk => by
        rcases hk with hk | rfl | rfl
        · exact Nat.lt_of_lt_of_le (HS.out k hk) HB3.out.size
        · exact HQ3.out.lt
        · exact HY3.out.lt)
      go_loopw [6] (fun q wr => ∃ (i : Nat) (A' : Option Addr) (c' : Nat), i ≤ nb ∧ q = .int .i64 i ∧ Hid (NSt (fun k => S k ∨ k = w.heap.size + 1 ∨ k = w.heap.size + 1 + 1 + 1) W3 wr ((c.ps.toL.take i).map cnot) A' i c') ∧ Hid (Blk wr (w.heap.size + 1 + 1 + 1) 24 #[.int .i64 kd, .int .i64 0, .int .i64 0, .slice A' i c']) ∧
        Hid (Blk wr (w.heap.size + 1 + 1) 24 #[.int .i64 c.k, .int .i64 c.v, .int .i64 c.n, .slice B nb eb]) ∧ Hid (Blk wr (w.heap.size + 1) 24 #[.int .i64 0, .int .i64 0, .int .i64 0, .slice none 0 0]) ∧ Hid (Below w.heap.size w wr)) (fun q _ => nb - (intOf q).toNat)
      case atStart => exact ⟨0, none, 0, Nat.zero_le _, rfl, NSt.zero, HY3.out, HX3.out, HQ3.out, HB3.out⟩
      case round =>
        obtain ⟨i, A', c', him, rfl, HN, HY, HX, HQ, HB⟩ := hrel
        have x3 := HY.out.cell 3
        have xf := HY.out.frozen 3
        have xl := HY.out.lt
        have k3 := HX.out.cell 3
        have kl := HX.out.lt
        have HW3 := Lib.hid (show w.heap.size + 1 + 1 + 1 < W3.heap.size from HS3.out _ (.inr (.inr rfl)))
        by_cases hlt : i < nb
        · obtain ⟨b', off', p, Bp, np, ep, rfl, hb', hSb', hp, h0, h1, h2, h3, hrp⟩ := HRC.out.elem hlt
          have hbl : b' < wr.heap.size := Nat.lt_of_lt_of_le hb' HB.out.size
          rw [← HB.out.cell (p := ⟨b', _, none⟩) hb'] at h0 h1 h2 h3
          have HTK := Lib.hid (show (c.ps.toL.take (i + 1)).map cnot = (c.ps.toL.take i).map cnot ++ [cnot p] by rw [List.take_add_one, hp]; simp)
          have hi2 : (i : Int) < (nb : Int) := by omega
          have hdr : Below wr.heap.size wr wr.drew := ⟨rfl, rfl, rfl, Nat.le_refl _, fun _ _ => rfl⟩
          obtain ⟨zs, hrow, hrep⟩ := HN.out.row
          have HS2 := Lib.hid (show ∀ k, ((S k ∨ k = w.heap.size + 1 ∨ k = w.heap.size + 1 + 1 + 1) ∨ (Value.slice A' i c').ownBlock = some k) → k < wr.heap.size ∧ (S k ∨ w.heap.size ≤ k) from fun k hk => by
            rcases hk with hk | hk
            · refine ⟨Nat.lt_of_lt_of_le (HS3.out k hk) HN.out.base, ?_⟩
              rcases hk with hk | rfl | rfl
              · exact .inl hk
              · exact .inr (by omega)
              · exact .inr (by omega)
            · have := hrow.lt k hk
              exact ⟨this.2, .inr (by have := HW3.out; omega)⟩)
          have HPC := Lib.hid (pnot_any (fun k => (S k ∨ k = w.heap.size + 1 ∨ k = w.heap.size + 1 + 1 + 1) ∨ (Value.slice A' i c').ownBlock = some k) p Bp np ep wr.drew (fun k hk => (HS2.out k hk).1) ((hrp.new.below (HB.out.trans (hdr.mono HB.out.size))).sub fun k hk => (HS2.out k hk).2))
          have HRW := Lib.hid hrow
          have HRP := Lib.hid hrep
          have hnb := HN.out.base
          have hzz : i ≤ 16 := by have := HNB.out; omega
          clear hrow hrep hp hrp hSb'
          go_wp2_with (fail)
          go_region_law (first
            | (go_simp
               go_at_call 112
               refine HPC.out.mono ?_
               rintro e' wn ⟨hbn, gn, rfl, hrn⟩
               have HBN := Lib.hid (hdr.trans hbn)
               have HRN := Lib.hid hrn
               have x3 := (hbn.cell (p := ⟨w.heap.size + 1 + 1 + 1, 3, none⟩) xl).trans x3
               have xf : wn.frozen? ⟨w.heap.size + 1 + 1 + 1, 3, none⟩ = false := (HY.out.below HBN.out xl).frozen 3
               have k3 := (hbn.cell (p := ⟨w.heap.size + 1 + 1, 3, none⟩) kl).trans k3
               have xl := Nat.lt_of_lt_of_le xl hbn.size
               clear hbn hrn)
            | (have hba : Below wn.heap.size wn (wn.alloc (.cells #[.int .i64 4, .int .i64 0, .int .i64 0, .slice (some ⟨gn, 0, none⟩) 1 1] 24)) := (Below.refl _ _).alloc (Nat.le_refl _) _
               have HBA := Lib.hid (HBN.out.trans (hba.mono HBN.out.size))
               refine step_push_apart elemCond2 rfl (.tmp 50) (.tmp 57) rfl W3.heap.size A' i c' zs (by simp [Act.eval, Act.put]) (own_below_all HRW.out HBA.out) wn.heap.size (by simp [Act.eval, Act.put]) [.int .i64 4, .int .i64 0, .int .i64 0, .slice (some ⟨gn, 0, none⟩) 1 1] rfl (new_cells _ _ _) (by intro u hu; simp at hu; rcases hu with rfl | rfl | rfl | rfl <;> rfl) (by omega) (by omega) (by have := HBN.out.size; simp only [World.size_alloc]; omega) ?_
               intro A5 c5 w5 hown5 hb5 hg5 hap5
               have HN5 := Lib.hid (NSt.push (HN.out.below HBA.out) (M := [cnot p]) (HRP.out.only (Only.of_below (S := fun _ => False) HBA.out) (fun _ h => h.elim)) (RepF.one1 (x := cnot p) (HRN.out.below hba)) rfl hg5 hown5 hap5)
               have hO5 := Only.of_grown (S := fun k => (Value.slice A' i c').ownBlock = some k) hg5 (fun k hk => hk)
               have hne : ∀ k, (Value.slice A' i c').ownBlock = some k → W3.heap.size ≤ k := fun k hk => (HRW.out.lt k hk).1
               have HY5 := Lib.hid ((HY.out.below HBA.out HY.out.lt).only hO5 (fun hk => by have h1 := hne _ hk; have h2 := HW3.out; omega))
               have HX5 := Lib.hid ((HX.out.below HBA.out HX.out.lt).only hO5 (fun hk => by have h1 := hne _ hk; have h2 := HW3.out; omega))
               have HQ5 := Lib.hid ((HQ.out.below HBA.out HQ.out.lt).only hO5 (fun hk => by have h1 := hne _ hk; have h2 := HW3.out; omega))
               have HB5 := Lib.hid (hO5.below (HB.out.trans (HBA.out.mono HB.out.size)) (HB.out.trans (HBA.out.mono HB.out.size)).size (fun k hk => by have h1 := hne _ hk; have h2 := HW3.out; omega))
               have x3 : w5.cell? ⟨w.heap.size + 1 + 1 + 1, 3, none⟩ = some (.slice A' i c') := HY5.out.cell 3
               have xf : w5.frozen? ⟨w.heap.size + 1 + 1 + 1, 3, none⟩ = false := HY5.out.frozen 3
               have xl := HY5.out.lt
               clear hba hown5 hb5 hg5 hap5 hO5 hne))
          all_goals
            have hOx : Only (· = w.heap.size + 1 + 1 + 1) w5 (w5.setCell ⟨w.heap.size + 1 + 1 + 1, 3, none⟩ (.slice A5 (i + 1) c5)) := Only.set (S := (· = w.heap.size + 1 + 1 + 1)) w5 (p := ⟨w.heap.size + 1 + 1 + 1, 3, none⟩) rfl _
            have HN6 := Lib.hid (HN5.out.only hOx (fun k hk => by rw [show k = w.heap.size + 1 + 1 + 1 from hk]; exact HW3.out) (fun k hk => .inr (.inr hk)))
            rw [← HTK.out] at HN6
            have HY6 := Lib.hid (show Blk (w5.setCell ⟨w.heap.size + 1 + 1 + 1, 3, none⟩ (.slice A5 (i + 1) c5)) (w.heap.size + 1 + 1 + 1) 24 #[.int .i64 kd, .int .i64 0, .int .i64 0, .slice A5 (i + 1) c5] from HY5.out.set 3 (.slice A5 (i + 1) c5))
            have HX6 := Lib.hid (HX5.out.far (p := ⟨w.heap.size + 1 + 1 + 1, 3, none⟩) (fun he => by have h2 : w.heap.size + 1 + 1 = w.heap.size + 1 + 1 + 1 := he; omega) (.slice A5 (i + 1) c5))
            have HQ6 := Lib.hid (HQ5.out.far (p := ⟨w.heap.size + 1 + 1 + 1, 3, none⟩) (fun he => by have h2 : w.heap.size + 1 = w.heap.size + 1 + 1 + 1 := he; omega) (.slice A5 (i + 1) c5))
            have HB6 := Lib.hid (hOx.below HB5.out HB5.out.size (fun k hk => by rw [show k = w.heap.size + 1 + 1 + 1 from hk]; omega))
            clear hOx x3 xf xl k3 kl
            generalize w5.setCell ⟨w.heap.size + 1 + 1 + 1, 3, none⟩ (.slice A5 (i + 1) c5) = w6 at HN6 HY6 HX6 HQ6 HB6 ⊢
            go_wp2_with (fail)
            go_roundw
            case rel => exact ⟨i + 1, A5, c5, by omega, by go_num, HN6.out, HY6.out, HX6.out, HQ6.out, HB6.out⟩
            case measure => simp [intOf]; omega
        · obtain rfl : i = nb := by omega
          have hii : ¬ (i : Int) < (i : Int) := by omega
          have HZR := Lib.hid (show RepH (fun k => S k ∨ k = w.heap.size + 1) wr (CF.ofL (c.ps.toL.map cnot)) A' i c' by
            have h := HN.out.rep HS3.out
            rw [List.take_of_length_le (by have := HLC.out; omega)] at h
            exact h.sub fun k hk => by
              rcases hk with hk | hk
              · exact .inl hk
              · exact .inr (.inl hk))
          have y0 := HY.out.cell 0
          have y1 := HY.out.cell 1
          have y2 := HY.out.cell 2
          go_wp2_with (fail)
          refine (pjoin (fun k => S k ∨ k = w.heap.size + 1) kd 0 0 (CF.ofL (c.ps.toL.map cnot)) A' i c' wr (partR f) (fun k hk => by
            rcases hk with hk | rfl
            · exact Nat.lt_of_lt_of_le (HS.out k hk) HB.out.size
            · exact HQ.out.lt) HKD.out HZR.out HNB.out (fun z hz S' W B' q' e' hS' hr' => by
            rw [toL_ofL2] at hz
            obtain ⟨p, hp, rfl⟩ := List.mem_map.1 hz
            exact HI.out S' W p true B' q' e' hS' (HOP.out p hp) (HDP.out p hp) hr') (fun z hz y hy => by
            rw [toL_ofL2] at hz
            obtain ⟨p, hp, rfl⟩ := List.mem_map.1 hz
            exact norm_norm f true p y (HOP.out p hp) hy)).mono ?_
          rw [← HRJ.out]
          rintro e w4 ⟨hb4, hp⟩
          have HB4 := Lib.hid (HB.out.trans (hb4.mono HB.out.size))
          have HQ4 := Lib.hid (HQ.out.below hb4 HQ.out.lt)
          clear hb4 y0 y1 y2 x3 xf xl k3 kl HY HX HQ HB HN
          cases r with
          | none =>
            obtain rfl := hp
            have r0 := HQ4.out.cell 0
            have r1 := HQ4.out.cell 1
            have r2 := HQ4.out.cell 2
            have r3 := HQ4.out.cell 3
            have rf0 := HQ4.out.frozen 0
            have rf1 := HQ4.out.frozen 1
            have rf2 := HQ4.out.frozen 2
            have rf3 := HQ4.out.frozen 3
            have rl := HQ4.out.lt
            go_wp2_with (fail)
            first | (refine calls_named ?_; intro W8 hW) | (refine body_named ?_; intro W8 hW) | (refine wpList_named ?_; intro W8 hW) | (refine wp_named ?_; intro W8 hW)
            have hs := HQ4.out.set4 (y0 := .int .i64 0) (y1 := .int .i64 0) (y2 := .int .i64 0) (y3 := .slice none 0 0)
            have hO8 : Only (· = w.heap.size + 1) w4 W8 := by rw [← hW]; first | (with_reducible exact hs.2) | (with_reducible exact hs.2.trans (Only.of_below ((Below.refl _ _).alloc (Nat.le_refl _) _)))
            have hr8 : Blk W8 (w.heap.size + 1) 24 #[.int .i64 0, .int .i64 0, .int .i64 0, .slice none 0 0] := by rw [← hW]; first | (with_reducible exact hs.1) | (with_reducible exact hs.1.alloc _)
            have HB8 := Lib.hid (hO8.below HB4.out HB4.out.size (fun k hk => by rw [show k = w.heap.size + 1 from hk]; omega))
            clear hW hs r0 r1 r2 r3 rf0 rf1 rf2 rf3 rl
            have r0 := hr8.cell 0
            have r1 := hr8.cell 1
            have r2 := hr8.cell 2
            have r3 := hr8.cell 3
            refine bodyPost_ret (P := Tryz.prog) (fn := Tryz.f65) (v := .tuple #[.agg #[.int .i64 0, .int .i64 0, .int .i64 0, .slice none 0 0], .int .i64 2]) (by simp [results, Tryz.results65, go_sem, r0, r1, r2, r3]; try rfl) rfl ?_
            exact ⟨HB8.out, rfl⟩
          | some y =>
            obtain ⟨Ay, my, dy, rfl, hry⟩ := hp
            have HRow := Lib.hid hry
            clear hry
            unfold cV
            dsimp only [vi]
            have r0 := HQ4.out.cell 0
            have r1 := HQ4.out.cell 1
            have r2 := HQ4.out.cell 2
            have r3 := HQ4.out.cell 3
            have rf0 := HQ4.out.frozen 0
            have rf1 := HQ4.out.frozen 1
            have rf2 := HQ4.out.frozen 2
            have rf3 := HQ4.out.frozen 3
            have rl := HQ4.out.lt
            go_wp2_with (fail)
            first | (refine calls_named ?_; intro W8 hW) | (refine body_named ?_; intro W8 hW) | (refine wpList_named ?_; intro W8 hW) | (refine wp_named ?_; intro W8 hW)
            have hs := HQ4.out.set4 (y0 := .int .i64 y.k) (y1 := .int .i64 y.v) (y2 := .int .i64 y.n) (y3 := .slice Ay my dy)
            have hO8 : Only (· = w.heap.size + 1) w4 W8 := by rw [← hW]; first | (with_reducible exact hs.2) | (with_reducible exact hs.2.trans (Only.of_below ((Below.refl _ _).alloc (Nat.le_refl _) _)))
            have hr8 : Blk W8 (w.heap.size + 1) 24 #[.int .i64 y.k, .int .i64 y.v, .int .i64 y.n, .slice Ay my dy] := by rw [← hW]; first | (with_reducible exact hs.1) | (with_reducible exact hs.1.alloc _)
            have HB8 := Lib.hid (hO8.below HB4.out HB4.out.size (fun k hk => by rw [show k = w.heap.size + 1 from hk]; omega))
            clear hW hs r0 r1 r2 r3 rf0 rf1 rf2 rf3 rl
            have r0 := hr8.cell 0
            have r1 := hr8.cell 1
            have r2 := hr8.cell 2
            have r3 := hr8.cell 3
            refine bodyPost_ret (P := Tryz.prog) (fn := Tryz.f65) (v := .tuple #[.agg #[.int .i64 y.k, .int .i64 y.v, .int .i64 y.n, .slice Ay my dy], .int .i64 0]) (by simp [results, Tryz.results65, go_sem, r0, r1, r2, r3]; try rfl) rfl ?_
            exact ⟨HB8.out, Ay, my, dy, rfl, (HRow.out.only hO8 (fun k hk => .inr hk)).sub fun k hk => .inl hk⟩
theorem pn_of (f : Nat) (ih : PN f) : PN (f + 1) := by
  intro S w c neg A m d hS hok hd h
  cases neg with
  | true => exact pn_neg f ih S w c A m d hS hok (by omega) h
  | false =>
    change RepH S w c.ps A m d at h
    change Calls Tryz.prog 65 #[.agg #[.int .i64 c.k, .int .i64 c.v, .int .i64 c.n, .slice A m d]] w (PNPost S w (norm (f + 1) false c))
    rcases okC_cases hok with h1 | h1 | h1
    · rw [show norm (f + 1) false c = some c by rw [norm, if_pos h1.1]; rfl]
      exact pn_at S w c A m d h1.1 h
    · obtain ⟨p, rfl⟩ := four_not h1.1 h1.2.1 h1.2.2.1 h1.2.2.2.1
      rw [show norm (f + 1) false (cnot p) = norm f true p from norm_four (c := cnot p) rfl rfl]
      exact ih S w p true A m d hS (okB_mem h1.2.2.2.2 p (by simp [cnot, CF.one, CF.toL])) (by
        have := dep_parts (F := (cnot p).ps) (p := p) (by simp [cnot, CF.one, CF.toL])
        omega) h
    · obtain ⟨hk, hv, hn, hn1, hn16, hokp⟩ := h1
      rw [norm_join hk (kind := c.k) rfl]
      have hm : m ≤ 16 := by rw [h.len, ← toL_len, num_toL]; exact hn16
      exact pjoin S c.k c.v c.n c.ps A m d w (norm f false) hS hk h hm (fun z hz S' W B' q' e' hS' hr' => ih S' W z false B' q' e' hS' (okB_mem hokp z hz) (by have := dep_parts hz; omega) hr') (fun z hz y hy => norm_norm f false z y (okB_mem hokp z hz) hy)
theorem pnormal_any : ∀ f, PN f
  | 0 => fun _ _ _ _ _ _ _ _ _ hd _ => absurd hd (by omega)
  | f + 1 => pn_of f (pnormal_any f)
end Go.Proofs.YticpjdjdimpglaaGreatDoor
