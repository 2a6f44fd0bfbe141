/- The parser's joined by its contract. -/
import Derived.Test.YtlgdmbdhffdenaaGreatDoorYJSt
namespace Go.Proofs.YtlgdmbdhffdenaaGreatDoor
set_option linter.unusedVariables false
set_option linter.unusedSimpArgs false
open Go.RowKit

theorem len_one {F : CF} (h : F.len = 1) : ∃ k v n ps, F = .cons k v n ps .nil := by
  cases F with
  | nil => cases h
  | cons k v n ps r =>
    cases r with
    | nil => exact ⟨_, _, _, _, rfl⟩
    | cons => simp [CF.len] at h
theorem joinAll_many {kind : Int} {F : CF} (h0 : 0 < F.len) (h1 : F.len ≠ 1) : joinAll kind F = ⟨kind, 0, 0, F⟩ := by
  cases F with
  | nil => cases h0
  | cons k v n ps r =>
    cases r with
    | nil => exact absurd rfl h1
    | cons => rfl
theorem RepF.uncons {S : Nat → Prop} {w : World} {k v n : Int} {ps r : CF} {xs : List Value} (h : RepF S w (.cons k v n ps r) xs) : ∃ A m c zs, xs = vi k :: vi v :: vi n :: .slice A m c :: zs ∧ RepH S w ps A m c ∧ RepF S w r zs := by
  obtain ⟨A, m, c, ys, zs, e, h1, h2⟩ := h
  exact ⟨A, m, c, zs, e, ⟨ys, h1⟩, h2⟩
theorem pmore_succ (T : List Tok) (kw : List UInt8) (p : Nat → Res CT) (g a : Nat) : pmore T kw p (g + 1) a = if isB T a kw then (p (a + 1)).bind fun c n => (pmore T kw p g n).map (CF.one c) else .ok .nil a := rfl
set_option maxHeartbeats 4000000 in
set_option maxRecDepth 100000 in
theorem yjoin_any (k : Nat) (B g : Nat) (A : Option Addr) (n c : Nat) (T : List Tok) (p : Nat → Res CT) (hpin : ∀ a, (p a).In T.length a) (a : Nat) (kw : List UInt8) (kind : Int) (hkw : kw.length ≤ 70000)
    (hU : ∀ a' w', a ≤ a' → a' ≤ 65537 → PSt w' B g A n c T a' → Calls Tryz.prog k #[.pointer (some ⟨g, 0, none⟩)] w' (PPost w' B g A n c T (p a') (CV w')))
    (hcf : ∀ w : World, (callFunc k #[.pointer (some ⟨g, 0, none⟩)]).run Tryz.prog w = .ok (.enter k #[.pointer (some ⟨g, 0, none⟩)]) w)
    (w : World) (h : PSt w B g A n c T a) (hT : TOk T) (ha : a ≤ 65537) :
    Calls Tryz.prog 69 #[.pointer (some ⟨g, 0, none⟩), .string (bs kw), .int .i64 kind, .func (.func k) #[.pointer (some ⟨g, 0, none⟩)] #[]] w (PPost w B g A n c T (pjoined T kw kind p a) (CV w)) := by
  have HS := Lib.hid h
  have HT := Lib.hid hT
  have HU := Lib.hid hU
  have hTl := hT.len
  clear h hT hU
  go_enter Tryz.func69, Tryz.ntmps69
  go_wp2_with (fail)
  have hb0 : Below w.heap.size w (w.alloc (.cells #[.int .i64 0, .int .i64 0, .int .i64 0, .slice none 0 0] 35)) := (Below.refl _ _).alloc (Nat.le_refl _) _
  have hx0 := Blk.new w 35 #[.int .i64 0, .int .i64 0, .int .i64 0, .slice none 0 0]
  have hgw := HS.out.lt
  refine (HU.out a _ (Nat.le_refl _) ha (HS.out.below hb0)).mono ?_
  rintro e w1 ⟨hO1', hp⟩
  have hO1 := Lib.hid ((Only.of_below hb0).trans hO1')
  have hx1 := hx0.only hO1' (by omega)
  have hin := hpin a
  cases hv : p a with
  | bad m =>
    rw [hv] at hp
    obtain ⟨rfl, hP⟩ := hp
    have HE := Lib.hid (show pjoined T kw kind p a = .bad m by unfold pjoined; rw [hv]; rfl)
    clear hv hin
    go_wp2
    refine ⟨rfl, ?_⟩
    unfold PPost
    rw [HE.out]
    exact ⟨hO1.out, rfl, hP⟩
  | ok c1 m =>
    rw [hv] at hp hin
    obtain ⟨⟨_, rfl, A1, m1, cc1, rfl, hR1⟩, hP1⟩ := hp
    have hm : m ≤ 65537 := Nat.le_trans hin.2 HT.out.len
    have hmT : m ≤ T.length := hin.2
    have ham : a < m := hin.1
    have HE := Lib.hid (show pjoined T kw kind p a = (pmore T kw p (T.length - m) m).map (fun cs => joinAll kind ((CF.one c1 .nil).app cs)) by
      unfold pjoined; rw [hv]
      show (pmore T kw p (T.length - m) m).map (join_ kind c1) = _
      exact congrArg (fun f => (pmore T kw p (T.length - m) m).map f) (funext fun cs => joinAll_join kind c1 cs))
    clear hv hin
    unfold condV
    dsimp only
    go_wp2_with (fail)
    have hb2 : Below w1.heap.size w1 (w1.alloc (.cells #[vi c1.k, vi c1.v, vi c1.n, .slice A1 m1 cc1] 35)) := (Below.refl _ _).alloc (Nat.le_refl _) _
    have hJ : JSt w (w1.alloc (.cells #[vi c1.k, vi c1.v, vi c1.n, .slice A1 m1 cc1] 35)) B g A n c T m (.one c1 .nil) (some ⟨w1.heap.size, 0, none⟩) 1 := by
      have hz := hO1.out.size
      have hz2 := hO1'.size
      simp only [World.size_alloc] at hz2
      refine ⟨hP1.below hb2, hO1.out.trans (Only.of_below hb2), hgw, hx1.below hb2 hx1.lt, [vi c1.k, vi c1.v, vi c1.n, .slice A1 m1 cc1], own_of_blk (m := 1) (Blk.new w1 _ _) rfl (by omega) (by decide), ?_⟩
      have h1 := (hR1.new.only (S' := fun _ => False) (Only.of_below hb2) (fun _ h => h.elim))
      refine RepF.one (h1.sub fun k hk => ?_)
      rcases hk with hk | hk
      · exact .inl (by simp; omega)
      · injection hk with hk
        exact .inr (by show w1.heap.size ≤ k; have hk' : w1.heap.size = k := hk; omega)
    have HJ := Lib.hid hJ
    clear hJ hb2 hP1 hR1 hO1 hO1' hx1 hx0 hb0
    generalize w1.alloc (.cells #[vi c1.k, vi c1.v, vi c1.n, .slice A1 m1 cc1] 35) = w2 at HJ ⊢
    generalize w1.heap.size = b1 at HJ ⊢
    go_loopg [9] (T.length - m) (fun gk s wr => ∃ (b : Nat) (F : CF) (A' : Option Addr) (c' : Nat), T.length ≤ gk + b ∧ b ≤ T.length ∧ F.len ≤ b ∧ 0 < F.len ∧ s = .slice A' F.len c' ∧ a ≤ b ∧ Hid (JSt w wr B g A n c T b F A' c') ∧ Hid (pjoined T kw kind p a = (pmore T kw p gk b).map (fun cs => joinAll kind (F.app cs))))
    case atStart => exact ⟨m, _, _, 1, by omega, hmT, by show 1 ≤ m; omega, by show 0 < 1; omega, rfl, by omega, HJ.out, HE.out⟩
    case round =>
      obtain ⟨b, F, A', c', hgk, hbL, hFb, hF0, rfl, hab, HJ2, HE2⟩ := hrel
      have hb : b ≤ 65537 := by have := HT.out.len; omega
      have Hgk := Lib.hid hgk
      cases hB : isB T b kw with
      | true =>
        have hlt := isB_lt T hB
        obtain ⟨gk, rfl⟩ : ∃ q, gk = q + 1 := ⟨gk - 1, by omega⟩
        have HE3 := Lib.hid (show pjoined T kw kind p a = ((p (b + 1)).bind fun c n => (pmore T kw p gk n).map (CF.one c)).map (fun cs => joinAll kind (F.app cs)) by rw [HE2.out, pmore_succ, if_pos hB])
        have HC := Lib.hid (yskip_yes B g A n c T b kw wr HJ2.out.st (by omega) hkw hB)
        clear hB HE2 hgk
        go_wp2_with (fail)
        refine HC.out.mono ?_
        rintro e w3 ⟨rfl, hP3, hO3⟩
        have HJ3 := Lib.hid (HJ2.out.go hP3 hO3)
        clear hP3 hO3
        go_wp2_with (fail)
        refine (HU.out (b + 1) w3 (by omega) (by omega) HJ3.out.st).mono ?_
        rintro e w4 ⟨hO4, hp⟩
        have hin := hpin (b + 1)
        cases hv : p (b + 1) with
        | bad m2 =>
          rw [hv] at hp
          obtain ⟨rfl, hP⟩ := hp
          have HE := Lib.hid (show pjoined T kw kind p a = .bad m2 by rw [HE3.out, hv]; rfl)
          have hO := Lib.hid (HJ3.out.only.trans hO4)
          clear hv hin hO4
          go_wp2
          refine ⟨rfl, ?_⟩
          unfold PPost
          rw [HE.out]
          exact ⟨hO.out, rfl, hP⟩
        | ok c2 m2 =>
          rw [hv] at hp hin
          obtain ⟨⟨_, rfl, A2, n2, cc2, rfl, hR2⟩, hP4⟩ := hp
          have HE4 := Lib.hid (show pjoined T kw kind p a = (pmore T kw p gk m2).map (fun cs => joinAll kind ((F.app (.one c2 .nil)).app cs)) by
            rw [HE3.out, hv]
            show ((pmore T kw p gk m2).map (CF.one c2)).map _ = _
            cases pmore T kw p gk m2 with
            | ok cs q => show Res.ok (joinAll kind (F.app (CF.one c2 cs))) q = Res.ok (joinAll kind ((F.app (CF.one c2 .nil)).app cs)) q; rw [CF.app_assoc]; rfl
            | bad q => rfl)
          have hm2 : m2 ≤ T.length := hin.2
          have hbm : b + 1 < m2 := hin.1
          have HJ4 := Lib.hid (HJ3.out.go hP4 hO4)
          have HR4 := Lib.hid (show RepH (fun k => k ≤ w.heap.size ∨ (Value.slice A' F.len c').ownBlock = some k) w4 c2.ps A2 n2 cc2 by
            obtain ⟨xs, h1, _⟩ := HJ3.out.row
            refine hR2.sub fun k hk => ?_
            rcases hk with hk | hk
            · exact Nat.lt_of_le_of_lt hk HJ3.out.box.lt
            · exact (h1.lt k hk).2)
          clear hv hin hO4 hP4 hR2 HE3
          unfold condV
          dsimp only
          go_wp2_with (at_builtin; refine Hid.out ?_)
          refine Lib.hid ?_
          obtain ⟨xs, hrow, hrep⟩ := HJ4.out.row
          have hbb : Below w4.heap.size w4 (w4.alloc (.cells #[vi c2.k, vi c2.v, vi c2.n, .slice A2 n2 cc2] 35)) := (Below.refl _ _).alloc (Nat.le_refl _) _
          have hF65 : F.len ≤ 65537 := by omega
          refine wpList_push_apart elemCond rfl (.tmp 16) (.tmp 19) rfl (w.heap.size + 1) A' F.len c' xs rfl (own_below_all hrow hbb) w4.heap.size rfl [vi c2.k, vi c2.v, vi c2.n, .slice A2 n2 cc2] rfl (new_cells _ _ _) (by intro u hu; simp at hu; rcases hu with rfl | rfl | rfl | rfl <;> rfl) (by omega) (by omega) (by have := HJ4.out.box.lt; simp only [World.size_alloc]; omega) ?_
          intro A3 c3 w5 hown5 hb5 hg5 hap5
          have HJ5 := Lib.hid (JSt.push (HJ4.out.below hbb) (xs := xs) (news := [vi c2.k, vi c2.v, vi c2.n, .slice A2 n2 cc2]) (c2 := c2) rfl (hrep.only (S' := fun _ => False) (Only.of_below hbb) (fun _ h => h.elim)) (RepF.one (HR4.out.only (S' := fun _ => False) (Only.of_below hbb) (fun _ h => h.elim))) (fun k hk => (hrow.lt k hk).1) hg5 hown5 hap5)
          clear hrow hrep hbb hown5 hb5 hg5 hap5 HJ4 HR4
          go_wp2_with (fail)
          go_roundg gk
          case measure => omega
          case rel => exact ⟨m2, _, A3, c3, by have := Hgk.out; omega, hm2, by rw [CF.len_app]; show F.len + 1 ≤ m2; omega, by rw [CF.len_app]; show 0 < F.len + 1; omega, slice_eq (by rw [CF.len_app]; rfl), by omega, HJ5.out, HE4.out⟩
      | false =>
        have HE3 := Lib.hid (show pjoined T kw kind p a = .ok (joinAll kind F) b by
          rw [HE2.out]
          cases gk with
          | zero => show Res.ok (joinAll kind (F.app .nil)) b = _; rw [CF.app_nil]
          | succ gk => rw [pmore_succ, if_neg (by rw [hB]; decide)]; show Res.ok (joinAll kind (F.app .nil)) b = _; rw [CF.app_nil])
        have HC := Lib.hid (yskip_no B g A n c T b kw wr HJ2.out.st (by omega) hkw hB)
        clear hB HE2 hgk
        go_wp2_with (fail)
        refine HC.out.mono ?_
        rintro e w3 ⟨rfl, hb3⟩
        have HJ3 := Lib.hid (HJ2.out.below hb3)
        clear hb3
        obtain ⟨x0, x1, x2, x3, f0, f1, f2, f3⟩ := HJ3.out.box.four
        obtain ⟨xs, hrow', hrep'⟩ := HJ3.out.row
        have hrow := Lib.hid hrow'
        have hrep := Lib.hid hrep'
        have hlx := HJ3.out.box.lt
        by_cases h1 : F.len = 1
        · obtain ⟨q1, q2, q3, qs, rfl⟩ := len_one h1
          obtain ⟨A3, m3, c3, zs, rfl, hR, hz⟩ := RepF.uncons hrep'
          obtain rfl : zs = [] := hz
          have HR := Lib.hid hR
          obtain ⟨bb, off, rfl, hbb, hc⟩ := (own_rd hrow').cells (by omega)
          have y0 : w3.cell? ⟨bb, off, none⟩ = some (.int .i64 q1) := hc 0 _ rfl
          have y1 : w3.cell? ⟨bb, off + 1, none⟩ = some (.int .i64 q2) := hc 1 _ rfl
          have y2 : w3.cell? ⟨bb, off + 2, none⟩ = some (.int .i64 q3) := hc 2 _ rfl
          have y3 : w3.cell? ⟨bb, off + 3, none⟩ = some (.slice A3 m3 c3) := hc 3 _ rfl
          have HE5 := Lib.hid (show pjoined T kw kind p a = .ok ⟨q1, q2, q3, qs⟩ b by rw [HE3.out]; rfl)
          have hcap := (own_rd hrow').cap
          clear hrow' hrep' hR hc HE3
          rw [h1] at *
          go_wp2_with (fail)
          first | (refine calls_named ?_; intro W hW) | (refine body_named ?_; intro W hW) | (refine wpList_named ?_; intro W hW) | (refine wp_named ?_; intro W hW)
          obtain ⟨hk, hO⟩ : Blk W w.heap.size 35 #[.int .i64 q1, .int .i64 q2, .int .i64 q3, .slice A3 m3 c3] ∧ Only (· = w.heap.size) w3 W := by rw [← hW]; exact HJ3.out.box.set4
          clear hW x0 x1 x2 x3 f0 f1 f2 f3 y0 y1 y2 y3
          obtain ⟨y0, y1, y2, y3, _⟩ := hk.four
          refine bodyPost_ret (by simp [results, Tryz.results69, go_sem, y0, y1, y2, y3]; try rfl) rfl ?_
          unfold PPost
          rw [HE5.out]
          refine ⟨HJ3.out.only.new hO (fun k e => by rw [e]; exact Nat.le_refl _), ⟨_, rfl, A3, m3, c3, rfl, ?_⟩, HJ3.out.st.only hO (by omega) (fun k e => by rw [e]; have := HJ3.out.st.lb; omega)⟩
          exact (HR.out.only hO (fun k e => .inl (by rw [e]; exact Nat.le_refl _))).sub (fun k hk => .inl (Nat.le_of_lt hk))
        · have HE5 := Lib.hid (show pjoined T kw kind p a = .ok ⟨kind, 0, 0, F⟩ b by rw [HE3.out, joinAll_many hF0 h1])
          have e1 := nb (a := F.len) (m := 1) (by omega)
          clear hrow' hrep' HE3
          go_wp2_with (fail)
          first | (refine calls_named ?_; intro W hW) | (refine body_named ?_; intro W hW) | (refine wpList_named ?_; intro W hW) | (refine wp_named ?_; intro W hW)
          obtain ⟨hk, hO⟩ : Blk W w.heap.size 35 #[.int .i64 kind, .int .i64 0, .int .i64 0, .slice A' F.len c'] ∧ Only (· = w.heap.size) w3 W := by rw [← hW]; exact HJ3.out.box.set4
          clear hW x0 x1 x2 x3 f0 f1 f2 f3
          obtain ⟨y0, y1, y2, y3, _⟩ := hk.four
          refine bodyPost_ret (by simp [results, Tryz.results69, go_sem, y0, y1, y2, y3]; try rfl) rfl ?_
          unfold PPost
          rw [HE5.out]
          refine ⟨HJ3.out.only.new hO (fun k e => by rw [e]; exact Nat.le_refl _), ⟨_, rfl, A', F.len, c', rfl, xs, ?_, ?_, ?_⟩, HJ3.out.st.only hO (by omega) (fun k e => by rw [e]; have := HJ3.out.st.lb; omega)⟩
          · exact own_rd (own_only hrow.out hO (fun k hk e => by have := (hrow.out.lt k hk).1; omega))
          · intro _ q hq hS
            subst hq
            have := (hrow.out.lt q.block rfl).1
            omega
          · exact (hrep.out.only hO (fun k e => .inl (by rw [e]; exact Nat.le_refl _))).sub (fun k hk => .inl (Nat.le_of_lt hk))
end Go.Proofs.YtlgdmbdhffdenaaGreatDoor
