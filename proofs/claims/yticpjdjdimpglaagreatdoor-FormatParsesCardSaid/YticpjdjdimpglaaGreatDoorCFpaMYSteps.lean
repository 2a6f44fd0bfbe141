/- The parser's steps by their contract. -/
import Derived.Test.YticpjdjdimpglaaGreatDoorCFpaMYZones
import Derived.Test.YticpjdjdimpglaaGreatDoorCFpaMYCrit
namespace Go.Proofs.YticpjdjdimpglaaGreatDoor
set_option linter.unusedVariables false
set_option linter.unusedSimpArgs false
open Go.RowKit
theorem elemStep : Elem Tryz.prog 25 56 8 112 := Elem.mk' Tryz.underlying25 (z := .agg #[.int .i64 0, .int .i64 0, .int .i64 0, .int .i64 0, .int .i64 0, .slice none 0 0, .slice none 0 0, .slice none 0 0]) (by kernel_rfl) rfl (by omega)
theorem new_cellsY (w : World) (cs : List Value) (t : TypeId) {g : Nat} (hg : g = w.heap.size) : ∀ j u, cs[j]? = some u → (w.alloc (.cells cs.toArray t)).cell? ⟨g, j, none⟩ = some u := by
  subst hg
  exact new_cells w cs t
/-- What steps hand back: a row of their own. -/
def SV (w : World) (F : SF) (w' : World) (v : Value) : Prop := ∃ A m c, v = .slice A m c ∧ RepT (fun k => k < w.heap.size) w' F A m c
theorem RepS.cons {S : Nat → Prop} {w : World} {k b ck cv cn : Int} {cps : CF} {th el r : SF} {A A1 A2 : Option Addr} {m c m1 c1 m2 c2 : Nat} {zs : List Value} (h : RepH S w cps A m c) (h1 : RepT S w th A1 m1 c1) (h2 : RepT S w el A2 m2 c2) (hr : RepS S w r zs) :
    RepS S w (.cons k b ck cv cn cps th el r) (vi k :: vi b :: vi ck :: vi cv :: vi cn :: .slice A m c :: .slice A1 m1 c1 :: .slice A2 m2 c2 :: zs) := ⟨A, m, c, A1, m1, c1, A2, m2, c2, zs, rfl, h, h1, h2, hr⟩
/-- The row of steps that is being made. -/
structure YSSt (w0 wr : World) (B g : Nat) (A : Option Addr) (n c : Nat) (T : List Tok) (b : Nat) (F : SF) (A' : Option Addr) (c' : Nat) : Prop where
  st : PSt wr B g A n c T b
  only : Only (· = g) w0 wr
  glt : g < w0.heap.size
  row : ∃ xs, wr.ownsRow w0.heap.size 56 8 (.slice A' F.len c') F.len xs ∧ RepS (fun k => k < w0.heap.size ∨ (Value.slice A' F.len c').ownBlock = some k) wr F xs
section
variable {w0 wr W w1 : World} {B g n c b b' c' : Nat} {A A' : Option Addr} {T : List Tok} {F : SF}
theorem YSSt.own (h : YSSt w0 wr B g A n c T b F A' c') : ∀ k, (Value.slice A' F.len c').ownBlock = some k → w0.heap.size ≤ k ∧ k < wr.heap.size := by
  obtain ⟨xs, h1, _⟩ := h.row
  exact fun k hk => h1.lt k hk
theorem YSSt.go (h : YSSt w0 wr B g A n c T b F A' c') (hp : PSt W B g A n c T b') (ho : Only (· = g) wr W) : YSSt w0 W B g A n c T b' F A' c' := by
  obtain ⟨xs, h1, h2⟩ := h.row
  refine ⟨hp, h.only.trans ho, h.glt, xs, own_only h1 ho (fun k hk => by have := (h1.lt k hk).1; have := h.glt; omega), h2.only ho (fun k hk => .inl (by have := h.glt; omega))⟩
theorem YSSt.below (h : YSSt w0 wr B g A n c T b F A' c') (hb : Below wr.heap.size wr W) : YSSt w0 W B g A n c T b F A' c' := h.go (h.st.below hb) (Only.of_below hb)
/-- A step's box, made behind the row, is written. -/
theorem YSSt.box (h : YSSt w0 wr B g A n c T b F A' c') {zb : Nat} (hn : ∃ wz, YSSt w0 wz B g A n c T b' F A' c' ∧ zb = wz.heap.size ∧ Only (fun k => k = g ∨ zb ≤ k) wz wr) (ho : Only (· = zb) wr W) : YSSt w0 W B g A n c T b F A' c' := by
  obtain ⟨wz, hz, rfl, hoz⟩ := hn
  obtain ⟨xs, h1, h2⟩ := hz.row
  have hgl := h.glt
  have hsz := hz.only.size
  have ho2 : Only (fun k => k = g ∨ wz.heap.size ≤ k) wz W := hoz.trans ⟨ho.os, ho.tape, ho.output, ho.size, fun k hk hn => ho.block k hk (fun e => hn (.inr (by rw [e]; exact Nat.le_refl _)))⟩
  refine ⟨h.st.only ho (by omega) (fun k hk => by have := h.st.lb; omega), h.only.new ho (fun k hk => by omega), hgl, xs, own_only h1 ho2 (fun k hk hS => ?_), ?_⟩
  · have := h1.lt k hk
    rcases hS with e | e <;> omega
  · refine ((h2.new).only ho2 (fun k hk => ?_)).sub (fun k hk => .inl hk)
    rcases hk with e | e
    · exact .inl (.inl (by omega))
    · exact .inr e
theorem YSSt.push (h : YSSt w0 W B g A n c T b F A' c') {xs news : List Value} {k2 b2 ck cv cn : Int} {cps : CF} {th el : SF} {A2 : Option Addr} {m cc : Nat} (hm : m = F.len + 1) (h2 : RepS (fun k => k < w0.heap.size ∨ (Value.slice A' F.len c').ownBlock = some k) W F xs)
    (hn : RepS (fun k => k < w0.heap.size ∨ (Value.slice A' F.len c').ownBlock = some k) W (.cons k2 b2 ck cv cn cps th el .nil) news)
    (hg : W.grownBy w1 (Value.slice A' F.len c').ownBlock) (hown : w1.ownsRow w0.heap.size 56 8 (.slice A2 m cc) m (xs ++ news))
    (hap : ∀ k, (Value.slice A2 m cc).ownBlock = some k → (Value.slice A' F.len c').ownBlock = some k ∨ W.heap.size ≤ k) : YSSt w0 w1 B g A n c T b (F.app (.cons k2 b2 ck cv cn cps th el .nil)) A2 cc := by
  have ho : Only (fun k => (Value.slice A' F.len c').ownBlock = some k) W w1 := Only.of_grown hg (fun k hk => hk)
  have hlen : (F.app (.cons k2 b2 ck cv cn cps th el .nil)).len = m := by rw [SF.len_app, hm]; rfl
  have hl := fun k hk => (h.own k hk).1
  have hgl := h.glt
  refine ⟨h.st.only ho (fun e => by have := hl _ e; omega) (fun k hk => by have := hl k hk; have := h.st.lb; omega), h.only.new ho (fun k hk => hl k hk), hgl, xs ++ news, by rw [hlen]; exact hown, ?_⟩
  rw [hlen]
  have hr2 := ((RepS.app h2 hn).new).only ho (fun k hk => .inl (.inr hk))
  refine hr2.sub fun k hk => ?_
  rcases hk with hk | hk
  · exact .inl (.inl hk)
  · rcases hap k hk with e | e
    · exact .inl (.inr e)
    · exact .inr e
theorem YSSt.sv (h : YSSt w0 wr B g A n c T b F A' c') : SV w0 F wr (.slice A' F.len c') := by
  obtain ⟨xs, h1, h2⟩ := h.row
  exact ⟨_, _, _, rfl, xs, own_rd h1, fun _ p hp hS => by subst hp; have := (h1.lt p.block rfl).1; omega, h2.sub fun k hk => .inl hk⟩
end
theorem psteps_step {T : List Tok} {f b : Nat} (h : T.length ≤ f + b) : psteps T f b = if isB T b kRB then .ok .nil (b + 1)
    else if isB T b kIf then
      (pcond T T.length (b + 1)).bind fun c n => (pwant T [kLB] n).bind fun _ n => (psteps T (f - 1) n).bind fun t n =>
        if isB T n kElse then (pwant T [kLB] (n + 1)).bind fun _ n => (psteps T (f - 1) n).bind fun e n => (psteps T (f - 1) n).map (SF.one 2 0 c t e)
        else (psteps T (f - 1) n).map (SF.one 2 0 c t .nil)
    else (pcrit T b).bind fun x n => (pwant T [kSemi] n).bind fun _ n => (psteps T (f - 1) n).map (SF.one 1 x .zero .nil .nil) := by
  cases f with
  | succ f => rfl
  | zero =>
    have hb : ∀ s, isB T b s = false := fun s => by
      cases hq : isB T b s
      · rfl
      · have := isB_lt T hq; omega
    rw [hb, hb, if_neg (by decide), if_neg (by decide)]
    have : pcrit T b = .bad b := by
      unfold pcrit
      rw [pchoose_out (by omega) rfl]
      rfl
    rw [this]
    rfl
/-- The contract of steps with fuel f. -/
def SC (f : Nat) : Prop := ∀ (B g : Nat) (A : Option Addr) (n c : Nat) (T : List Tok) (a : Nat) (w : World), PSt w B g A n c T a → TOk T → a ≤ 65537 → T.length ≤ f + a →
  Calls Tryz.prog 140 #[.pointer (some ⟨g, 0, none⟩)] w (PPost w B g A n c T (psteps T f a) (SV w))
set_option maxHeartbeats 8000000 in
set_option maxRecDepth 100000 in
theorem ysteps_of (f : Nat) (ih : ∀ f', f' < f → SC f') : SC f := by
  intro B g A n c T a w h hT ha hf
  have HI := Lib.hid ih
  have HS := Lib.hid h
  have HT := Lib.hid hT
  have hTl := hT.len
  have hgw := h.lt
  clear h hT ih
  go_enter Tryz.func140, Tryz.ntmps140
  go_wp2_with (fail)
  go_loopg [2] f (fun gk s wr => ∃ (b : Nat) (F : SF) (A' : Option Addr) (c' : Nat), T.length ≤ gk + b ∧ gk ≤ f ∧ a ≤ b ∧ b ≤ 65537 ∧ F.len ≤ b ∧ s = .slice A' F.len c' ∧ Hid (YSSt w wr B g A n c T b F A' c') ∧ Hid (psteps T f a = (psteps T gk b).map (F.app ·)))
  case atStart => exact ⟨a, .nil, none, 0, hf, Nat.le_refl _, Nat.le_refl _, ha, Nat.zero_le _, rfl, ⟨HS.out, Only.refl _ _, hgw, [], World.ownsRow_nil _ _ _ _, rfl⟩, by cases psteps T f a <;> rfl⟩
  case round =>
    obtain ⟨b, F, A', c', hgk, hgf, hab, hb, hFb, rfl, HZ, HE⟩ := hrel
    have Hgk := Lib.hid hgk
    cases hB : isB T b kRB with
    | true =>
      have HE2 := Lib.hid (show psteps T f a = .ok F (b + 1) by
        rw [HE.out, psteps_step hgk, if_pos hB]
        show Res.ok (F.app .nil) _ = _
        rw [SF.app_nil])
      have HC := Lib.hid (yskip_yes B g A n c T b kRB wr HZ.out.st (by omega) (by decide) hB)
      clear hB HE
      go_wp2_with (fail)
      refine HC.out.mono ?_
      rintro e w1 ⟨rfl, hP, hO⟩
      have HZ1 := Lib.hid (HZ.out.go hP hO)
      clear hP hO
      go_wp2_with (fail)
      go_ret
      unfold PPost
      rw [HE2.out]
      exact ⟨HZ1.out.only, ⟨_, rfl, HZ1.out.sv⟩, HZ1.out.st⟩
    | false =>
      have HC := Lib.hid (yskip_no B g A n c T b kRB wr HZ.out.st (by omega) (by decide) hB)
      cases hB2 : isB T b kIf with
      | false =>
        have HE2 := Lib.hid (show psteps T f a = ((pcrit T b).bind fun x n => (pwant T [kSemi] n).bind fun _ n => (psteps T (gk - 1) n).map (SF.one 1 x .zero .nil .nil)).map (F.app ·) by
          rw [HE.out, psteps_step hgk, if_neg (by rw [hB]; decide), if_neg (by rw [hB2]; decide)])
        have HC2 := Lib.hid (fun w' hs => yskip_no B g A n c T b kIf w' hs (by omega) (by decide) hB2)
        clear hB hB2 HE hgk
        go_wp2_with (fail)
        refine HC.out.mono ?_
        rintro e w1 ⟨rfl, hb1⟩
        have HZ1 := Lib.hid (HZ.out.below hb1)
        clear hb1
        go_wp2_with (fail)
        refine (HC2.out w1 HZ1.out.st).mono ?_
        rintro e w2 ⟨rfl, hb2⟩
        have HZ2 := Lib.hid (HZ1.out.below hb2)
        clear hb2
        go_wp2_with (fail)
        refine (ycrit_any B g A n c T b w2 HZ2.out.st HT.out hb).mono ?_
        rintro e w3 ⟨hO3, hp⟩
        have hin := pcrit_in T b
        cases hv : pcrit T b with
        | bad m =>
          rw [hv] at hp
          obtain ⟨rfl, hP⟩ := hp
          have HE3 := Lib.hid (show psteps T f a = .bad m by rw [HE2.out, hv]; rfl)
          clear hv hin
          go_wp2
          refine ⟨rfl, ?_⟩
          unfold PPost
          rw [HE3.out]
          exact ⟨HZ2.out.only.trans hO3, rfl, hP⟩
        | ok x m =>
          rw [hv] at hp hin
          obtain ⟨⟨_, rfl, rfl⟩, hP⟩ := hp
          have HZ3 := Lib.hid (HZ2.out.go hP hO3)
          have hm : m ≤ 65537 := Nat.le_trans hin.2 hTl
          have hbm : b < m := hin.1
          have HE3 := Lib.hid (show psteps T f a = ((pwant T [kSemi] m).bind fun _ n => (psteps T (gk - 1) n).map (SF.one 1 x .zero .nil .nil)).map (F.app ·) by rw [HE2.out, hv]; rfl)
          clear hv hO3 hP hin HE2
          go_wp2_with (at_builtin; refine Hid.out ?_)
          refine Lib.hid ?_
          have hbb : Below w3.heap.size w3 (w3.alloc (.cells #[.int .i64 1, .int .i64 x, .int .i64 0, .int .i64 0, .int .i64 0, .slice none 0 0, .slice none 0 0, .slice none 0 0] 56)) := (Below.refl _ _).alloc (Nat.le_refl _) _
          obtain ⟨xs, hrow, hrep⟩ := HZ3.out.row
          refine wpList_push_apart elemStep rfl (.tmp 10) (.tmp 14) rfl w.heap.size A' F.len c' xs rfl (own_below_all hrow hbb) w3.heap.size rfl [.int .i64 1, .int .i64 x, .int .i64 0, .int .i64 0, .int .i64 0, .slice none 0 0, .slice none 0 0, .slice none 0 0] rfl (new_cells _ _ _) (by intro u hu; simp at hu; rcases hu with rfl | rfl | rfl | rfl | rfl | rfl | rfl | rfl <;> rfl) (by omega) (by omega) (by have := HZ3.out.only.size; simp only [World.size_alloc]; omega) ?_
          intro AX cX wX hownX hbX hgX hapX
          have HX := Lib.hid (YSSt.push (HZ3.out.below hbb) (xs := xs) (news := [.int .i64 1, .int .i64 x, .int .i64 0, .int .i64 0, .int .i64 0, .slice none 0 0, .slice none 0 0, .slice none 0 0]) rfl (hrep.only (S' := fun _ => False) (Only.of_below hbb) (fun _ h => h.elim)) (RepS.cons (k := 1) (b := x) (ck := 0) (cv := 0) (cn := 0) (cps := .nil) (th := .nil) (el := .nil) RepH.nil RepT.nil RepT.nil rfl) hgX hownX hapX)
          clear hrow hrep hbb hownX hbX hgX hapX
          go_wp2_with (fail)
          first | (refine calls_named ?_; intro W7 hW7) | (refine body_named ?_; intro W7 hW7) | (refine wpList_named ?_; intro W7 hW7) | (refine wp_named ?_; intro W7 hW7)
          have hb7 : Below wX.heap.size wX W7 := by rw [← hW7]; exact (Below.refl _ _).alloc (Nat.le_refl _) _
          have hk7 : Blk W7 wX.heap.size 9 #[.string (bs kSemi)] := by rw [← hW7]; exact Blk.new _ _ _
          have HZ7 := Lib.hid (HX.out.below hb7)
          have hsb : g < wX.heap.size := HX.out.st.lt
          clear hW7 hb7
          generalize wX.heap.size = sb at *
          refine (ywant_any B g A n c T m (some ⟨sb, 0, none⟩) 1 1 W7.heap.size [kSemi] W7 HZ7.out.st (by omega) hTl (rd_texts (ws := [kSemi]) hk7 (by decide)) (by decide) (Nat.le_refl _) (fun p hp => by injection hp with hp; rw [← hp]; show sb ≠ g; omega) (by omega)).mono ?_
          rintro e w8 ⟨hO8, hp⟩
          have hin := pwant_in T (s := kSemi) (r := []) (a := m)
          cases hv : pwant T [kSemi] m with
          | bad m4 =>
            rw [hv] at hp
            obtain ⟨rfl, hP⟩ := hp
            have HE9 := Lib.hid (show psteps T f a = .bad m4 by rw [HE3.out, hv]; rfl)
            clear hv hin
            go_wp2
            refine ⟨rfl, ?_⟩
            unfold PPost
            rw [HE9.out]
            exact ⟨HZ7.out.only.trans hO8, rfl, hP⟩
          | ok u m4 =>
            rw [hv] at hp hin
            obtain ⟨⟨_, rfl, rfl⟩, hP⟩ := hp
            have hm4 : m4 ≤ 65537 := Nat.le_trans hin.2 hTl
            have hmm4 : m < m4 := hin.1
            have HE4 := Lib.hid (show psteps T f a = (psteps T (gk - 1) m4).map ((F.app (.cons 1 x 0 0 0 .nil .nil .nil .nil)).app ·) by
              rw [HE3.out, hv]
              show ((psteps T (gk - 1) m4).map (SF.one 1 x .zero .nil .nil)).map (F.app ·) = _
              cases psteps T (gk - 1) m4 with
              | ok r q => show Res.ok (F.app (SF.one 1 x .zero .nil .nil r)) q = Res.ok ((F.app (.cons 1 x 0 0 0 .nil .nil .nil .nil)).app r) q; rw [SF.app_assoc]; rfl
              | bad q => rfl)
            have HZ8 := Lib.hid (HZ7.out.go hP hO8)
            have hlT : m4 ≤ T.length := hin.2
            clear hv hO8 hP hin
            go_wp2_with (fail)
            go_roundg (gk - 1)
            case measure => have := Hgk.out; omega
            case rel => exact ⟨m4, _, AX, cX, by have := Hgk.out; omega, by omega, by omega, hm4, by rw [SF.len_app]; show F.len + 1 ≤ m4; omega, slice_eq (by rw [SF.len_app]; rfl), HZ8.out, HE4.out⟩
      | true =>
        have hlt := isB_lt T hB2
        have HE2 := Lib.hid (show psteps T f a = ((pcond T T.length (b + 1)).bind fun c n => (pwant T [kLB] n).bind fun _ n => (psteps T (gk - 1) n).bind fun t n =>
            if isB T n kElse then (pwant T [kLB] (n + 1)).bind fun _ n => (psteps T (gk - 1) n).bind fun e n => (psteps T (gk - 1) n).map (SF.one 2 0 c t e)
            else (psteps T (gk - 1) n).map (SF.one 2 0 c t .nil)).map (F.app ·) by
          rw [HE.out, psteps_step hgk, if_neg (by rw [hB]; decide), if_pos hB2])
        have HC2 := Lib.hid (fun w' hs => yskip_yes B g A n c T b kIf w' hs (by omega) (by decide) hB2)
        clear hB hB2 HE hgk
        go_wp2_with (fail)
        refine HC.out.mono ?_
        rintro e w1 ⟨rfl, hb1⟩
        have HZ1 := Lib.hid (HZ.out.below hb1)
        clear hb1
        go_wp2_with (fail)
        refine (HC2.out w1 HZ1.out.st).mono ?_
        rintro e w2 ⟨rfl, hP2, hO2⟩
        have HZ2 := Lib.hid (HZ1.out.go hP2 hO2)
        clear hP2 hO2
        go_wp2_with (fail)
        refine (ycond_any B g A n c T (b + 1) w2 HZ2.out.st HT.out (by omega)).mono ?_
        rintro e w3 ⟨hO3, hp⟩
        have hin := pcond_in T T.length (b + 1)
        cases hv : pcond T T.length (b + 1) with
        | bad m =>
          rw [hv] at hp
          obtain ⟨rfl, hP⟩ := hp
          have HE3 := Lib.hid (show psteps T f a = .bad m by rw [HE2.out, hv]; rfl)
          clear hv hin
          go_wp2
          refine ⟨rfl, ?_⟩
          unfold PPost
          rw [HE3.out]
          exact ⟨HZ2.out.only.trans hO3, rfl, hP⟩
        | ok x m =>
          rw [hv] at hp hin
          obtain ⟨⟨_, rfl, A1, m1, cc1, rfl, hR1⟩, hP⟩ := hp
          have HZ3 := Lib.hid (HZ2.out.go hP hO3)
          have hm : m ≤ 65537 := Nat.le_trans hin.2 hTl
          have hbm : b + 1 < m := hin.1
          have HE3 := Lib.hid (show psteps T f a = ((pwant T [kLB] m).bind fun _ n => (psteps T (gk - 1) n).bind fun t n =>
            if isB T n kElse then (pwant T [kLB] (n + 1)).bind fun _ n => (psteps T (gk - 1) n).bind fun e n => (psteps T (gk - 1) n).map (SF.one 2 0 x t e)
            else (psteps T (gk - 1) n).map (SF.one 2 0 x t .nil)).map (F.app ·) by rw [HE2.out, hv]; rfl)
          have HR1 := Lib.hid (hR1.new)
          have hsz2 := hO3.size
          have Hown := Lib.hid (fun k hk => (HZ2.out.own k hk).2)
          clear hv hO3 hP hin HE2 hR1
          unfold condV
          dsimp only [vi]
          go_wp2_with (fail)
          first | (refine calls_named ?_; intro W4 hW4) | (refine body_named ?_; intro W4 hW4) | (refine wpList_named ?_; intro W4 hW4) | (refine wp_named ?_; intro W4 hW4)
          have hbx4 : Blk W4 w3.heap.size 56 #[.int .i64 2, .int .i64 0, .int .i64 x.k, .int .i64 x.v, .int .i64 x.n, .slice A1 m1 cc1, .slice none 0 0, .slice none 0 0] := by rw [← hW4]; exact (Blk.new w3 _ _).alloc _
          have hk4 : Blk W4 (w3.heap.size + 1) 9 #[.string (bs kLB)] := by rw [← hW4, ← World.size_alloc]; exact Blk.new _ _ _
          have hb4 : Below w3.heap.size w3 W4 := by rw [← hW4]; exact ((Below.refl _ _).alloc (Nat.le_refl _) _).alloc (by simp) _
          have HZ4 := Lib.hid (HZ3.out.below hb4)
          have hOz4 := Lib.hid (Only.of_below (S := fun k => k = g ∨ w3.heap.size ≤ k) hb4)
          have hg3 : g < w3.heap.size := HZ3.out.st.lt
          have hgw2 : g < w2.heap.size := HZ2.out.st.lt
          have hw2 : w.heap.size ≤ w2.heap.size := HZ2.out.only.size
          clear hW4 hb4
          generalize hzb : w3.heap.size = zb at *
          have HZB := Lib.hid hzb.symm
          clear hzb
          refine (ywant_any B g A n c T m (some ⟨zb + 1, 0, none⟩) 1 1 W4.heap.size [kLB] W4 HZ4.out.st hm hTl (rd_texts (ws := [kLB]) hk4 (by decide)) (by decide) (Nat.le_refl _) (fun p hp => by injection hp with hp; rw [← hp]; show zb + 1 ≠ g; omega) (by omega)).mono ?_
          rintro e w5 ⟨hO5, hp⟩
          have hin := pwant_in T (s := kLB) (r := []) (a := m)
          cases hv : pwant T [kLB] m with
          | bad m2 =>
            rw [hv] at hp
            obtain ⟨rfl, hP⟩ := hp
            have HE9 := Lib.hid (show psteps T f a = .bad m2 by rw [HE3.out, hv]; rfl)
            clear hv hin
            go_wp2
            refine ⟨rfl, ?_⟩
            unfold PPost
            rw [HE9.out]
            exact ⟨HZ4.out.only.trans hO5, rfl, hP⟩
          | ok u m2 =>
            rw [hv] at hp hin
            obtain ⟨⟨_, rfl, rfl⟩, hP⟩ := hp
            have hm2 : m2 ≤ 65537 := Nat.le_trans hin.2 hTl
            have hmm2 : m < m2 := hin.1
            have HE4 := Lib.hid (show psteps T f a = ((psteps T (gk - 1) m2).bind fun t n =>
                      if isB T n kElse then (pwant T [kLB] (n + 1)).bind fun _ n => (psteps T (gk - 1) n).bind fun e n => (psteps T (gk - 1) n).map (SF.one 2 0 x t e)
                      else (psteps T (gk - 1) n).map (SF.one 2 0 x t .nil)).map (F.app ·) by rw [HE3.out, hv]; rfl)
            have HZ5 := Lib.hid (HZ4.out.go hP hO5)
            have hbx5 := hbx4.only hO5 (by omega)
            have hOz5 := Lib.hid (hOz4.out.trans ⟨hO5.os, hO5.tape, hO5.output, hO5.size, fun k hk hn => hO5.block k hk (fun e => hn (.inl e))⟩)
            clear hv hO5 hP hin HE3 hk4 hbx4
            go_wp2_with (fail)
            refine (HI.out (gk - 1) (by have := Hgk.out; omega) B g A n c T m2 w5 HZ5.out.st HT.out hm2 (by have := Hgk.out; omega)).mono ?_
            rintro e w6 ⟨hO6, hp⟩
            have hin := psteps_in T (gk - 1) m2
            cases hv : psteps T (gk - 1) m2 with
            | bad m3 =>
              rw [hv] at hp
              obtain ⟨rfl, hP⟩ := hp
              have HE9 := Lib.hid (show psteps T f a = .bad m3 by rw [HE4.out, hv]; rfl)
              clear hv hin
              go_wp2
              refine ⟨rfl, ?_⟩
              unfold PPost
              rw [HE9.out]
              exact ⟨HZ5.out.only.trans hO6, rfl, hP⟩
            | ok t m3 =>
              rw [hv] at hp hin
              obtain ⟨⟨_, rfl, A2, n2, cc2, rfl, hR2⟩, hP⟩ := hp
              have hm3 : m3 ≤ 65537 := Nat.le_trans hin.2 hTl
              have hm3T : m3 ≤ T.length := hin.2
              have hmm3 : m2 < m3 := hin.1
              have HE5 := Lib.hid (show psteps T f a = (if isB T m3 kElse then (pwant T [kLB] (m3 + 1)).bind fun _ n => (psteps T (gk - 1) n).bind fun e n => (psteps T (gk - 1) n).map (SF.one 2 0 x t e)
                      else (psteps T (gk - 1) m3).map (SF.one 2 0 x t .nil)).map (F.app ·) by rw [HE4.out, hv]; rfl)
              have HZ6 := Lib.hid (HZ5.out.go hP hO6)
              have hbx6 := hbx5.only hO6 (by omega)
              have hz5 : zb < w5.heap.size := hbx5.lt
              have hg5 : g < w5.heap.size := HZ5.out.st.lt
              have hw5 : w.heap.size ≤ w5.heap.size := HZ5.out.only.size
              have hOz6 := Lib.hid (hOz5.out.trans ⟨hO6.os, hO6.tape, hO6.output, hO6.size, fun k hk hn => hO6.block k hk (fun e => hn (.inl e))⟩)
              have HR2 := Lib.hid hR2
              have c6 : w6.cell? ⟨zb, 6, none⟩ = some (.slice none 0 0) := by rw [hbx6.cell]; rfl
              have f6 := hbx6.frozen 6
              have hl6 := hbx6.lt
              have Hown5 := Lib.hid (fun k hk => (HZ5.out.own k hk).2)
              clear hv hO6 hP hin HE4 hbx5 hR2
              go_wp2_with (fail)
              first | (refine calls_named ?_; intro W7 hW7) | (refine body_named ?_; intro W7 hW7) | (refine wpList_named ?_; intro W7 hW7) | (refine wp_named ?_; intro W7 hW7)
              have hbx7 : Blk W7 zb 56 #[.int .i64 2, .int .i64 0, .int .i64 x.k, .int .i64 x.v, .int .i64 x.n, .slice A1 m1 cc1, .slice A2 n2 cc2, .slice none 0 0] := by rw [← hW7]; exact hbx6.set 6 _
              have ho7 : Only (· = zb) w6 W7 := by rw [← hW7]; exact Only.set (S := (· = zb)) w6 (p := ⟨zb, 6, none⟩) rfl _
              have HZ7 := Lib.hid (YSSt.box HZ6.out ⟨w3, HZ3.out, HZB.out, hOz6.out⟩ ho7)
              have hOz7 := Lib.hid (hOz6.out.trans ⟨ho7.os, ho7.tape, ho7.output, ho7.size, fun k hk hn => ho7.block k hk (fun e => hn (.inr (by omega)))⟩)
              have HR7 := Lib.hid (HR2.out.only ho7 (fun k hk => by omega))
              clear hW7 ho7 hbx6 c6 f6 hl6
              cases hB : isB T m3 kElse with
              | false =>
                have HE6 := Lib.hid (show psteps T f a = ((psteps T (gk - 1) m3).map (SF.one 2 0 x t .nil)).map (F.app ·) by rw [HE5.out, if_neg (by rw [hB]; decide)])
                have HC := Lib.hid (yskip_no B g A n c T m3 kElse W7 HZ7.out.st (by omega) (by decide) hB)
                clear hB HE5
                refine HC.out.mono ?_
                rintro e w8 ⟨rfl, hb8⟩
                have HZ8 := Lib.hid (HZ7.out.below hb8)
                have hbxE := hbx7.below hb8 hbx7.lt
                have hOz8 := Lib.hid (hOz7.out.trans (Only.of_below hb8))
                have HRT := Lib.hid ((HR7.out.only (S' := fun _ => False) (Only.of_below hb8) (fun _ h => h.elim)).sub (S' := fun k => k < w.heap.size ∨ (Value.slice A' F.len c').ownBlock = some k) (fun k hk => by rcases hk with e | e; exact (by omega : k < w5.heap.size); exact Hown5.out k e))
                clear hb8 hbx7
                have z0 : w8.cell? ⟨zb, 0, none⟩ = some (.int .i64 2) := by rw [hbxE.cell]; rfl
                have z1 : w8.cell? ⟨zb, 1, none⟩ = some (.int .i64 0) := by rw [hbxE.cell]; rfl
                have z2 : w8.cell? ⟨zb, 2, none⟩ = some (.int .i64 x.k) := by rw [hbxE.cell]; rfl
                have z3 : w8.cell? ⟨zb, 3, none⟩ = some (.int .i64 x.v) := by rw [hbxE.cell]; rfl
                have z4 : w8.cell? ⟨zb, 4, none⟩ = some (.int .i64 x.n) := by rw [hbxE.cell]; rfl
                have z5 : w8.cell? ⟨zb, 5, none⟩ = some (.slice A1 m1 cc1) := by rw [hbxE.cell]; rfl
                have z6 : w8.cell? ⟨zb, 6, none⟩ = some (.slice A2 n2 cc2) := by rw [hbxE.cell]; rfl
                have z7 : w8.cell? ⟨zb, 7, none⟩ = some (.slice none 0 0) := by rw [hbxE.cell]; rfl
                have HRC := Lib.hid ((HR1.out.only hOz8.out (fun k hk => by rcases hk with e | e; exact .inl (by omega); exact .inr (by omega))).sub (S' := fun k => k < w.heap.size ∨ (Value.slice A' F.len c').ownBlock = some k) (fun k hk => by rcases hk with e | e; exact .inl (by omega); exact .inl (Hown.out k e)))
                clear hbxE
                go_wp2_with (at_builtin; refine Hid.out ?_)
                refine Lib.hid ?_
                have hbb : Below w8.heap.size w8 (w8.alloc (.cells #[.int .i64 2, .int .i64 0, .int .i64 x.k, .int .i64 x.v, .int .i64 x.n, .slice A1 m1 cc1, .slice A2 n2 cc2, .slice none 0 0] 56)) := (Below.refl _ _).alloc (Nat.le_refl _) _
                obtain ⟨xs, hrow, hrep⟩ := HZ8.out.row
                refine wpList_push_apart elemStep rfl (.tmp 36) (.tmp 38) rfl w.heap.size A' F.len c' xs rfl (own_below_all hrow hbb) w8.heap.size rfl [.int .i64 2, .int .i64 0, .int .i64 x.k, .int .i64 x.v, .int .i64 x.n, .slice A1 m1 cc1, .slice A2 n2 cc2, .slice none 0 0] rfl (new_cells _ _ _) (by intro u hu; simp at hu; rcases hu with rfl | rfl | rfl | rfl | rfl | rfl | rfl | rfl <;> rfl) (by omega) (by omega) (by have := HZ8.out.only.size; simp only [World.size_alloc]; omega) ?_
                intro AX cX wX hownX hbX hgX hapX
                have HX := Lib.hid (YSSt.push (HZ8.out.below hbb) (xs := xs) (news := [.int .i64 2, .int .i64 0, .int .i64 x.k, .int .i64 x.v, .int .i64 x.n, .slice A1 m1 cc1, .slice A2 n2 cc2, .slice none 0 0]) rfl (hrep.only (S' := fun _ => False) (Only.of_below hbb) (fun _ h => h.elim)) (RepS.cons (k := 2) (b := 0) (ck := x.k) (cv := x.v) (cn := x.n) (cps := x.ps) (th := t) (el := .nil) (HRC.out.only (S' := fun _ => False) (Only.of_below hbb) (fun _ h => h.elim)) (HRT.out.only (S' := fun _ => False) (Only.of_below hbb) (fun _ h => h.elim)) (RepT.nil) rfl) hgX hownX hapX)
                clear hrow hrep hbb hownX hbX hgX hapX
                clear z0 z1 z2 z3 z4 z5 z6 z7
                have HE8 := Lib.hid (show psteps T f a = (psteps T (gk - 1) m3).map ((F.app (.cons 2 0 x.k x.v x.n x.ps t .nil .nil)).app ·) by
                  rw [HE6.out]
                  show ((psteps T (gk - 1) m3).map (SF.one 2 0 x t .nil)).map (F.app ·) = _
                  cases psteps T (gk - 1) m3 with
                  | ok r q => show Res.ok (F.app (SF.one 2 0 x t .nil r)) q = Res.ok ((F.app (.cons 2 0 x.k x.v x.n x.ps t .nil .nil)).app r) q; rw [SF.app_assoc]; rfl
                  | bad q => rfl)
                go_wp2_with (fail)
                go_roundg (gk - 1)
                case measure => have := Hgk.out; omega
                case rel => exact ⟨m3, _, AX, cX, by have := Hgk.out; omega, by omega, by omega, by omega, by rw [SF.len_app]; show F.len + 1 ≤ m3; omega, slice_eq (by rw [SF.len_app]; rfl), HX.out, HE8.out⟩
              | true =>
                have hlt3 := isB_lt T hB
                have HE6 := Lib.hid (show psteps T f a = ((pwant T [kLB] (m3 + 1)).bind fun _ n => (psteps T (gk - 1) n).bind fun e n => (psteps T (gk - 1) n).map (SF.one 2 0 x t e)).map (F.app ·) by rw [HE5.out, if_pos hB])
                have HC := Lib.hid (yskip_yes B g A n c T m3 kElse W7 HZ7.out.st (by omega) (by decide) hB)
                clear hB HE5
                refine HC.out.mono ?_
                rintro e w8 ⟨rfl, hP, hO8⟩
                have HZ8 := Lib.hid (HZ7.out.go hP hO8)
                have hbx8 := hbx7.only hO8 (by omega)
                have hOz8 := Lib.hid (hOz7.out.trans ⟨hO8.os, hO8.tape, hO8.output, hO8.size, fun k hk hn => hO8.block k hk (fun e => hn (.inl e))⟩)
                have HR8 := Lib.hid (HR7.out.only hO8 (fun k hk => by omega))
                clear hO8 hP hbx7
                go_wp2_with (fail)
                first | (refine calls_named ?_; intro W9 hW9) | (refine body_named ?_; intro W9 hW9) | (refine wpList_named ?_; intro W9 hW9) | (refine wp_named ?_; intro W9 hW9)
                have hb9 : Below w8.heap.size w8 W9 := by rw [← hW9]; exact (Below.refl _ _).alloc (Nat.le_refl _) _
                have hk9 : Blk W9 w8.heap.size 9 #[.string (bs kLB)] := by rw [← hW9]; exact Blk.new _ _ _
                have HZ9 := Lib.hid (HZ8.out.below hb9)
                have hbx9 := hbx8.below hb9 hbx8.lt
                have hOz9 := Lib.hid (hOz8.out.trans (Only.of_below hb9))
                have HR9 := Lib.hid (HR8.out.only (S' := fun _ => False) (Only.of_below hb9) (fun _ h => h.elim))
                have hg8 : g < w8.heap.size := HZ8.out.st.lt
                clear hW9 hb9 hbx8
                generalize w8.heap.size = sb at *
                refine (ywant_any B g A n c T (m3 + 1) (some ⟨sb, 0, none⟩) 1 1 W9.heap.size [kLB] W9 HZ9.out.st (by omega) hTl (rd_texts (ws := [kLB]) hk9 (by decide)) (by decide) (Nat.le_refl _) (fun p hp => by injection hp with hp; rw [← hp]; show sb ≠ g; omega) (by omega)).mono ?_
                rintro e w10 ⟨hO10, hp⟩
                have hin := pwant_in T (s := kLB) (r := []) (a := m3 + 1)
                cases hv : pwant T [kLB] (m3 + 1) with
                | bad m4 =>
                  rw [hv] at hp
                  obtain ⟨rfl, hP⟩ := hp
                  have HE9 := Lib.hid (show psteps T f a = .bad m4 by rw [HE6.out, hv]; rfl)
                  clear hv hin
                  go_wp2
                  refine ⟨rfl, ?_⟩
                  unfold PPost
                  rw [HE9.out]
                  exact ⟨HZ9.out.only.trans hO10, rfl, hP⟩
                | ok u m4 =>
                  rw [hv] at hp hin
                  obtain ⟨⟨_, rfl, rfl⟩, hP⟩ := hp
                  have hm4 : m4 ≤ 65537 := Nat.le_trans hin.2 hTl
                  have hmm4 : m3 + 1 < m4 := hin.1
                  have HE7 := Lib.hid (show psteps T f a = ((psteps T (gk - 1) m4).bind fun e n => (psteps T (gk - 1) n).map (SF.one 2 0 x t e)).map (F.app ·) by rw [HE6.out, hv]; rfl)
                  have HZ10 := Lib.hid (HZ9.out.go hP hO10)
                  have hbx10 := hbx9.only hO10 (by omega)
                  have hOz10 := Lib.hid (hOz9.out.trans ⟨hO10.os, hO10.tape, hO10.output, hO10.size, fun k hk hn => hO10.block k hk (fun e => hn (.inl e))⟩)
                  have HR10 := Lib.hid (HR9.out.only hO10 (fun k hk => by omega))
                  clear hv hO10 hP hin HE6 hk9 hbx9
                  go_wp2_with (fail)
                  refine (HI.out (gk - 1) (by have := Hgk.out; omega) B g A n c T m4 w10 HZ10.out.st HT.out hm4 (by have := Hgk.out; omega)).mono ?_
                  rintro e w11 ⟨hO11, hp⟩
                  have hin := psteps_in T (gk - 1) m4
                  cases hv : psteps T (gk - 1) m4 with
                  | bad m5 =>
                    rw [hv] at hp
                    obtain ⟨rfl, hP⟩ := hp
                    have HE9 := Lib.hid (show psteps T f a = .bad m5 by rw [HE7.out, hv]; rfl)
                    clear hv hin
                    go_wp2
                    refine ⟨rfl, ?_⟩
                    unfold PPost
                    rw [HE9.out]
                    exact ⟨HZ10.out.only.trans hO11, rfl, hP⟩
                  | ok el m5 =>
                    rw [hv] at hp hin
                    obtain ⟨⟨_, rfl, A3, n3, cc3, rfl, hR3⟩, hP⟩ := hp
                    have hm5 : m5 ≤ 65537 := Nat.le_trans hin.2 hTl
                    have hm5T : m5 ≤ T.length := hin.2
                    have hmm5 : m4 < m5 := hin.1
                    have HE9 := Lib.hid (show psteps T f a = ((psteps T (gk - 1) m5).map (SF.one 2 0 x t el)).map (F.app ·) by rw [HE7.out, hv]; rfl)
                    have HZ11 := Lib.hid (HZ10.out.go hP hO11)
                    have hbx11 := hbx10.only hO11 (by omega)
                    have hz10 : zb < w10.heap.size := hbx10.lt
                    have hg10 : g < w10.heap.size := HZ10.out.st.lt
                    have hw10 : w.heap.size ≤ w10.heap.size := HZ10.out.only.size
                    have Hown10 := Lib.hid (fun k hk => (HZ10.out.own k hk).2)
                    have hOz11 := Lib.hid (hOz10.out.trans ⟨hO11.os, hO11.tape, hO11.output, hO11.size, fun k hk hn => hO11.block k hk (fun e => hn (.inl e))⟩)
                    have HR11 := Lib.hid (HR10.out.only hO11 (fun k hk => by omega))
                    have HR3 := Lib.hid hR3
                    have c7 : w11.cell? ⟨zb, 7, none⟩ = some (.slice none 0 0) := by rw [hbx11.cell]; rfl
                    have f7 := hbx11.frozen 7
                    have hl11 := hbx11.lt
                    clear hv hO11 hP hin HE7 hbx10 hR3
                    have ho12 : Only (· = zb) w11 (w11.setCell ⟨zb, 7, none⟩ (.slice A3 n3 cc3)) := Only.set (S := (· = zb)) w11 (p := ⟨zb, 7, none⟩) rfl _
                    have hbxE := hbx11.set 7 (.slice A3 n3 cc3)
                    have HZ12 := Lib.hid (YSSt.box HZ11.out ⟨w3, HZ3.out, HZB.out, hOz11.out⟩ ho12)
                    have hOz12 := Lib.hid (hOz11.out.trans ⟨ho12.os, ho12.tape, ho12.output, ho12.size, fun k hk hn => ho12.block k hk (fun e => hn (.inr (by omega)))⟩)
                    have HRT := Lib.hid ((HR11.out.only ho12 (fun k hk => by omega)).sub (S' := fun k => k < w.heap.size ∨ (Value.slice A' F.len c').ownBlock = some k) (fun k hk => by rcases hk with e | e; exact (by omega : k < w5.heap.size); exact Hown5.out k e))
                    have HRE := Lib.hid ((HR3.out.only ho12 (fun k hk => by omega)).sub (S' := fun k => k < w.heap.size ∨ (Value.slice A' F.len c').ownBlock = some k) (fun k hk => by rcases hk with e | e; exact (by omega : k < w10.heap.size); exact Hown10.out k e))
                    clear ho12
                    have z0 : w11.cell? ⟨zb, 0, none⟩ = some (.int .i64 2) := by rw [hbx11.cell]; rfl
                    have z1 : w11.cell? ⟨zb, 1, none⟩ = some (.int .i64 0) := by rw [hbx11.cell]; rfl
                    have z2 : w11.cell? ⟨zb, 2, none⟩ = some (.int .i64 x.k) := by rw [hbx11.cell]; rfl
                    have z3 : w11.cell? ⟨zb, 3, none⟩ = some (.int .i64 x.v) := by rw [hbx11.cell]; rfl
                    have z4 : w11.cell? ⟨zb, 4, none⟩ = some (.int .i64 x.n) := by rw [hbx11.cell]; rfl
                    have z5 : w11.cell? ⟨zb, 5, none⟩ = some (.slice A1 m1 cc1) := by rw [hbx11.cell]; rfl
                    have z6 : w11.cell? ⟨zb, 6, none⟩ = some (.slice A2 n2 cc2) := by rw [hbx11.cell]; rfl
                    clear hbx11
                    go_wp2_with (at_builtin; refine Hid.out ?_)
                    refine Lib.hid ?_
                    clear z0 z1 z2 z3 z4 z5 z6 c7 f7 hl11
                    have hsz12 : (w11.setCell ⟨zb, 7, none⟩ (.slice A3 n3 cc3)).heap.size = w11.heap.size := World.size_setCell _ _ _
                    generalize w11.setCell ⟨zb, 7, none⟩ (.slice A3 n3 cc3) = w12 at *
                    have HRC := Lib.hid ((HR1.out.only hOz12.out (fun k hk => by rcases hk with e | e; exact .inl (by omega); exact .inr (by omega))).sub (S' := fun k => k < w.heap.size ∨ (Value.slice A' F.len c').ownBlock = some k) (fun k hk => by rcases hk with e | e; exact .inl (by omega); exact .inl (Hown.out k e)))
                    clear hbxE
                    have hbb : Below w12.heap.size w12 (w12.alloc (.cells #[.int .i64 2, .int .i64 0, .int .i64 x.k, .int .i64 x.v, .int .i64 x.n, .slice A1 m1 cc1, .slice A2 n2 cc2, .slice A3 n3 cc3] 56)) := (Below.refl _ _).alloc (Nat.le_refl _) _
                    obtain ⟨xs, hrow, hrep⟩ := HZ12.out.row
                    refine wpList_push_apart elemStep rfl (.tmp 36) (.tmp 38) rfl w.heap.size A' F.len c' xs rfl (own_below_all hrow hbb) w11.heap.size rfl [.int .i64 2, .int .i64 0, .int .i64 x.k, .int .i64 x.v, .int .i64 x.n, .slice A1 m1 cc1, .slice A2 n2 cc2, .slice A3 n3 cc3] rfl (new_cellsY _ _ _ hsz12.symm) (by intro u hu; simp at hu; rcases hu with rfl | rfl | rfl | rfl | rfl | rfl | rfl | rfl <;> rfl) (by omega) (by omega) (by have := HZ12.out.only.size; simp only [World.size_alloc]; omega) ?_
                    intro AX cX wX hownX hbX hgX hapX
                    have HX := Lib.hid (YSSt.push (HZ12.out.below hbb) (xs := xs) (news := [.int .i64 2, .int .i64 0, .int .i64 x.k, .int .i64 x.v, .int .i64 x.n, .slice A1 m1 cc1, .slice A2 n2 cc2, .slice A3 n3 cc3]) rfl (hrep.only (S' := fun _ => False) (Only.of_below hbb) (fun _ h => h.elim)) (RepS.cons (k := 2) (b := 0) (ck := x.k) (cv := x.v) (cn := x.n) (cps := x.ps) (th := t) (el := el) (HRC.out.only (S' := fun _ => False) (Only.of_below hbb) (fun _ h => h.elim)) (HRT.out.only (S' := fun _ => False) (Only.of_below hbb) (fun _ h => h.elim)) (HRE.out.only (S' := fun _ => False) (Only.of_below hbb) (fun _ h => h.elim)) rfl) hgX hownX hapX)
                    clear hrow hrep hbb hownX hbX hgX hapX
                    have HE8 := Lib.hid (show psteps T f a = (psteps T (gk - 1) m5).map ((F.app (.cons 2 0 x.k x.v x.n x.ps t el .nil)).app ·) by
                      rw [HE9.out]
                      show ((psteps T (gk - 1) m5).map (SF.one 2 0 x t el)).map (F.app ·) = _
                      cases psteps T (gk - 1) m5 with
                      | ok r q => show Res.ok (F.app (SF.one 2 0 x t el r)) q = Res.ok ((F.app (.cons 2 0 x.k x.v x.n x.ps t el .nil)).app r) q; rw [SF.app_assoc]; rfl
                      | bad q => rfl)
                    go_wp2_with (fail)
                    go_roundg (gk - 1)
                    case measure => have := Hgk.out; omega
                    case rel => exact ⟨m5, _, AX, cX, by have := Hgk.out; omega, by omega, by omega, by omega, by rw [SF.len_app]; show F.len + 1 ≤ m5; omega, slice_eq (by rw [SF.len_app]; rfl), HX.out, HE8.out⟩
theorem sc_all (f : Nat) : SC f := by
  induction f using Nat.strongRecOn with
  | _ f ih => exact ysteps_of f ih
/-- The parser's steps. -/
theorem ysteps_any (B g : Nat) (A : Option Addr) (n c : Nat) (T : List Tok) (a : Nat) (w : World) (h : PSt w B g A n c T a) (hT : TOk T) (ha : a ≤ 65537) :
    Calls Tryz.prog 140 #[.pointer (some ⟨g, 0, none⟩)] w (PPost w B g A n c T (psteps T T.length a) (SV w)) := sc_all _ B g A n c T a w h hT ha (by omega)
end Go.Proofs.YticpjdjdimpglaaGreatDoor
