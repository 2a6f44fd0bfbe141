/- typing.isZero, (*count).within by their contracts. -/
import Derived.Test.YticpjdjdimpglaaGreatDoorCTisMTRow
namespace Go.Proofs.YticpjdjdimpglaaGreatDoor
set_option linter.unusedVariables false
set_option linter.unusedSimpArgs false
open Go.RowKit
set_option maxHeartbeats 4000000 in
set_option maxRecDepth 100000 in
theorem iszero_any (c : CT) (A : Option Addr) (m d : Nat) (w : World) (hm : m = c.ps.len) : Calls Tryz.prog 162 #[cV c A m d] w fun e w' => e = .returned (.bool c.isZ) ∧ Below w.heap.size w w' := by
  have HZ := Lib.hid (show c.isZ = (c.k == 0 && (c.v == 0 && (c.n == 0 && ((m : Int) == 0)))) by
    unfold CT.isZ
    rw [num_len, ← hm, Bool.eq_iff_iff]
    simp [and_assoc])
  clear hm
  unfold cV
  obtain ⟨k, v, n, ps⟩ := c
  dsimp only [vi] at HZ ⊢
  generalize (⟨k, v, n, ps⟩ : CT).isZ = r at HZ ⊢
  have fin : ∀ (W : World) (r' : Bool), r = r' → Below w.heap.size w W → (Ending.returned (.bool r') = Ending.returned (.bool r) ∧ Below w.heap.size w W) := fun W r' h hb => ⟨by rw [h], hb⟩
  by_cases hk : k = 0
  · subst hk
    have e1 : ((0 : Int) == 0) = true := rfl
    by_cases hv : v = 0
    · subst hv
      by_cases hn : n = 0
      · subst hn
        by_cases hm : m = 0
        · subst hm
          go_enter Tryz.func162, Tryz.ntmps162
          go_wp2
          go_ret
          exact ⟨congrArg (fun b => Ending.returned (Value.bool b)) HZ.out.symm, (Below.refl _ _).alloc (Nat.le_refl _) _⟩
        · have hm2 : ((m : Int) == 0) = false := by simpa using hm
          go_enter Tryz.func162, Tryz.ntmps162
          go_wp2
          go_ret
          exact ⟨congrArg (fun b => Ending.returned (Value.bool b)) (HZ.out.trans (by rw [hm2]; rfl)).symm, (Below.refl _ _).alloc (Nat.le_refl _) _⟩
      · have hn2 : (n == 0) = false := by simpa using hn
        go_enter Tryz.func162, Tryz.ntmps162
        go_wp2
        go_ret
        exact ⟨congrArg (fun b => Ending.returned (Value.bool b)) (HZ.out.trans (by rw [hn2]; rfl)).symm, (Below.refl _ _).alloc (Nat.le_refl _) _⟩
    · have hv2 : (v == 0) = false := by simpa using hv
      go_enter Tryz.func162, Tryz.ntmps162
      go_wp2
      go_ret
      exact ⟨congrArg (fun b => Ending.returned (Value.bool b)) (HZ.out.trans (by rw [hv2]; rfl)).symm, (Below.refl _ _).alloc (Nat.le_refl _) _⟩
  · have hk2 : (k == 0) = false := by simpa using hk
    go_enter Tryz.func162, Tryz.ntmps162
    go_wp2
    go_ret
    exact ⟨congrArg (fun b => Ending.returned (Value.bool b)) (HZ.out.trans (by rw [hk2]; rfl)).symm, (Below.refl _ _).alloc (Nat.le_refl _) _⟩
theorem fo_take {fs : List Fo} {i : Nat} {f : Fo} (h : fs[i]? = some f) : foS (fs.take (i + 1)) = foS (fs.take i) + f.S ∧ foC (fs.take (i + 1)) = foC (fs.take i) + f.C ∧ foD (fs.take (i + 1)) = max (foD (fs.take i)) f.D ∧ foK (fs.take (i + 1)) = max (foK (fs.take i)) f.K := by
  obtain ⟨hi, e⟩ := List.getElem?_eq_some_iff.1 h
  rw [List.take_succ_eq_append_getElem hi, e]
  obtain ⟨h1, h2, h3, h4, _⟩ := fo_app (fs.take i) [f]
  rw [h1, h2, h3, h4]
  simp [foS, foC, foD, foK]
theorem fo_part (fs : List Fo) (i : Nat) : foS (fs.take i) ≤ foS fs ∧ foC (fs.take i) ≤ foC fs ∧ foD (fs.take i) ≤ foD fs ∧ foK (fs.take i) ≤ foK fs := by
  obtain ⟨h1, h2, h3, h4, _⟩ := fo_app (fs.take i) (fs.drop i)
  rw [List.take_append_drop] at h1 h2 h3 h4
  omega
theorem fo_mem {fs : List Fo} {i : Nat} {f : Fo} (h : fs[i]? = some f) : f.Z ≤ foZ fs := by
  obtain ⟨hi, e⟩ := List.getElem?_eq_some_iff.1 h
  obtain ⟨_, _, _, _, h5⟩ := fo_app (fs.take i) (fs.drop i)
  rw [List.take_append_drop] at h5
  rw [h5, List.drop_eq_getElem_cons hi, foZ, e]
  omega
theorem foD_pos {fs : List Fo} (h : fs ≠ []) : 1 ≤ foD fs := by
  cases fs with
  | nil => exact absurd rfl h
  | cons f r =>
    have := (fo_parts f).1
    rw [foD]
    omega
/-- The forms are few enough, and not too deep, behind a steps and b conditions, at the depth d. -/
def WOk (fs : List Fo) (d a b : Nat) : Prop := fs = [] ∨ (a + foS fs ≤ 64 ∧ b + foC fs ≤ 256 ∧ d + foD fs ≤ 17 ∧ foK fs ≤ 17)
def WPost (fs : List Fo) (d a b g : Nat) (w : World) (e : Ending) (w' : World) : Prop := ∃ r : Bool, e = .returned (.bool r) ∧ (r = true ↔ WOk fs d a b) ∧ Only (· = g) w w' ∧ (r = true → Blk w' g 147 #[vi ((a + foS fs : Nat) : Int), vi ((b + foC fs : Nat) : Int)])
theorem wok_ne {fs : List Fo} {d a b : Nat} (h : WOk fs d a b) (hne : fs ≠ []) : a + foS fs ≤ 64 ∧ b + foC fs ≤ 256 ∧ d + foD fs ≤ 17 ∧ foK fs ≤ 17 := by
  rcases h with h | h
  · exact absurd h hne
  · exact h
theorem ne_at {fs : List Fo} {i : Nat} {f : Fo} (h : fs[i]? = some f) : fs ≠ [] := by rintro rfl; simp at h
/-- What within knows behind i forms. -/
structure WAt (fs : List Fo) (d a b i a' b' : Nat) : Prop where
  s : a' = a + foS (fs.take i)
  c : b' = b + foC (fs.take i)
  d : d + foD (fs.take i) ≤ 17
  k : foK (fs.take i) ≤ 17
  z : i = 0 ∨ (a' ≤ 64 ∧ b' ≤ 256)
theorem win_cd {fs : List Fo} {i : Nat} {x : CT} {d a b a' b' : Nat} (h : fs[i]? = some (.cd x)) (hE : WAt fs d a b i a' b') (hd : d ≤ 16) :
    (WOk fs d a b → a' ≤ 64 ∧ b' + 1 ≤ 256 ∧ WOk (Fo.cd x).parts (d + 1) a' (b' + 1)) ∧
    (WOk (Fo.cd x).parts (d + 1) a' (b' + 1) → a' ≤ 64 → b' + 1 ≤ 256 → WAt fs d a b (i + 1) (a' + foS (Fo.cd x).parts) (b' + 1 + foC (Fo.cd x).parts) ∧ a' + foS (Fo.cd x).parts ≤ 64 ∧ b' + 1 + foC (Fo.cd x).parts ≤ 256) := by
  obtain ⟨h1, h2, h3, h4⟩ := fo_take h
  obtain ⟨g1, g2, g3, g4⟩ := fo_part fs (i + 1)
  obtain ⟨p1, p2, _⟩ := fo_parts (.cd x)
  obtain ⟨p2, p3, p4, _⟩ := p2 x rfl
  have e1 := hE.s
  have e2 := hE.c
  have e3 := hE.d
  have e4 := hE.k
  constructor
  · intro hw
    have hw := wok_ne hw (ne_at h)
    exact ⟨by omega, by omega, .inr (by omega)⟩
  · intro hw ha hb
    rcases hw with hw | hw
    · rw [hw] at p1 p2 p3 p4 ⊢
      simp only [foS, foC, foD, foK] at p1 p2 p3 p4 ⊢
      exact ⟨⟨by omega, by omega, by omega, by omega, .inr (by omega)⟩, by omega, by omega⟩
    · exact ⟨⟨by omega, by omega, by omega, by omega, .inr (by omega)⟩, by omega, by omega⟩
theorem win_st {fs : List Fo} {i : Nat} {x : ST} {d a b a' b' b2 : Nat} (h : fs[i]? = some (.st x)) (hE : WAt fs d a b i a' b') (hd : d ≤ 16) (hb2 : b2 = b' + if x.c.isZ then 0 else x.c.ps.cnt + 1) :
    (WOk fs d a b → a' + 1 ≤ 64 ∧ b2 ≤ 256 ∧ (x.c.isZ = false → WOk [.cd x.c] 0 (a' + 1) b') ∧ WOk (Fo.st x).parts (d + 1) (a' + 1) b2) ∧
    (WOk (Fo.st x).parts (d + 1) (a' + 1) b2 → a' + 1 ≤ 64 → b2 ≤ 256 → (x.c.isZ = false → WOk [.cd x.c] 0 (a' + 1) b') → WAt fs d a b (i + 1) (a' + 1 + foS (Fo.st x).parts) (b2 + foC (Fo.st x).parts) ∧ a' + 1 + foS (Fo.st x).parts ≤ 64 ∧ b2 + foC (Fo.st x).parts ≤ 256) := by
  obtain ⟨h1, h2, h3, h4⟩ := fo_take h
  obtain ⟨g1, g2, g3, g4⟩ := fo_part fs (i + 1)
  obtain ⟨p1, _, p2⟩ := fo_parts (.st x)
  obtain ⟨p2, p3, p4, _⟩ := p2 x rfl
  have e1 := hE.s
  have e2 := hE.c
  have e3 := hE.d
  have e4 := hE.k
  have hone : foS [.cd x.c] = 0 ∧ foC [.cd x.c] = x.c.ps.cnt + 1 ∧ foD [.cd x.c] = x.c.ps.dep + 1 ∧ foK [.cd x.c] = 0 := by simp [foS, foC, foD, foK, Fo.S, Fo.C, Fo.D, Fo.K]
  obtain ⟨o1, o2, o3, o4⟩ := hone
  constructor
  · intro hw
    have hw := wok_ne hw (ne_at h)
    refine ⟨by omega, by omega, fun hz => .inr ?_, .inr (by omega)⟩
    rw [hz] at p3
    simp only [Bool.false_eq_true, if_false] at p3
    omega
  · intro hw ha hb hz
    have hcd : x.c.ps.dep + 1 ≤ 17 := by
      cases he : x.c.isZ with
      | true =>
        have hn : x.c.ps = .nil := by
          unfold CT.isZ at he
          rw [Bool.and_eq_true] at he
          have h2 : x.c.ps.num = 0 := by simpa using he.2
          cases hp : x.c.ps with
          | nil => rfl
          | cons => rw [hp] at h2; simp [CF.num] at h2
        rw [hn]
        simp [CF.dep]
      | false =>
        have := wok_ne (hz he) (by simp)
        omega
    rcases hw with hw | hw
    · rw [hw] at p1 p2 p3 p4 ⊢
      simp only [foS, foC, foD, foK] at p1 p2 p3 p4 ⊢
      exact ⟨⟨by omega, by omega, by omega, by omega, .inr (by omega)⟩, by omega, by omega⟩
    · exact ⟨⟨by omega, by omega, by omega, by omega, .inr (by omega)⟩, by omega, by omega⟩
theorem FoNew.foH {S : Nat → Prop} {W w1 : World} {fs : List Fo} {A : Option Addr} {m d : Nat} {xs : List Value} (h : w1.ownsRow W.heap.size 151 1 (.slice A m d) m xs) (hf : FoR S W fs xs) (hb : Below W.heap.size W w1) (hS : ∀ k, S k → k < W.heap.size) : FoH S w1 fs A m d :=
  ⟨xs, own_rd h, (fun hm p hp hs => by
    subst hp
    have := (h.lt p.block rfl).1
    have := hS _ hs
    omega), hf.below hb⟩
/-- The contract of within for forms of a size. -/
def WIN (N : Nat) : Prop := ∀ (fs : List Fo) (A : Option Addr) (m c d a b g : Nat) (D : Int) (w : World), D = (d : Int) → foZ fs < N → FoH (· = g) w fs A m c → d ≤ 17 → a + foZ fs ≤ 2000000 → b ≤ 256 → foZ fs ≤ 1000000 → Blk w g 147 #[vi (a : Int), vi (b : Int)] →
  Calls Tryz.prog 119 #[.pointer (some ⟨g, 0, none⟩), .slice A m c, .int .i64 D] w (WPost fs d a b g w)
set_option maxHeartbeats 4000000 in
set_option maxRecDepth 100000 in
theorem win_of (N : Nat) (ih : ∀ M, M < N → WIN M) : WIN N := by
  intro fs A m c d a b g D w hD hN h hd ha hb hz hblk
  subst hD
  have HI := Lib.hid ih
  have HR := Lib.hid h
  have HN := Lib.hid hN
  have HZ := Lib.hid hz
  have HL := Lib.hid h.len
  have HK := Lib.hid hblk
  clear ih h hN hz hblk
  have tcc := as_cc
  have tss := as_ss
  have tsc := as_sc
  have hm6 : m ≤ 1000000 := by
    have h1 := HL.out
    have h2 := fo_len fs
    have h3 := HZ.out
    omega
  by_cases hm : 0 < m
  · by_cases hd16 : d ≤ 16
    · have hdd : decide ((d : Int) > 16) = false := decide_eq_false (by omega)
      go_enter Tryz.func119, Tryz.ntmps119
      go_wp2_with (fail)
      go_loopw [21] (fun s wr => ∃ (i a' b' : Nat), i ≤ m ∧ s = .int .i64 i ∧ (a' = a ∨ a' ≤ 64) ∧ b' ≤ 256 ∧ Hid (Blk wr g 147 #[vi (a' : Int), vi (b' : Int)]) ∧ Hid (Only (· = g) w wr) ∧ Hid (WAt fs d a b i a' b')) (fun s _ => m - (intOf s).toNat)
      case atStart => exact ⟨0, a, b, Nat.zero_le _, rfl, .inl rfl, hb, HK.out, Only.refl _ _, ⟨by simp [foS], by simp [foC], by simp [foD]; omega, by simp [foK], .inl rfl⟩⟩
      case round =>
        obtain ⟨i, a', b', him, rfl, ha', hb', HB, HO, HE⟩ := hrel
        have ha2 : a' + foZ fs ≤ 2000000 := by have := HZ.out; rcases ha' with e | e <;> omega
        have ha3 : a' ≤ 2000000 := by omega
        clear ha'
        by_cases hlt : i < m
        · obtain ⟨q, off, f, v, rfl, hq, hf, hc, hv⟩ := HR.out.elem hlt
          have hc2 : wr.cell? ⟨q, off + i, none⟩ = some v := by
            obtain ⟨xs, hr, hav, _⟩ := HR.out
            rw [← hc]
            exact World.cell?_of_block (HO.out.block q hq (hav hm _ rfl))
          have HF := Lib.hid hf
          have HV := Lib.hid hv
          clear hf hv hc
          have c0 : wr.cell? ⟨g, 0, none⟩ = some (.int .i64 (a' : Int)) := by rw [HB.out.cell]; rfl
          have c1 : wr.cell? ⟨g, 1, none⟩ = some (.int .i64 (b' : Int)) := by rw [HB.out.cell]; rfl
          have hg := HB.out.lt
          have z0 := HB.out.frozen 0
          have z1 := HB.out.frozen 1
          cases f with
          | cd x =>
            obtain ⟨B, n, e, rfl, hr⟩ := HV.out
            have HRx := Lib.hid hr
            clear hr HV
            unfold cV at hc2
            dsimp only [vi] at hc2
            by_cases h1 : a' ≤ 64
            · by_cases h2 : b' + 1 ≤ 256
              · go_wp2_with (fail)
                first | (refine calls_named ?_; intro W hW) | (refine body_named ?_; intro W hW) | (refine wpList_named ?_; intro W hW) | (refine wp_named ?_; intro W hW)
                have hO1 : Only (· = g) wr W := by
                  rw [← hW]
                  exact (Only.set (S := (· = g)) wr (p := ⟨g, 1, none⟩) rfl _).trans (Only.of_below ((Below.refl _ _).alloc (Nat.le_refl _) _))
                have hB1 : Blk W g 147 #[vi (a' : Int), vi ((b' + 1 : Nat) : Int)] := by
                  rw [← hW]
                  exact (HB.out.set 1 _).alloc _
                clear hW
                have HO1 := Lib.hid (HO.out.trans hO1)
                have HB1 := Lib.hid hB1
                clear hO1 hB1 c0 c1 z0 z1 HB HO hc2
                have hn : n ≤ 1000000 := by
                  have q1 := HRx.out.len
                  have q2 := len_cnt x.ps
                  have q3 := fo_mem HF.out
                  have q4 := HZ.out
                  simp only [Fo.Z] at q3
                  omega
                refine (cparts_any (x := x) (HRx.out.only HO1.out (fun k hk => hk)) (Below.refl _ _) hn).mono ?_
                rintro e ww ⟨A1, m1, d1, xs1, rfl, ho1, hf1, hb1⟩
                have HFH := Lib.hid (FoNew.foH ho1 hf1 hb1 (fun k hk => by subst hk; exact HB1.out.lt))
                have HB2 := Lib.hid (HB1.out.below hb1 HB1.out.lt)
                have HO2 := Lib.hid (HO1.out.trans (Only.of_below hb1))
                clear ho1 hf1 hb1 HB1 HO1
                go_wp2_with (fail)
                refine (HI.out (foZ fs) HN.out (Fo.cd x).parts A1 m1 d1 (d + 1) a' (b' + 1) g _ ww (by omega) (by
                  have q3 := fo_mem HF.out
                  have q4 := ((fo_parts (.cd x)).2.1 x rfl).2.2.2
                  omega) HFH.out (by omega) (by
                  have q3 := fo_mem HF.out
                  have q4 := ((fo_parts (.cd x)).2.1 x rfl).2.2.2
                  omega) (by omega) (by
                  have q3 := fo_mem HF.out
                  have q4 := ((fo_parts (.cd x)).2.1 x rfl).2.2.2
                  have q5 := HZ.out
                  omega) HB2.out).mono ?_
                rintro e w2 ⟨r, rfl, hr, hO3, hB3⟩
                have HO3 := Lib.hid (HO2.out.trans hO3)
                cases r with
                | true =>
                  obtain ⟨hA, hA1, hA2⟩ := (win_cd HF.out HE.out hd16).2 (hr.1 rfl) h1 h2
                  have HA := Lib.hid hA
                  have HB3 := Lib.hid (hB3 rfl)
                  clear hA hB3 hr hO3 HB2 HO2 HFH
                  go_wp2_with (fail)
                  go_roundw
                  case rel => exact ⟨i + 1, a' + foS (Fo.cd x).parts, b' + 1 + foC (Fo.cd x).parts, hlt, by go_num, .inr hA1, hA2, HB3.out, HO3.out, HA.out⟩
                  case measure => simp [intOf]; omega
                | false =>
                  have HN2 := Lib.hid (show ¬ WOk fs d a b from fun hw => by
                    have := hr.2 ((win_cd HF.out HE.out hd16).1 hw).2.2
                    cases this)
                  clear hr hB3 hO3
                  go_wp2_with (fail)
                  go_ret
                  exact ⟨false, rfl, ⟨(fun e => by cases e), fun hw => absurd hw HN2.out⟩, HO3.out, (fun e => by cases e)⟩
              · have HN2 := Lib.hid (show ¬ WOk fs d a b from fun hw => h2 ((win_cd HF.out HE.out hd16).1 hw).2.1)
                go_wp2_with (fail)
                go_ret
                exact ⟨false, rfl, ⟨(fun e => by cases e), fun hw => absurd hw HN2.out⟩, HO.out.trans ((Only.set (S := (· = g)) wr (p := ⟨g, 1, none⟩) rfl _).trans (Only.of_below ((Below.refl _ _).alloc (Nat.le_refl _) _))), (fun e => by cases e)⟩
            · have HN2 := Lib.hid (show ¬ WOk fs d a b from fun hw => h1 ((win_cd HF.out HE.out hd16).1 hw).1)
              go_wp2_with (fail)
              go_ret
              exact ⟨false, rfl, ⟨(fun e => by cases e), fun hw => absurd hw HN2.out⟩, HO.out.trans ((Only.set (S := (· = g)) wr (p := ⟨g, 1, none⟩) rfl _).trans (Only.of_below ((Below.refl _ _).alloc (Nat.le_refl _) _))), (fun e => by cases e)⟩
          | st x =>
            obtain ⟨B, n, e, B1, n1, e1, B2, n2, e2, rfl, hr, hr1, hr2⟩ := HV.out
            have HRx := Lib.hid hr
            have HR1 := Lib.hid hr1
            have HR2 := Lib.hid hr2
            clear hr hr1 hr2 HV
            unfold stV at hc2
            dsimp only [vi] at hc2
            go_wp2_with (fail)
            first | (refine calls_named ?_; intro W hW) | (refine body_named ?_; intro W hW) | (refine wpList_named ?_; intro W hW) | (refine wp_named ?_; intro W hW)
            have hO1 : Only (· = g) wr W := by
              rw [← hW]
              exact (Only.set (S := (· = g)) wr (p := ⟨g, 0, none⟩) rfl _).trans (Only.of_below (((Below.refl _ _).alloc (Nat.le_refl _) _).alloc (by simp) _))
            have hB1 : Blk W g 147 #[vi ((a' + 1 : Nat) : Int), vi (b' : Int)] := by
              rw [← hW]
              exact ((HB.out.set 0 _).alloc _).alloc _
            have hC1 : Blk W (wr.heap.size + 1) 104 #[.int .i64 x.c.k, .int .i64 x.c.v, .int .i64 x.c.n, .slice B n e] := by
              rw [← hW]
              have h := Blk.new ((wr.setCell ⟨g, 0, none⟩ (.int .i64 (a' + 1 : Int))).alloc (.cells #[.int .i64 x.k, .int .i64 x.b, .int .i64 x.c.k, .int .i64 x.c.v, .int .i64 x.c.n, .slice B n e, .slice B1 n1 e1, .slice B2 n2 e2] 159)) 104 #[.int .i64 x.c.k, .int .i64 x.c.v, .int .i64 x.c.n, .slice B n e]
              rw [World.size_alloc] at h
              rw [show (wr.setCell ⟨g, 0, none⟩ (.int .i64 (a' + 1 : Int))).heap.size = wr.heap.size by simp [World.setCell]] at h
              exact h
            clear hW
            have hg1 : g ≠ wr.heap.size + 1 := by omega
            have HO1 := Lib.hid (HO.out.trans hO1)
            have HB1 := Lib.hid hB1
            have HC1 := Lib.hid hC1
            clear hO1 hB1 hC1 c0 c1 z0 z1 HB HO hc2
            refine (iszero_any x.c B n e W HRx.out.len).mono ?_
            rintro e w1 ⟨rfl, hb1⟩
            have HB2 := Lib.hid (HB1.out.below hb1 HB1.out.lt)
            have HC2 := Lib.hid (HC1.out.below hb1 HC1.out.lt)
            have HO2 := Lib.hid (HO1.out.trans (Only.of_below hb1))
            clear hb1 HB1 HC1 HO1
            have y0 : w1.cell? ⟨wr.heap.size + 1, 0, none⟩ = some (.int .i64 x.c.k) := by rw [HC2.out.cell]; rfl
            have y1 : w1.cell? ⟨wr.heap.size + 1, 1, none⟩ = some (.int .i64 x.c.v) := by rw [HC2.out.cell]; rfl
            have y2 : w1.cell? ⟨wr.heap.size + 1, 2, none⟩ = some (.int .i64 x.c.n) := by rw [HC2.out.cell]; rfl
            have y3 : w1.cell? ⟨wr.heap.size + 1, 3, none⟩ = some (.slice B n e) := by rw [HC2.out.cell]; rfl
            cases hz : x.c.isZ with
            | true =>
              have HZc := Lib.hid hz
              clear hz
              have h2 : b' ≤ 256 := hb'
              by_cases h1 : a' + 1 ≤ 64
              · -- the tail
                have c0 : w1.cell? ⟨g, 0, none⟩ = some (.int .i64 ((a' + 1 : Nat) : Int)) := by rw [HB2.out.cell]; rfl
                have c1 : w1.cell? ⟨g, 1, none⟩ = some (.int .i64 ((b' : Nat) : Int)) := by rw [HB2.out.cell]; rfl
                have hg := HB2.out.lt
                go_wp2_with (fail)
                have hn1 : n1 ≤ 1000000 ∧ n2 ≤ 1000000 := by
                  have q1 := HR1.out.len
                  have q2 := slen_sz x.th
                  have q3 := fo_mem HF.out
                  have q4 := HZ.out
                  have q5 := HR2.out.len
                  have q6 := slen_sz x.el
                  simp only [Fo.Z] at q3
                  omega
                refine (sparts_any (x := x) (A := B) (m := n) (d := e) (HR1.out.only HO2.out (fun k hk => hk)) (HR2.out.only HO2.out (fun k hk => hk)) (Below.refl _ _) hn1.1 hn1.2).mono ?_
                rintro e ww ⟨A1, m1, d1, xs1, rfl, ho1, hf1, hb1⟩
                have HFH := Lib.hid (FoNew.foH ho1 hf1 hb1 (fun k hk => by subst hk; exact HB2.out.lt))
                have HB5 := Lib.hid (HB2.out.below hb1 HB2.out.lt)
                have HO5 := Lib.hid (HO2.out.trans (Only.of_below hb1))
                clear ho1 hf1 hb1 HB2 HO2 c0 c1
                go_wp2_with (fail)
                refine (HI.out (foZ fs) HN.out (Fo.st x).parts A1 m1 d1 (d + 1) (a' + 1) (b') g _ ww (by omega) (by
                  have q3 := fo_mem HF.out
                  have q4 := ((fo_parts (.st x)).2.2 x rfl).2.2.2
                  omega) HFH.out (by omega) (by
                  have q3 := fo_mem HF.out
                  have q4 := ((fo_parts (.st x)).2.2 x rfl).2.2.2
                  have q5 := HZ.out
                  omega) (by omega) (by
                  have q3 := fo_mem HF.out
                  have q4 := ((fo_parts (.st x)).2.2 x rfl).2.2.2
                  have q5 := HZ.out
                  omega) HB5.out).mono ?_
                rintro e w2 ⟨r, rfl, hr, hO6, hB6⟩
                have HO6 := Lib.hid (HO5.out.trans hO6)
                cases r with
                | true =>
                  obtain ⟨hA, hA1, hA2⟩ := (win_st HF.out HE.out hd16 (b2 := b') (by rw [HZc.out]; rfl)).2 (hr.1 rfl) h1 h2 (fun h => by rw [HZc.out] at h; cases h)
                  have HA := Lib.hid hA
                  have HB6 := Lib.hid (hB6 rfl)
                  clear hA hB6 hr hO6 HB5 HO5 HFH
                  go_wp2_with (fail)
                  go_roundw
                  case rel => exact ⟨i + 1, a' + 1 + foS (Fo.st x).parts, b' + foC (Fo.st x).parts, hlt, by go_num, .inr hA1, hA2, HB6.out, HO6.out, HA.out⟩
                  case measure => simp [intOf]; omega
                | false =>
                  have HN2 := Lib.hid (show ¬ WOk fs d a b from fun hw => by
                    have := hr.2 ((win_st HF.out HE.out hd16 (b2 := b') (by rw [HZc.out]; rfl)).1 hw).2.2.2
                    cases this)
                  clear hr hB6 hO6
                  go_wp2_with (fail)
                  go_ret
                  exact ⟨false, rfl, ⟨(fun e => by cases e), fun hw => absurd hw HN2.out⟩, HO6.out, (fun e => by cases e)⟩
              · have HN2 := Lib.hid (show ¬ WOk fs d a b from fun hw => h1 ((win_st HF.out HE.out hd16 rfl).1 hw).1)
                have c0 : w1.cell? ⟨g, 0, none⟩ = some (.int .i64 ((a' + 1 : Nat) : Int)) := by rw [HB2.out.cell]; rfl
                have hg := HB2.out.lt
                go_wp2_with (fail)
                go_ret
                exact ⟨false, rfl, ⟨(fun e => by cases e), fun hw => absurd hw HN2.out⟩, HO2.out, (fun e => by cases e)⟩
            | false =>
              have HZc := Lib.hid hz
              clear hz
              go_wp2_with (fail)
              first | (refine calls_named ?_; intro W3 hW3) | (refine body_named ?_; intro W3 hW3) | (refine wpList_named ?_; intro W3 hW3) | (refine wp_named ?_; intro W3 hW3)
              have hb3 : Below w1.heap.size w1 W3 := by rw [← hW3]; exact (Below.refl _ _).alloc (Nat.le_refl _) _
              have hrow : Blk W3 w1.heap.size 151 #[.iface 104 (cV x.c B n e)] := by rw [← hW3]; exact Blk.new w1 _ _
              clear hW3
              have HB3 := Lib.hid (HB2.out.below hb3 HB2.out.lt)
              have HO3 := Lib.hid (HO2.out.trans (Only.of_below hb3))
              have HFC := Lib.hid (show FoH (· = g) W3 [.cd x.c] (some ⟨w1.heap.size, 0, none⟩) 1 1 from
                ⟨[_], ⟨rfl, Nat.le_refl _, by decide, fun _ => ⟨_, 0, rfl, hrow.lt, fun j u hj => by rw [hrow.cell, Nat.zero_add]; simpa using hj⟩⟩, (fun _ p hp hs => by
                  cases hp
                  have hs : w1.heap.size = g := hs
                  have := HB2.out.lt
                  omega), FoR.one ⟨B, n, e, rfl, HRx.out.only HO3.out (fun k hk => hk)⟩⟩)
              clear hb3 hrow HB2 HO2 HC2 y0 y1 y2 y3
              refine (HI.out (foZ fs) HN.out [.cd x.c] (some ⟨w1.heap.size, 0, none⟩) 1 1 0 (a' + 1) b' g _ W3 rfl (by
                have q3 := fo_mem HF.out
                simp only [Fo.Z, foZ] at q3 ⊢
                omega) HFC.out (by omega) (by
                have q3 := fo_mem HF.out
                simp only [Fo.Z, foZ] at q3 ⊢
                omega) (by omega) (by
                have q3 := fo_mem HF.out
                have q5 := HZ.out
                simp only [Fo.Z, foZ] at q3 ⊢
                omega) HB3.out).mono ?_
              rintro e w4 ⟨r, rfl, hr, hO4, hB4⟩
              have HO4 := Lib.hid (HO3.out.trans hO4)
              cases r with
              | true =>
                have HW4 := Lib.hid (hr.1 rfl)
                have hB4' := hB4 rfl
                have e1 : a' + 1 + foS [.cd x.c] = a' + 1 := by simp [foS, Fo.S]
                have e2 : b' + foC [.cd x.c] = b' + (x.c.ps.cnt + 1) := by simp [foC, Fo.C]
                rw [e1, e2] at hB4'
                have HB4 := Lib.hid hB4'
                have hw4 := wok_ne HW4.out (by simp)
                rw [e1, e2] at hw4
                have h1 := hw4.1
                have h2 := hw4.2.1
                clear hr hB4 hB4' hO4 hw4 e1 e2 HB3 HO3 HFC
                have c0 : w4.cell? ⟨g, 0, none⟩ = some (.int .i64 ((a' + 1 : Nat) : Int)) := by rw [HB4.out.cell]; rfl
                have c1 : w4.cell? ⟨g, 1, none⟩ = some (.int .i64 ((b' + (x.c.ps.cnt + 1) : Nat) : Int)) := by rw [HB4.out.cell]; rfl
                have hg := HB4.out.lt
                go_wp2_with (fail)
                have hn1 : n1 ≤ 1000000 ∧ n2 ≤ 1000000 := by
                  have q1 := HR1.out.len
                  have q2 := slen_sz x.th
                  have q3 := fo_mem HF.out
                  have q4 := HZ.out
                  have q5 := HR2.out.len
                  have q6 := slen_sz x.el
                  simp only [Fo.Z] at q3
                  omega
                refine (sparts_any (x := x) (A := B) (m := n) (d := e) (HR1.out.only HO4.out (fun k hk => hk)) (HR2.out.only HO4.out (fun k hk => hk)) (Below.refl _ _) hn1.1 hn1.2).mono ?_
                rintro e ww ⟨A1, m1, d1, xs1, rfl, ho1, hf1, hb1⟩
                have HFH := Lib.hid (FoNew.foH ho1 hf1 hb1 (fun k hk => by subst hk; exact HB4.out.lt))
                have HB5 := Lib.hid (HB4.out.below hb1 HB4.out.lt)
                have HO5 := Lib.hid (HO4.out.trans (Only.of_below hb1))
                clear ho1 hf1 hb1 HB4 HO4 c0 c1
                go_wp2_with (fail)
                refine (HI.out (foZ fs) HN.out (Fo.st x).parts A1 m1 d1 (d + 1) (a' + 1) (b' + (x.c.ps.cnt + 1)) g _ ww (by omega) (by
                  have q3 := fo_mem HF.out
                  have q4 := ((fo_parts (.st x)).2.2 x rfl).2.2.2
                  omega) HFH.out (by omega) (by
                  have q3 := fo_mem HF.out
                  have q4 := ((fo_parts (.st x)).2.2 x rfl).2.2.2
                  have q5 := HZ.out
                  omega) (by omega) (by
                  have q3 := fo_mem HF.out
                  have q4 := ((fo_parts (.st x)).2.2 x rfl).2.2.2
                  have q5 := HZ.out
                  omega) HB5.out).mono ?_
                rintro e w2 ⟨r, rfl, hr, hO6, hB6⟩
                have HO6 := Lib.hid (HO5.out.trans hO6)
                cases r with
                | true =>
                  obtain ⟨hA, hA1, hA2⟩ := (win_st HF.out HE.out hd16 (b2 := b' + (x.c.ps.cnt + 1)) (by rw [HZc.out]; rfl)).2 (hr.1 rfl) h1 h2 (fun _ => HW4.out)
                  have HA := Lib.hid hA
                  have HB6 := Lib.hid (hB6 rfl)
                  clear hA hB6 hr hO6 HB5 HO5 HFH
                  go_wp2_with (fail)
                  go_roundw
                  case rel => exact ⟨i + 1, a' + 1 + foS (Fo.st x).parts, b' + (x.c.ps.cnt + 1) + foC (Fo.st x).parts, hlt, by go_num, .inr hA1, hA2, HB6.out, HO6.out, HA.out⟩
                  case measure => simp [intOf]; omega
                | false =>
                  have HN2 := Lib.hid (show ¬ WOk fs d a b from fun hw => by
                    have := hr.2 ((win_st HF.out HE.out hd16 (b2 := b' + (x.c.ps.cnt + 1)) (by rw [HZc.out]; rfl)).1 hw).2.2.2
                    cases this)
                  clear hr hB6 hO6
                  go_wp2_with (fail)
                  go_ret
                  exact ⟨false, rfl, ⟨(fun e => by cases e), fun hw => absurd hw HN2.out⟩, HO6.out, (fun e => by cases e)⟩
              | false =>
                have HN2 := Lib.hid (show ¬ WOk fs d a b from fun hw => by
                  have := hr.2 (((win_st HF.out HE.out hd16 rfl).1 hw).2.2.1 HZc.out)
                  cases this)
                clear hr hB4 hO4
                go_wp2_with (fail)
                go_ret
                exact ⟨false, rfl, ⟨(fun e => by cases e), fun hw => absurd hw HN2.out⟩, HO4.out, (fun e => by cases e)⟩
        · have HP := Lib.hid (show WPost fs d a b g w (.returned (.bool true)) wr from by
            have hi : i = m := by omega
            have hE := HE.out
            have e1 := hE.s
            have e2 := hE.c
            have e3 := hE.d
            have e4 := hE.k
            have ez := hE.z
            rw [List.take_of_length_le (by rw [← HL.out]; omega)] at e1 e2 e3 e4
            refine ⟨true, rfl, ⟨fun _ => .inr ?_, fun _ => rfl⟩, HO.out, fun _ => ?_⟩
            · omega
            · rw [← e1, ← e2]; exact HB.out)
          go_wp2_with (fail)
          go_ret
          exact HP.out
    · have HN2 := Lib.hid (show ¬ WOk fs d a b from fun hw => by
        have h1 := HL.out
        have hne : fs ≠ [] := by rintro rfl; simp at h1; omega
        have h2 := wok_ne hw hne
        have h3 := foD_pos hne
        omega)
      go_enter Tryz.func119, Tryz.ntmps119
      go_wp2_with (fail)
      go_ret
      exact ⟨false, rfl, ⟨(fun e => by cases e), fun hw => absurd hw HN2.out⟩, Only.refl _ _, (fun e => by cases e)⟩
  · have hm0 : m = 0 := by omega
    have HP := Lib.hid (show WPost fs d a b g w (.returned (.bool true)) w from by
      have h1 := HL.out
      have hn : fs = [] := List.eq_nil_of_length_eq_zero (by omega)
      subst hn
      exact ⟨true, rfl, ⟨fun _ => .inl rfl, fun _ => rfl⟩, Only.refl _ _, fun _ => HK.out⟩)
    clear hm
    subst hm0
    go_enter Tryz.func119, Tryz.ntmps119
    go_wp2_with (fail)
    go_loopw [21] (fun s wr => s = .int .i64 0 ∧ Hid (wr = w)) (fun _ _ => 0)
    case atStart => exact ⟨rfl, Lib.hid rfl⟩
    case round =>
      obtain ⟨rfl, HW⟩ := hrel
      go_wp2_with (fail)
      go_ret
      rw [HW.out]
      exact HP.out
theorem win_all (N : Nat) : WIN N := by
  induction N using Nat.strongRecOn with
  | _ N ih => exact win_of N ih
end Go.Proofs.YticpjdjdimpglaaGreatDoor
