/- typing.check, Cond, Order by their contracts. -/
import Derived.Test.YticpjdjdimpglaaGreatDoorCTisMTVal
import Derived.Test.YticpjdjdimpglaaGreatDoorCTisMTRow
import Derived.Test.YticpjdjdimpglaaGreatDoorCTisMJoinPlain
import Derived.Test.YticpjdjdimpglaaGreatDoorProg
import Derived.Deep.QuietTactic
import Derived.BigQuiet
import Derived.Test.YticpjdjdimpglaaGreatDoorCTisMNor
import Derived.Test.YticpjdjdimpglaaGreatDoorCTisMTidA
import Derived.Maps.OwnOps
import Derived.Maps.RangeWalk
import Derived.Maps.Ext
import Derived.Test.YticpjdjdimpglaaGreatDoorCTisMCmp2
import Derived.Carry
namespace Go.Proofs.YticpjdjdimpglaaGreatDoor
set_option linter.unusedVariables false
set_option linter.unusedSimpArgs false
open Go.RowKit
section
variable {S : Nat → Prop} {w : World}
theorem FoV.new {f : Fo} {v : Value} (h : FoV S w f v) : FoV (fun k => S k ∨ w.heap.size ≤ k) w f v := by
  cases f with
  | cd c => obtain ⟨A, m, d, e, h1⟩ := h; exact ⟨A, m, d, e, h1.new⟩
  | st x => obtain ⟨A, m, d, A1, m1, d1, A2, m2, d2, e, h1, h2, h3⟩ := h; exact ⟨A, m, d, A1, m1, d1, A2, m2, d2, e, h1.new, h2.new, h3.new⟩
theorem FoR.new : ∀ {fs : List Fo} {xs : List Value}, FoR S w fs xs → FoR (fun k => S k ∨ w.heap.size ≤ k) w fs xs
  | [], _, h => h
  | _ :: _, _, h => by obtain ⟨v, zs, e, h1, h2⟩ := h; exact ⟨v, zs, e, h1.new, FoR.new h2⟩
theorem FoH.new {fs : List Fo} {A : Option Addr} {m d : Nat} (h : FoH S w fs A m d) : FoH (fun k => S k ∨ w.heap.size ≤ k) w fs A m d := by
  obtain ⟨xs, h1, h2, h3⟩ := h
  exact ⟨xs, h1, h1.lt_av h2, h3.new⟩
end
theorem valid_all (N : Nat) : VAL N := by
  induction N with
  | zero => intro S f v w h; exact absurd h (Nat.not_lt_zero _)
  | succ N ih =>
    intro S f v w hN hz h
    have h0 := h.sub (S' := fun _ => False) (fun _ h => False.elim h)
    cases f with
    | cd c =>
      obtain ⟨A, m, d, rfl, hr⟩ := h0
      exact val_cd N ih _ c A m d w hN hz hr (fun _ h => False.elim h)
    | st x =>
      obtain ⟨A, m, d, A1, m1, d1, A2, m2, d2, rfl, hr, hr1, hr2⟩ := h0
      exact val_st N ih _ x A m d A1 m1 d1 A2 m2 d2 w hN hz hr hr1 hr2 (fun _ h => False.elim h)
def tcheck (fs : List Fo) : Int := if 64 < foS fs ∨ 256 < foC fs ∨ 17 < foD fs ∨ 17 < foK fs then 2 else if fs.length = 0 ∨ fs.all Fo.ok = false then 140 else 0
theorem tcheck_c (c : CT) : tcheck [.cd c] = tcond c := by
  unfold tcheck tcond
  have h1 : foS [.cd c] = 0 ∧ foC [.cd c] = (CF.one c .nil).cnt ∧ foD [.cd c] = (CF.one c .nil).dep ∧ foK [.cd c] = 0 := by
    simp [foS, foC, foD, foK, Fo.S, Fo.C, Fo.D, Fo.K, CF.one, CF.cnt, CF.dep]
  obtain ⟨h1, h2, h3, h4⟩ := h1
  rw [h1, h2, h3, h4]
  have h5 : [Fo.cd c].all Fo.ok = (CF.one c .nil).okB := by
    show (okC c && true) = _
    rw [Bool.and_true]; rfl
  rw [h5]
  by_cases ha : 256 < (CF.one c .nil).cnt ∨ 17 < (CF.one c .nil).dep
  · rw [if_pos ha, if_pos (by omega)]
  · rw [if_neg ha, if_neg (by omega)]
    cases (CF.one c .nil).okB <;> simp
theorem tcheck_s (l : SF) : tcheck (l.toL.map .st) = torder l := by
  obtain ⟨h1, h2, h3, h4, _⟩ := fo_s l
  unfold tcheck torder
  rw [h1, h2, h3, h4, all_s, List.length_map, stoL_len, snum_len]
theorem wok_iff (fs : List Fo) : WOk fs 0 0 0 ↔ ¬ (64 < foS fs ∨ 256 < foC fs ∨ 17 < foD fs ∨ 17 < foK fs) := by
  unfold WOk
  constructor
  · rintro (rfl | h)
    · simp [foS, foC, foD, foK]
    · omega
  · intro h
    exact .inr (by omega)
set_option maxHeartbeats 4000000 in
set_option maxRecDepth 100000 in
theorem check_any (S : Nat → Prop) (fs : List Fo) (A : Option Addr) (m c : Nat) (w : World) (h : FoH S w fs A m c) (hz : foZ fs ≤ 1000000) : Calls Tryz.prog 70 #[.slice A m c] w fun e w' => e = .returned (.int .i64 (tcheck fs)) ∧ Below w.heap.size w w' := by
  have hm6 : m ≤ 1000000 := by have := h.len; have := fo_len fs; omega
  have HR := Lib.hid h
  have HZ := Lib.hid hz
  have HL := Lib.hid h.len
  clear h hz
  go_enter Tryz.func70, Tryz.ntmps70
  go_wp2_with (fail)
  first | (refine calls_named ?_; intro W hW) | (refine body_named ?_; intro W hW) | (refine wpList_named ?_; intro W hW) | (refine wp_named ?_; intro W hW)
  have hb1 : Below w.heap.size w W := by rw [← hW]; exact (Below.refl _ _).alloc (Nat.le_refl _) _
  have hx1 : Blk W w.heap.size 147 #[vi ((0 : Nat) : Int), vi ((0 : Nat) : Int)] := by rw [← hW]; exact Blk.new w _ _
  clear hW
  have HB1 := Lib.hid hb1
  have HF1 := Lib.hid ((HR.out.new.sub (S' := (· = w.heap.size)) (fun k hk => .inr (Nat.le_of_eq hk.symm))).below hb1)
  have HX1 := Lib.hid hx1
  clear hb1 hx1
  refine (win_all (foZ fs + 1) fs A m c 0 0 0 w.heap.size _ W rfl (Nat.lt_succ_self _) HF1.out (by omega) (by have := HZ.out; omega) (by omega) HZ.out HX1.out).mono ?_
  rintro e w1 ⟨r, rfl, hr, hO, _⟩
  have HB2 := Lib.hid (show Below w.heap.size w w1 from hO.below HB1.out HB1.out.size (fun k hk => Nat.le_of_eq hk.symm))
  cases r with
  | false =>
    have HE := Lib.hid (show tcheck fs = 2 by
      unfold tcheck
      have h2 : ¬ WOk fs 0 0 0 := fun h => by cases hr.2 h
      rw [wok_iff] at h2
      rw [if_pos (Classical.not_not.1 h2)])
    clear hr hO
    go_wp2_with (fail)
    go_ret
    exact ⟨by rw [HE.out]; rfl, HB2.out⟩
  | true =>
    have HE := Lib.hid (show tcheck fs = if fs.length = 0 ∨ fs.all Fo.ok = false then 140 else 0 by
      unfold tcheck
      have h2 := hr.1 rfl
      rw [wok_iff] at h2
      rw [if_neg h2])
    have HF2 := Lib.hid (HF1.out.only hO (fun k hk => hk))
    clear hr hO
    by_cases hm : m = 0
    · have HE2 := Lib.hid (show tcheck fs = 140 by rw [HE.out, if_pos (.inl (by rw [← HL.out]; exact hm))])
      clear HE
      subst hm
      go_wp2_with (fail)
      go_ret
      exact ⟨by rw [HE2.out]; rfl, HB2.out⟩
    · have hmb : ((m : Int) == 0) = false := beq_eq_false_iff_ne.2 (by omega)
      have HM := Lib.hid hm
      clear hm
      go_wp2_with (fail)
      refine (contains_forms (foZ fs + 1) (valid_all _) _ fs A m c w1 (fun f hf => by
        obtain ⟨i, hi, e⟩ := List.mem_iff_getElem.1 hf
        have h1 := fo_mem (List.getElem?_eq_some_iff.2 ⟨hi, e⟩)
        have := HZ.out
        omega) HF2.out hm6).mono ?_
      rintro e w2 ⟨rfl, hb⟩
      have HB3 := Lib.hid (HB2.out.trans (hb.mono HB2.out.size))
      clear hb
      cases ho : fs.all Fo.ok with
      | true =>
        have HE2 := Lib.hid (show tcheck fs = 0 by rw [HE.out, if_neg (fun e => e.elim (fun e => HM.out (by rw [HL.out]; exact e)) (fun e => by rw [ho] at e; cases e))])
        clear ho HE
        go_wp2_with (fail)
        go_ret
        exact ⟨by rw [HE2.out]; rfl, HB3.out⟩
      | false =>
        have HE2 := Lib.hid (show tcheck fs = 140 by rw [HE.out, if_pos (.inr ho)])
        clear ho HE
        go_wp2_with (fail)
        go_ret
        exact ⟨by rw [HE2.out]; rfl, HB3.out⟩
set_option maxHeartbeats 4000000 in
set_option maxRecDepth 100000 in
/-- typing.Cond. -/
theorem tcond_any (S : Nat → Prop) (c : CT) (A : Option Addr) (m d : Nat) (w : World) (h : RepH S w c.ps A m d) (hz : c.ps.cnt ≤ 999999) : Calls Tryz.prog 26 #[cV c A m d] w fun e w' => e = .returned (.int .i64 (tcond c)) ∧ Below w.heap.size w w' := by
  have HR := Lib.hid h
  clear h
  unfold cV
  go_enter Tryz.func26, Tryz.ntmps26
  go_wp2_with (fail)
  first | (refine calls_named ?_; intro W hW) | (refine body_named ?_; intro W hW) | (refine wpList_named ?_; intro W hW) | (refine wp_named ?_; intro W hW)
  have hb1 : Below w.heap.size w W := by rw [← hW]; exact ((Below.refl _ _).alloc (Nat.le_refl _) _).alloc (by simp) _
  have hx1 : Blk W (w.heap.size + 1) 151 #[.iface 104 (cV c A m d)] := by
    rw [← hW, ← World.size_alloc w]
    exact Blk.new _ _ _
  clear hW
  have HB1 := Lib.hid hb1
  have HF := Lib.hid (show FoH (fun _ => False) W [.cd c] (some ⟨w.heap.size + 1, 0, none⟩) 1 1 from
    ⟨[_], ⟨rfl, Nat.le_refl _, by decide, fun _ => ⟨_, 0, rfl, hx1.lt, fun j u hj => by rw [hx1.cell, Nat.zero_add]; simpa using hj⟩⟩, (fun _ p hp hs => hs), FoR.one ⟨A, m, d, rfl, (HR.out.below hb1).sub (fun _ h => False.elim h)⟩⟩)
  clear hb1 hx1
  refine (check_any _ [.cd c] _ 1 1 W HF.out (by simp only [foZ, Fo.Z]; omega)).mono ?_
  rintro e w1 ⟨rfl, hb⟩
  have HB2 := Lib.hid (HB1.out.trans (hb.mono HB1.out.size))
  clear hb
  have HE := Lib.hid (tcheck_c c)
  go_wp2_with (fail)
  go_ret
  exact ⟨congrArg (fun n => Ending.returned (Value.int .i64 n)) HE.out, HB2.out⟩
set_option maxHeartbeats 4000000 in
set_option maxRecDepth 100000 in
/-- typing.Order. -/
theorem torder_any (S : Nat → Prop) (l : SF) (A : Option Addr) (m d : Nat) (w : World) (h : RepT S w l A m d) (hz : l.sz ≤ 1000000) : Calls Tryz.prog 28 #[.slice A m d] w fun e w' => e = .returned (.int .i64 (torder l)) ∧ Below w.heap.size w w' := by
  have HR := Lib.hid (h.sub (S' := fun _ => False) (fun _ h => False.elim h))
  have hm : m ≤ 1000000 := by have := h.len; have := slen_sz l; omega
  clear h
  go_enter Tryz.func28, Tryz.ntmps28
  go_wp2_with (fail)
  refine (steps_any HR.out (Below.refl _ _) hm).mono ?_
  rintro e w1 ⟨A1, m1, d1, xs1, rfl, ho1, hf1, hb1⟩
  have HH := Lib.hid (FoNew.foH ho1 hf1 hb1 (fun k hk => False.elim hk))
  have HB1 := Lib.hid hb1
  clear ho1 hf1 hb1
  go_wp2_with (fail)
  refine (check_any _ _ _ m1 d1 w1 HH.out (by rw [(fo_s l).2.2.2.2]; exact hz)).mono ?_
  rintro e w2 ⟨rfl, hb⟩
  have HB2 := Lib.hid (HB1.out.trans (hb.mono HB1.out.size))
  clear hb
  have HE := Lib.hid (tcheck_s l)
  go_wp2_with (fail)
  go_ret
  exact ⟨congrArg (fun n => Ending.returned (Value.int .i64 n)) HE.out, HB2.out⟩
end Go.Proofs.YticpjdjdimpglaaGreatDoor
/- Plain laws: how great normal forms and flat steps are; flat steps are valid. No program. -/
namespace Go.Proofs.YticpjdjdimpglaaGreatDoor
set_option linter.unusedVariables false
set_option linter.unusedSimpArgs false
/-- A weight of conditions: an AtLeastC counts twice, a NotC not at all. -/
def CF.w : CF → Nat
  | .nil => 0
  | .cons k _ _ ps r => (if k = 1 then 2 else if k = 4 then ps.w else ps.w + 1) + r.w
def CT.w (c : CT) : Nat := (CF.one c .nil).w
def sw (l : List CT) : Nat := (l.map CT.w).sum
theorem CT.w_def (c : CT) : c.w = if c.k = 1 then 2 else if c.k = 4 then c.ps.w else c.ps.w + 1 := by
  show (_ + 0) = _
  rw [Nat.add_zero]
theorem w_one (c : CT) (r : CF) : (CF.one c r).w = c.w + r.w := by
  rw [CT.w_def]; rfl
theorem sw_cons (c : CT) (l : List CT) : sw (c :: l) = c.w + sw l := by simp [sw]
theorem sw_app (l m : List CT) : sw (l ++ m) = sw l + sw m := by simp [sw]
theorem w_list : ∀ F : CF, F.w = sw F.toL
  | .nil => rfl
  | .cons k v n ps r => by
    have := w_one ⟨k, v, n, ps⟩ r
    rw [CF.toL, sw_cons, ← w_list r]
    exact this
theorem sw_filter (a d : CT → Bool) : ∀ l : List CT, sw (l.filter fun y => a y && d y) + sw (l.filter fun y => a y && !d y) ≤ sw l
  | [] => Nat.le_refl _
  | y :: l => by
    have := sw_filter a d l
    rw [List.filter_cons, List.filter_cons, sw_cons]
    cases a y <;> cases d y <;> simp [sw_cons] <;> omega
theorem sw_ins (kind : Int) (l : List CT) (c : CT) : sw (insC kind l c) ≤ sw l + c.w := by
  unfold insC
  split
  · omega
  · rw [sw_app, sw_cons]
    have := sw_filter (fun y => !covers kind c y) (fun y => decide (y.cmp c < 0)) l
    omega
theorem sw_fold (kind : Int) : ∀ xs acc : List CT, sw (xs.foldl (insC kind) acc) ≤ sw acc + sw xs
  | [], acc => by simp [sw]
  | x :: xs, acc => by
    rw [List.foldl_cons, sw_cons]
    have h1 := sw_fold kind xs (insC kind acc x)
    have h2 := sw_ins kind acc x
    omega
theorem sw_flat {kind : Int} (hk : kind = 2 ∨ kind = 3) : ∀ xs : List CT, sw (xs.flatMap fun x => if x.k = kind then x.ps.toL else [x]) ≤ sw xs
  | [] => Nat.le_refl _
  | x :: xs => by
    have := sw_flat hk xs
    rw [List.flatMap_cons, sw_app, sw_cons]
    have : sw (if x.k = kind then x.ps.toL else [x]) ≤ x.w := by
      split
      · next h =>
        rw [← w_list, CT.w_def, if_neg (by omega), if_neg (by omega)]
        omega
      · rw [sw_cons]; simp [sw]
    omega
theorem seqO_sw {g : CT → Option CT} : ∀ {l xs : List CT}, (∀ p ∈ l, ∀ x, g p = some x → x.w ≤ p.w) → seqO (l.map g) = some xs → sw xs ≤ sw l
  | [], xs, _, h => by cases h; exact Nat.le_refl _
  | p :: l, xs, hg, h => by
    rw [List.map_cons] at h
    cases hp : g p with
    | none => rw [hp] at h; cases h
    | some x =>
      rw [hp] at h
      have h' : (seqO (l.map g)).map (x :: ·) = some xs := h
      rw [Option.map_eq_some_iff] at h'
      obtain ⟨ys, h1, rfl⟩ := h'
      have h2 := seqO_sw (fun p hp => hg p (by simp [hp])) h1
      have h3 := hg p (by simp) x hp
      rw [sw_cons, sw_cons]
      omega
theorem norm_w : ∀ (f : Nat) (neg : Bool) (c y : CT), okC c = true → norm f neg c = some y → y.w ≤ c.w
  | 0, neg, c, y, _, h => by cases h
  | f + 1, neg, c, y, hok, h => by
    have ih := norm_w f
    unfold norm at h
    rcases okC_cases hok with h1 | h1 | h1
    · rw [if_pos h1.1] at h
      cases neg with
      | false =>
        rw [if_neg (by decide)] at h
        injection h with h
        subst h
        exact Nat.le_refl _
      | true =>
        rw [if_pos rfl] at h
        injection h with h
        subst h
        rw [CT.w_def, if_neg (show ¬ (cnot c).k = 1 by show ¬ (4 : Int) = 1; decide), if_pos (show (cnot c).k = 4 from rfl)]
        show (CF.one c .nil).w ≤ _
        exact Nat.le_refl _
    · rw [if_neg (by omega), if_pos h1.1] at h
      have hl := num_toL c.ps
      cases hps : c.ps.toL with
      | nil => rw [hps] at hl; simp only [List.length_nil] at hl; omega
      | cons p r =>
        rw [hps] at h
        simp only at h
        have hp := okB_mem h1.2.2.2.2 p (by rw [hps]; simp)
        have := ih (!neg) p y hp h
        rw [CT.w_def c, if_neg (by omega), if_pos h1.1, w_list, hps, sw_cons]
        omega
    · rw [if_neg (by omega), if_neg (by omega)] at h
      obtain ⟨kind, hkd⟩ : ∃ kind : Int, kind = if neg = true then 5 - c.k else c.k := ⟨_, rfl⟩
      have hk23 : kind = 2 ∨ kind = 3 := by rw [hkd]; cases neg <;> simp <;> omega
      simp only at h
      rw [Option.bind_eq_some_iff] at h
      obtain ⟨xs, hs, h⟩ := h
      rw [← hkd] at h
      have hok' := fun p hp => okB_mem h1.2.2.2.2.2 p hp
      have w1 := seqO_sw (fun p hp x hx => ih neg p x (hok' p hp) hx) hs
      have w2 := sw_flat hk23 xs
      have w3 := sw_fold kind (xs.flatMap fun x => if x.k = kind then x.ps.toL else [x]) []
      have w4 : c.w = sw c.ps.toL + 1 := by rw [CT.w_def, if_neg (by omega), if_neg (by omega), w_list]
      rw [show sw [] = 0 from rfl] at w3
      obtain ⟨R, hR⟩ : ∃ R, R = (xs.flatMap fun x => if x.k = kind then x.ps.toL else [x]).foldl (insC kind) [] := ⟨_, rfl⟩
      rw [← hR] at h w3
      clear hR
      split at h
      · next x =>
        injection h with h
        subst h
        rw [sw_cons] at w3
        omega
      · split at h
        · cases h
        · injection h with h
          subst h
          rw [CT.w_def, if_neg (show ¬ kind = 1 by omega), if_neg (show ¬ kind = 4 by omega)]
          show (CF.ofL R).w + 1 ≤ _
          rw [w_list, toL_ofL2]
          omega
theorem cnt_norm : ∀ F : CF, (∀ p ∈ F.toL, Norm p) → F.cnt ≤ F.w
  | .nil, _ => Nat.le_refl _
  | .cons k v n ps r, h => by
    have hr := cnt_norm r fun p hp => h p (by rw [CF.toL]; exact List.mem_cons_of_mem _ hp)
    have hp := h ⟨k, v, n, ps⟩ (by rw [CF.toL]; exact List.mem_cons_self)
    rw [CF.cnt, CF.w]
    rcases hp.nrm with h1 | ⟨h1, _, _, a, b, h4⟩ | h1
    · have h2 : k = 1 := h1.1
      have h3 : ps = .nil := h1.2
      rw [if_pos h2, h3, CF.cnt]
      omega
    · have h2 : k = 4 := h1
      have h3 : ps = .cons 1 a b .nil .nil := h4
      rw [if_neg (by omega), if_pos h2, h3]
      simp only [CF.cnt, CF.w, if_pos]
      omega
    · have h2 : k = 2 ∨ k = 3 := h1
      rw [if_neg (by omega), if_neg (by omega)]
      have := cnt_norm ps fun p hp' => ((hp.parts h2).2.2.1 p hp').1
      omega
theorem w_cnt : ∀ F : CF, F.w ≤ 2 * F.cnt
  | .nil => Nat.le_refl _
  | .cons k v n ps r => by
    have h1 := w_cnt ps
    have h2 := w_cnt r
    rw [CF.cnt, CF.w]
    split
    · omega
    · split <;> omega
theorem tidy_w {c : CT} (h : (tidy c).2 = 0) : (tidy c).1.ps.cnt + 1 ≤ (tidy c).1.w ∧ (tidy c).1.w ≤ c.w := by
  obtain ⟨h1, h2, _⟩ := tidy_ok h
  have hN := norm_norm 100 false c _ h1 h2
  refine ⟨?_, norm_w 100 false c _ h1 h2⟩
  have := cnt_norm (CF.one (tidy c).1 .nil) fun p hp => by
    obtain rfl : p = (tidy c).1 := by simpa [CF.one, CF.toL] using hp
    exact hN
  have e : (CF.one (tidy c).1 .nil).cnt = (tidy c).1.ps.cnt + 1 + 0 := rfl
  have e2 : (tidy c).1.w = (CF.one (tidy c).1 .nil).w := rfl
  omega
theorem not_w (c : CT) : (cnot c).w = c.w := by
  rw [CT.w_def, if_neg (show ¬ (cnot c).k = 1 by show ¬ (4 : Int) = 1; decide), if_pos (show (cnot c).k = 4 from rfl)]
  rfl
def SF.w : SF → Nat
  | .nil => 0
  | .cons k _ ck cv cn cps th el r => (if k = 1 then 0 else CT.w ⟨ck, cv, cn, cps⟩) + th.w + el.w + r.w
theorem okB_appF : ∀ {l m : SF}, l.okB = true → m.okB = true → (l.appF m).okB = true
  | .nil, m, _, h => h
  | .cons k b ck cv cn cps th el r, m, h, hm => by
    rw [SF.okB, Bool.and_eq_true] at h
    rw [SF.appF, SF.okB, Bool.and_eq_true]
    exact ⟨h.1, okB_appF h.2 hm⟩
theorem app_sizes : ∀ l m : SF, (l.appF m).cntS = l.cntS + m.cntS ∧ (l.appF m).cntC = l.cntC + m.cntC ∧ (l.appF m).dep = max l.dep m.dep ∧ (l.appF m).cdep = max l.cdep m.cdep
  | .nil, m => by simp [SF.appF, SF.cntS, SF.cntC, SF.dep, SF.cdep]
  | .cons k b ck cv cn cps th el r, m => by
    obtain ⟨h1, h2, h3, h4⟩ := app_sizes r m
    rw [SF.appF, SF.cntS, SF.cntC, SF.dep, SF.cdep, SF.cntS, SF.cntC, SF.dep, SF.cdep, h1, h2, h3, h4]
    omega
theorem isZ_nil {k v n : Int} {ps : CF} (h : CT.isZ ⟨k, v, n, ps⟩ = true) : ps = .nil := by
  unfold CT.isZ at h
  rw [Bool.and_eq_true] at h
  have h2 : ps.num = 0 := by simpa using h.2
  cases ps with
  | nil => rfl
  | cons => simp [CF.num] at h2
theorem okS_if {c : CT} {t f r : SF} (hc : okC c = true) (h0 : t.num ≠ 0) (ht : t.okB = true) (hf : f.okB = true) (hr : r.okB = true) : (SF.one 2 0 c t f r).okB = true := by
  unfold SF.one
  rw [SF.okB, if_neg (by decide), if_pos rfl]
  simp only [decide_true, Bool.true_and, Bool.and_eq_true, decide_eq_true_eq]
  exact ⟨⟨⟨⟨hc, Nat.pos_of_ne_zero h0⟩, ht⟩, hf⟩, hr⟩
/-- Flat steps are valid, and not greater. -/
theorem flat_valid : ∀ (l : SF) (kn : List Int) (m : SF), l.okB = true → flat kn l = .ok m → m.okB = true ∧ m.cntS ≤ l.cntS ∧ m.dep ≤ l.dep ∧ m.cdep ≤ 17 ∧ m.cntC ≤ l.w
  | .nil, kn, m, _, h => by
    rw [flat] at h
    injection h with h
    rw [← h]
    exact ⟨rfl, Nat.le_refl _, Nat.le_refl _, by simp [SF.cdep], by simp [SF.cntC]⟩
  | .cons k b ck cv cn cps th el r, kn, m, hok, h => by
    obtain ⟨hc, hr⟩ := okS_cons hok
    rw [SF.cntS, SF.dep, SF.w]
    rcases flat_cases h with ⟨h1, h2, h3⟩ | ⟨h1, h2, m', h3, rfl⟩ | ⟨h1, t, f, h2, h3, h4, h5⟩
    · obtain ⟨g1, g2, g3, g4, g5⟩ := flat_valid r kn m hr h3
      exact ⟨g1, by omega, by omega, g4, by omega⟩
    · obtain ⟨g1, g2, g3, g4, g5⟩ := flat_valid r _ m' hr h3
      rcases hc with hc | hc
      · have hz := hc.2.2.2.1
        have e1 := snum_zero hc.2.2.2.2.1
        have e2 := snum_zero hc.2.2.2.2.2
        have e3 := isZ_nil hz
        subst e1; subst e2; subst e3
        refine ⟨?_, ?_, ?_, ?_, ?_⟩
        · rw [SF.okB, Bool.and_eq_true] at hok ⊢
          exact ⟨hok.1, g1⟩
        · simp only [SF.cntS]; omega
        · simp only [SF.dep]; omega
        · simp only [SF.cdep, CF.dep]; omega
        · rw [SF.cntC, if_pos hz]; simp only [SF.cntC, SF.w]; omega
      · omega
    · rcases hc with hc | ⟨hk2, _, hcc, _, hth, hel⟩
      · exact absurd hc.1 h1
      rw [if_neg h1]
      obtain ⟨i1, i2, i3, i4, i5⟩ := flat_valid th kn t hth h3
      obtain ⟨j1, j2, j3, j4, j5⟩ := flat_valid el kn f hel h4
      have hw := tidy_w h2
      have hz2 := tidy_ok h2
      rcases h5 with ⟨rfl, m', h6, rfl⟩ | ⟨h5, rfl, hd, m', h6, rfl⟩ | ⟨h5, h7, m', h6, rfl⟩
      · obtain ⟨g1, g2, g3, g4, g5⟩ := flat_valid r _ m' hr h6
        obtain ⟨a1, a2, a3, a4⟩ := app_sizes t m'
        rw [a1, a2, a3, a4]
        exact ⟨okB_appF i1 g1, by omega, by omega, by omega, by omega⟩
      · obtain ⟨g1, g2, g3, g4, g5⟩ := flat_valid r _ m' hr h6
        have hwd := tidy_w hd
        rw [not_w] at hwd
        have hzd := tidy_ok hd
        have hdd := tcond_dep hzd.2.2.1
        refine ⟨okS_if (tcond_ok hzd.2.2.1).1 (fun e => h5 (snum_zero e).symm) j1 rfl g1, ?_, ?_, ?_, ?_⟩
        · simp only [SF.one, SF.cntS]; omega
        · simp only [SF.one, SF.dep]; omega
        · simp only [SF.one, SF.cdep]; omega
        · simp only [SF.one, SF.cntC]
          split <;> omega
      · obtain ⟨g1, g2, g3, g4, g5⟩ := flat_valid r _ m' hr h6
        have hdd := tcond_dep hz2.2.2.1
        refine ⟨okS_if (tcond_ok hz2.2.2.1).1 h7 i1 j1 g1, ?_, ?_, ?_, ?_⟩
        · simp only [SF.one, SF.cntS]; omega
        · simp only [SF.one, SF.dep]; omega
        · simp only [SF.one, SF.cdep]; omega
        · simp only [SF.one, SF.cntC]
          split <;> omega
end Go.Proofs.YticpjdjdimpglaaGreatDoor
/- A region that draws its order, with calls in it that lay blocks. -/
namespace Go.Proofs.YticpjdjdimpglaaGreatDoor
set_option linter.unusedVariables false
set_option linter.unusedSimpArgs false
open Go.RowKit
theorem mixF : Tryz.prog.follows .mixedOrders = true := by kernel_rfl
/-- A world that differs from w in new blocks alone: for a region that draws, with a call in it that lays blocks. -/
structure BelowBy (w : World) where
  w' : World
  h : Below w.heap.size w w'
instance (w : World) : Inhabited (BelowBy w) := ⟨⟨w, Below.refl _ _⟩⟩
theorem wp_region_below {P : Program} {id : Nat} {Q : Exit → Act → World → Prop} {a : Act} {w : World} {l : List Oper} (hm : P.follows .mixedOrders = true) (hB : Region.lexB .any l.toArray = true)
    (h : wpQuiet P l.toArray (fun w' => ∃ p : BelowBy w, w' = p.w') (fun a' => ∀ w', (∃ p : BelowBy w, w' = p.w') → Q .normal a' w') l a) : (Code.region id l.toArray true).wp P Q a w :=
  wp_region_quiet (C := fun w' => ∃ p : BelowBy w, w' = p.w') hm hB ⟨⟨{ w with drawn := w.drawn + 1 }, ⟨rfl, rfl, rfl, Nat.le_refl _, fun _ _ => rfl⟩⟩, rfl⟩ (by simpa using h)
theorem cell_by {w : World} {b i : Nat} {v : Value} (hb : b < w.heap.size) (h : w.cell? ⟨b, i, none⟩ = some v) (p : BelowBy w) : p.w'.cell? ⟨b, i, none⟩ = some v := (p.h.cell (p := ⟨b, i, none⟩) hb).trans h
/-- A contract of a call that makes memory, as such a region wants it. -/
theorem calls_by {P : Program} {f : FuncId} {args : Array Value} {e : Ending} {w : World} (h : ∀ W, Below w.heap.size w W → Calls P f args W fun e' w' => e' = e ∧ Below W.heap.size W w') (p : BelowBy w) : Calls P f args p.w' fun e' w' => e' = e ∧ ∃ q : BelowBy w, w' = q.w' :=
  (h p.w' p.h).mono fun _ w' ⟨he, hb⟩ => ⟨he, ⟨w', p.h.trans (hb.mono p.h.size)⟩, rfl⟩
end Go.Proofs.YticpjdjdimpglaaGreatDoor
/- format.Tidy by its contract. -/
namespace Go.Proofs.YticpjdjdimpglaaGreatDoor
set_option linter.unusedVariables false
set_option linter.unusedSimpArgs false
open Go.RowKit
theorem norm_cnt {f : Nat} {neg : Bool} {c y : CT} (hok : okC c = true) (h : norm f neg c = some y) : y.ps.cnt ≤ 2 * c.ps.cnt + 2 := by
  have h1 := norm_w f neg c y hok h
  have h2 := norm_norm f neg c y hok h
  have h3 := cnt_norm (CF.one y .nil) (fun p hp => by
    have : p = y := by
      obtain ⟨k, v, n, ps⟩ := y
      simpa [CF.one, CF.toL] using hp
    rw [this]
    exact h2)
  have h4 := w_cnt (CF.one c .nil)
  rw [w_one] at h3 h4
  have h5 : (CF.one y .nil).cnt = y.ps.cnt + 1 := by simp [CF.one, CF.cnt]
  have h6 : (CF.one c .nil).cnt = c.ps.cnt + 1 := by simp [CF.one, CF.cnt]
  have h7 : (CF.nil).w = 0 := rfl
  omega
/-- What Tidy answers. -/
def TPost (S : Nat → Prop) (w : World) (r : CT × Int) (e : Ending) (w' : World) : Prop :=
  Below w.heap.size w w' ∧ ∃ A m d, e = .returned (.tuple #[cV r.1 A m d, .int .i64 r.2]) ∧ RepH S w' r.1.ps A m d
set_option maxHeartbeats 4000000 in
set_option maxRecDepth 100000 in
theorem tidy_any {S : Nat → Prop} {w : World} {c : CT} {A : Option Addr} {m d : Nat} (hS : ∀ k, S k → k < w.heap.size) (h : RepH S w c.ps A m d) (hz : c.ps.cnt ≤ 999999) :
    Calls Tryz.prog 20 #[cV c A m d] w (TPost S w (tidy c)) := by
  have hmf := mixF
  have HS := Lib.hid hS
  have HR := Lib.hid h
  have HT := Lib.hid (fun W (hW : Below w.heap.size w W) => tcond_any S c A m d W (h.below hW) hz)
  have HTD := Lib.hid (show tidy c = if tcond c ≠ 0 then (.zero, tcond c) else match norm 100 false c with
    | none => (.zero, 2)
    | some y => if tcond y = 0 then (y, 0) else (.zero, 2) from rfl)
  have HZ := Lib.hid hz
  clear hS h hz
  generalize hr : tidy c = r at HTD ⊢
  have HI := Lib.hid (fun S' W c' A' m' d' hS' hok hd hr' => normal_any 100 S' W c' A' m' d' false hS' hok hd hr')
  clear hr
  unfold cV at HI HT ⊢
  dsimp only [vi] at HI HT ⊢
  go_enter_defers Tryz.func20, Tryz.ntmps20
  go_wp2_with (fail)
  have hb0 : Below w.heap.size w (((w.alloc (.cells #[.int .i64 c.k, .int .i64 c.v, .int .i64 c.n, .slice A m d] 24)).alloc (.cells #[.int .i64 0, .int .i64 0, .int .i64 0, .slice none 0 0] 24)).alloc (.cells #[.int .i64 0] 32)) := (((Below.refl _ _).alloc (Nat.le_refl _) _).alloc (by simp) _).alloc (by simp; omega) _
  have hc0 : Blk (((w.alloc (.cells #[.int .i64 c.k, .int .i64 c.v, .int .i64 c.n, .slice A m d] 24)).alloc (.cells #[.int .i64 0, .int .i64 0, .int .i64 0, .slice none 0 0] 24)).alloc (.cells #[.int .i64 0] 32)) w.heap.size 24 #[.int .i64 c.k, .int .i64 c.v, .int .i64 c.n, .slice A m d] := ((Blk.new w _ _).alloc _).alloc _
  have hp0 : Blk (((w.alloc (.cells #[.int .i64 c.k, .int .i64 c.v, .int .i64 c.n, .slice A m d] 24)).alloc (.cells #[.int .i64 0, .int .i64 0, .int .i64 0, .slice none 0 0] 24)).alloc (.cells #[.int .i64 0] 32)) (w.heap.size + 1) 24 #[.int .i64 0, .int .i64 0, .int .i64 0, .slice none 0 0] := by
    rw [← World.size_alloc w]
    exact (Blk.new _ _ _).alloc _
  have hq0 : Blk (((w.alloc (.cells #[.int .i64 c.k, .int .i64 c.v, .int .i64 c.n, .slice A m d] 24)).alloc (.cells #[.int .i64 0, .int .i64 0, .int .i64 0, .slice none 0 0] 24)).alloc (.cells #[.int .i64 0] 32)) (w.heap.size + 1 + 1) 32 #[.int .i64 0] := Blk.at_end (by simp [World.size_alloc])
  refine (HT.out _ hb0).mono ?_
  generalize ((w.alloc (.cells #[.int .i64 c.k, .int .i64 c.v, .int .i64 c.n, .slice A m d] 24)).alloc (.cells #[.int .i64 0, .int .i64 0, .int .i64 0, .slice none 0 0] 24)).alloc (.cells #[.int .i64 0] 32) = w0 at hb0 hc0 hp0 hq0 ⊢
  rintro e w1 ⟨rfl, hb1⟩
  have HB1 := Lib.hid (hb0.trans (hb1.mono hb0.size))
  have HC1 := Lib.hid (hc0.below hb1 hc0.lt)
  have HP1 := Lib.hid (hp0.below hb1 hp0.lt)
  have HQ1 := Lib.hid (hq0.below hb1 hq0.lt)
  clear hb0 hc0 hp0 hq0 hb1
  have c0 := HC1.out.cell 0
  have c1 := HC1.out.cell 1
  have c2 := HC1.out.cell 2
  have c3 := HC1.out.cell 3
  have x0 := HP1.out.cell 0
  have x1 := HP1.out.cell 1
  have x2 := HP1.out.cell 2
  have x3 := HP1.out.cell 3
  have f0 := HP1.out.frozen 0
  have f1 := HP1.out.frozen 1
  have f2 := HP1.out.frozen 2
  have f3 := HP1.out.frozen 3
  have q0 := HQ1.out.cell 0
  have g0 := HQ1.out.frozen 0
  have cl := HC1.out.lt
  have pl := HP1.out.lt
  have ql := HQ1.out.lt
  have hne : w.heap.size + 1 ≠ w.heap.size + 1 + 1 := by omega
  by_cases hc : tcond c = 0
  · have HTC := Lib.hid hc
    have HTD2 := Lib.hid (HTD.out.trans (if_neg (Classical.not_not.2 hc)))
    rw [hc]
    have HOK := Lib.hid (tcond_zero hc)
    clear hc HTD
    go_wp2_with (fail)
    have HP2 := Lib.hid (HP1.out.off2 (i := 0) (v := .int .i64 0) hne)
    have HQ2 := Lib.hid (HQ1.out.set 0 (.int .i64 0))
    have HB2 := Lib.hid (HB1.out.setCell (p := ⟨w.heap.size + 1 + 1, 0, none⟩) (by simp; omega) (.int .i64 0))
    generalize w1.setCell ⟨w.heap.size + 1 + 1, 0, none⟩ (.int .i64 0) = w2 at HP2 HQ2 HB2 ⊢
    clear c0 c1 c2 c3 x0 x1 x2 x3 f0 f1 f2 f3 q0 g0 cl pl ql
    have hpl := HP2.out.lt
    have hql := HQ2.out.lt
    refine (HI.out (fun k => S k ∨ k = w.heap.size + 1 ∨ k = w.heap.size + 1 + 1) w2 c A m d (fun k hk => by
      rcases hk with hk | rfl | rfl
      · exact Nat.lt_of_lt_of_le (HS.out k hk) HB2.out.size
      · exact hpl
      · exact hql) HOK.out.2.2 (by
        have h1 := HOK.out.2.1
        have h2 : (CF.one c .nil).dep = max (c.ps.dep + 1) 0 := rfl
        omega) ((HR.out.new.below HB2.out).sub fun k hk => by
      rcases hk with hk | rfl | rfl
      · exact .inl hk
      · exact .inr (by omega)
      · exact .inr (by omega))).mono ?_
    rintro e w3 ⟨hb3, hp⟩
    have HB3 := Lib.hid (HB2.out.trans (hb3.mono HB2.out.size))
    have HP3 := Lib.hid (HP2.out.below hb3 hpl)
    have HQ3 := Lib.hid (HQ2.out.below hb3 hql)
    have hz3 := hb3.size
    clear hb3
    cases hy : norm 100 false c with
    | none =>
      rw [hy] at hp
      obtain rfl := hp
      have HRR := Lib.hid (show r = (.zero, 2) by rw [HTD2.out, hy])
      clear HTD2 hy
      refine leaves_cons (f := 63) (args := #[.pointer (some ⟨w.heap.size + 1, 0, none⟩), .pointer (some ⟨w.heap.size + 1 + 1, 0, none⟩)]) (by simp) (by simp [go_sem]) ?_
      refine (tcatch_panicking (w.heap.size + 1) (w.heap.size + 1 + 1) [] _ _ _ _ _ w3 HP3.out HQ3.out hne).mono ?_
      rintro e u' w4 ⟨rfl, rfl, hp4, hq4, hO4⟩
      have y0 : w4.cell? ⟨w.heap.size + 1, 0, none⟩ = some (.int .i64 0) := hp4.cell 0
      have y1 : w4.cell? ⟨w.heap.size + 1, 1, none⟩ = some (.int .i64 0) := hp4.cell 1
      have y2 : w4.cell? ⟨w.heap.size + 1, 2, none⟩ = some (.int .i64 0) := hp4.cell 2
      have y3 : w4.cell? ⟨w.heap.size + 1, 3, none⟩ = some (.slice none 0 0) := hp4.cell 3
      have yq : w4.cell? ⟨w.heap.size + 1 + 1, 0, none⟩ = some (.int .i64 2) := hq4.cell 0
      refine ⟨.tuple #[.agg #[.int .i64 0, .int .i64 0, .int .i64 0, .slice none 0 0], .int .i64 2], by simp [results, Tryz.results20, go_sem, y0, y1, y2, y3, yq]; try rfl, hO4.below HB3.out HB3.out.size (fun q hq => by omega), ?_⟩
      rw [HRR.out]
      exact ⟨none, 0, 0, rfl, RepH.nil⟩
    | some y =>
      rw [hy] at hp
      obtain ⟨A2, m2, d2, rfl, hr2⟩ := hp
      have HR2 := Lib.hid hr2
      have HCN := Lib.hid (norm_cnt HOK.out.2.2 hy)
      have HTD3 := Lib.hid (show r = if tcond y = 0 then (y, 0) else (.zero, 2) by rw [HTD2.out, hy])
      clear HTD2 hy hr2
      unfold cV
      dsimp only [vi]
      go_wp2_with (fail)
      have hb4 : Below w3.heap.size w3 (w3.alloc (.cells #[.int .i64 y.k, .int .i64 y.v, .int .i64 y.n, .slice A2 m2 d2] 24)) := (Below.refl _ _).alloc (Nat.le_refl _) _
      have hy4 : Blk (w3.alloc (.cells #[.int .i64 y.k, .int .i64 y.v, .int .i64 y.n, .slice A2 m2 d2] 24)) w3.heap.size 24 #[.int .i64 y.k, .int .i64 y.v, .int .i64 y.n, .slice A2 m2 d2] := Blk.new _ _ _
      generalize w3.alloc (.cells #[.int .i64 y.k, .int .i64 y.v, .int .i64 y.n, .slice A2 m2 d2] 24) = w4 at hb4 hy4 ⊢
      have HR4 := Lib.hid (HR2.out.below hb4)
      have hc5 := (CF.one c .nil).cnt
      refine (tcond_any (fun k => S k ∨ k = w.heap.size + 1 ∨ k = w.heap.size + 1 + 1) y A2 m2 d2 w4 HR4.out (by
        have h1 := HOK.out.1
        have h2 : (CF.one c .nil).cnt = c.ps.cnt + 1 + 0 := rfl
        have := HCN.out
        omega)).mono ?_
      rintro e w5 ⟨rfl, hb5⟩
      have hb35 := hb4.trans (hb5.mono hb4.size)
      have HB5 := Lib.hid (HB3.out.trans (hb35.mono HB3.out.size))
      have HP5 := Lib.hid (HP3.out.below hb35 HP3.out.lt)
      have HQ5 := Lib.hid (HQ3.out.below hb35 HQ3.out.lt)
      have HY5 := Lib.hid (hy4.below hb5 hy4.lt)
      have HR5 := Lib.hid (HR4.out.below hb5)
      have hyl := HY5.out.lt
      clear hb4 hy4 hb5 hb35 hc5
      have x0 := HP5.out.cell 0
      have x1 := HP5.out.cell 1
      have x2 := HP5.out.cell 2
      have x3 := HP5.out.cell 3
      have f0 := HP5.out.frozen 0
      have f1 := HP5.out.frozen 1
      have f2 := HP5.out.frozen 2
      have f3 := HP5.out.frozen 3
      have q0 := HQ5.out.cell 0
      have g0 := HQ5.out.frozen 0
      have v0 := HY5.out.cell 0
      have v1 := HY5.out.cell 1
      have v2 := HY5.out.cell 2
      have v3 := HY5.out.cell 3
      have pl5 := HP5.out.lt
      have ql5 := HQ5.out.lt
      by_cases hty : tcond y = 0
      · have HRR := Lib.hid (show r = (y, 0) by rw [HTD3.out, if_pos hty])
        rw [hty]
        clear HTD3 hty
        go_wp2_with (fail)
        refine bodyD_named2 ?_
        intro W hW
        have HS5 := HP5.out.set4 (y0 := .int .i64 y.k) (y1 := .int .i64 y.v) (y2 := .int .i64 y.n) (y3 := .slice A2 m2 d2)
        have hp2 : Blk W (w.heap.size + 1) 24 #[.int .i64 y.k, .int .i64 y.v, .int .i64 y.n, .slice A2 m2 d2] := by rw [← hW]; exact HS5.1.off2 hne
        have hq2 : Blk W (w.heap.size + 1 + 1) 32 #[.int .i64 0] := by rw [← hW]; exact ((((HQ5.out.off2 hne.symm).off2 hne.symm).off2 hne.symm).off2 hne.symm).set 0 (.int .i64 0)
        have hO2 : Only (fun k => k = w.heap.size + 1 ∨ k = w.heap.size + 1 + 1) w5 W := by rw [← hW]; exact (((only_p2.trans only_p2).trans only_p2).trans only_p2).trans only_q2
        clear hW x0 x1 x2 x3 f0 f1 f2 f3 q0 g0 HS5
        refine leaves_cons (f := 63) (args := #[.pointer (some ⟨w.heap.size + 1, 0, none⟩), .pointer (some ⟨w.heap.size + 1 + 1, 0, none⟩)]) (by simp) (by simp [go_sem]) ?_
        refine (tcatch_idle (w.heap.size + 1) (w.heap.size + 1 + 1) W).mono ?_
        rintro e u' w6 ⟨rfl, rfl, rfl⟩
        have y0 := hp2.cell 0
        have y1 := hp2.cell 1
        have y2 := hp2.cell 2
        have y3 := hp2.cell 3
        have yq := hq2.cell 0
        refine ⟨.tuple #[.agg #[.int .i64 y.k, .int .i64 y.v, .int .i64 y.n, .slice A2 m2 d2], .int .i64 0], by simp [results, Tryz.results20, go_sem, y0, y1, y2, y3, yq]; try rfl, hO2.below HB5.out HB5.out.size (fun q hq => by omega), ?_⟩
        rw [HRR.out]
        exact ⟨A2, m2, d2, rfl, (HR5.out.only hO2 (fun k hk => .inr hk)).sub fun k hk => .inl hk⟩
      · have HRR := Lib.hid (show r = (.zero, 2) by rw [HTD3.out, if_neg hty])
        have hcb : (tcond y != 0) = true := bne_iff_ne.2 hty
        generalize tcond y = ty at hcb ⊢
        clear HTD3 hty
        go_wp2_with (fail)
        refine bodyD_named2 ?_
        intro W hW
        have HS5 := HP5.out.set4 (y0 := .int .i64 0) (y1 := .int .i64 0) (y2 := .int .i64 0) (y3 := .slice none 0 0)
        have hp2 : Blk W (w.heap.size + 1) 24 #[.int .i64 0, .int .i64 0, .int .i64 0, .slice none 0 0] := by rw [← hW]; exact HS5.1.off2 hne
        have hq2 : Blk W (w.heap.size + 1 + 1) 32 #[.int .i64 2] := by rw [← hW]; exact ((((HQ5.out.off2 hne.symm).off2 hne.symm).off2 hne.symm).off2 hne.symm).set 0 (.int .i64 2)
        have hO2 : Only (fun k => k = w.heap.size + 1 ∨ k = w.heap.size + 1 + 1) w5 W := by rw [← hW]; exact (((only_p2.trans only_p2).trans only_p2).trans only_p2).trans only_q2
        clear hW x0 x1 x2 x3 f0 f1 f2 f3 q0 g0 HS5
        refine leaves_cons (f := 63) (args := #[.pointer (some ⟨w.heap.size + 1, 0, none⟩), .pointer (some ⟨w.heap.size + 1 + 1, 0, none⟩)]) (by simp) (by simp [go_sem]) ?_
        refine (tcatch_idle (w.heap.size + 1) (w.heap.size + 1 + 1) W).mono ?_
        rintro e u' w6 ⟨rfl, rfl, rfl⟩
        have y0 := hp2.cell 0
        have y1 := hp2.cell 1
        have y2 := hp2.cell 2
        have y3 := hp2.cell 3
        have yq := hq2.cell 0
        refine ⟨.tuple #[.agg #[.int .i64 0, .int .i64 0, .int .i64 0, .slice none 0 0], .int .i64 2], by simp [results, Tryz.results20, go_sem, y0, y1, y2, y3, yq]; try rfl, hO2.below HB5.out HB5.out.size (fun q hq => by omega), ?_⟩
        rw [HRR.out]
        exact ⟨none, 0, 0, rfl, RepH.nil⟩
  · have HTD2 := Lib.hid (HTD.out.trans (if_pos hc))
    have hcb : (tcond c != 0) = true := bne_iff_ne.2 hc
    generalize tcond c = tc at hcb HTD2 ⊢
    clear hc HTD
    go_wp2_with (fail)
    have HP2 := Lib.hid (HP1.out.off2 (i := 0) (v := .int .i64 tc) hne)
    have HQ2 := Lib.hid (HQ1.out.set 0 (.int .i64 tc))
    have HB2 := Lib.hid (HB1.out.setCell (p := ⟨w.heap.size + 1 + 1, 0, none⟩) (by simp; omega) (.int .i64 tc))
    generalize w1.setCell ⟨w.heap.size + 1 + 1, 0, none⟩ (.int .i64 tc) = w2 at HP2 HQ2 HB2 ⊢
    clear c0 c1 c2 c3 x0 x1 x2 x3 f0 f1 f2 f3 q0 g0 cl pl ql
    have x0 := HP2.out.cell 0
    have x1 := HP2.out.cell 1
    have x2 := HP2.out.cell 2
    have x3 := HP2.out.cell 3
    have f0 := HP2.out.frozen 0
    have f1 := HP2.out.frozen 1
    have f2 := HP2.out.frozen 2
    have f3 := HP2.out.frozen 3
    have q0 : w2.cell? ⟨w.heap.size + 1 + 1, 0, none⟩ = some (.int .i64 tc) := HQ2.out.cell 0
    have g0 := HQ2.out.frozen 0
    go_region
    have HS4 := Lib.hid (HP2.out.set4 (y0 := .int .i64 0) (y1 := .int .i64 0) (y2 := .int .i64 0) (y3 := .slice none 0 0))
    have hq4 := ((((HQ2.out.off2 (i := 0) (v := .int .i64 0) hne.symm).off2 (i := 1) (v := .int .i64 0) hne.symm).off2 (i := 2) (v := .int .i64 0) hne.symm).off2 (i := 3) (v := .slice none 0 0) hne.symm).set 0 (.int .i64 tc)
    have hp4 := HS4.out.1.off2 (i := 0) (v := .int .i64 tc) hne
    have hb4 : Below w.heap.size w _ := (HS4.out.2.below HB2.out HB2.out.size (fun q hq => by rw [show q = w.heap.size + 1 from hq]; omega)).setCell (p := ⟨w.heap.size + 1 + 1, 0, none⟩) (by simp; omega) (.int .i64 tc)
    generalize (((((w2.setCell ⟨w.heap.size + 1, 0, none⟩ (.int .i64 0)).setCell ⟨w.heap.size + 1, 1, none⟩ (.int .i64 0)).setCell ⟨w.heap.size + 1, 2, none⟩ (.int .i64 0)).setCell ⟨w.heap.size + 1, 3, none⟩ (.slice none 0 0)).setCell ⟨w.heap.size + 1 + 1, 0, none⟩ (.int .i64 tc)) = w4 at hq4 hp4 hb4 ⊢
    have y0 : w4.drew.cell? ⟨w.heap.size + 1, 0, none⟩ = some (.int .i64 0) := hp4.cell 0
    have y1 : w4.drew.cell? ⟨w.heap.size + 1, 1, none⟩ = some (.int .i64 0) := hp4.cell 1
    have y2 : w4.drew.cell? ⟨w.heap.size + 1, 2, none⟩ = some (.int .i64 0) := hp4.cell 2
    have y3 : w4.drew.cell? ⟨w.heap.size + 1, 3, none⟩ = some (.slice none 0 0) := hp4.cell 3
    have yq : w4.drew.cell? ⟨w.heap.size + 1 + 1, 0, none⟩ = some (.int .i64 tc) := hq4.cell 0
    clear x0 x1 x2 x3 f0 f1 f2 f3 q0 g0
    go_wp2_with (fail)
    refine ⟨.tuple #[.agg #[.int .i64 0, .int .i64 0, .int .i64 0, .slice none 0 0], .int .i64 tc], by simp [results, Tryz.results20, go_sem, y0, y1, y2, y3, yq]; try rfl, hb4.drew, ?_⟩
    rw [HTD2.out]
    exact ⟨none, 0, 0, rfl, RepH.nil⟩
end Go.Proofs.YticpjdjdimpglaaGreatDoor
/- What flat keeps: its row of steps; append that keeps apart. -/
namespace Go.Proofs.YticpjdjdimpglaaGreatDoor
set_option linter.unusedVariables false
set_option linter.unusedSimpArgs false
open Go.RowKit
theorem elemStep2 : Elem Tryz.prog 25 56 8 112 := Elem.mk' Tryz.underlying25 (z := .agg #[.int .i64 0, .int .i64 0, .int .i64 0, .int .i64 0, .int .i64 0, .slice none 0 0, .slice none 0 0, .slice none 0 0]) (by kernel_rfl) rfl (by omega)
theorem RepS.one' {S : Nat → Prop} {w : World} : ∀ {F : SF} {xs : List Value}, RepS S w F xs → ∀ u ∈ xs, u.oneCell' = true
  | .nil, xs, h, u, hu => by rw [show xs = [] from h] at hu; cases hu
  | .cons .., _, h, u, hu => by
    obtain ⟨A, m, c, A1, m1, c1, A2, m2, c2, zs, rfl, _, _, _, h4⟩ := h
    rcases List.mem_cons.1 hu with rfl | hu
    · rfl
    rcases List.mem_cons.1 hu with rfl | hu
    · rfl
    rcases List.mem_cons.1 hu with rfl | hu
    · rfl
    rcases List.mem_cons.1 hu with rfl | hu
    · rfl
    rcases List.mem_cons.1 hu with rfl | hu
    · rfl
    rcases List.mem_cons.1 hu with rfl | hu
    · rfl
    rcases List.mem_cons.1 hu with rfl | hu
    · rfl
    rcases List.mem_cons.1 hu with rfl | hu
    · rfl
    exact RepS.one' h4 u hu
theorem RepS.st {S : Nat → Prop} {w : World} {x : ST} {A A1 A2 : Option Addr} {m c m1 c1 m2 c2 : Nat} (h1 : RepH S w x.c.ps A m c) (h2 : RepT S w x.th A1 m1 c1) (h3 : RepT S w x.el A2 m2 c2) :
    RepS S w x.one [vi x.k, vi x.b, vi x.c.k, vi x.c.v, vi x.c.n, .slice A m c, .slice A1 m1 c1, .slice A2 m2 c2] := ⟨A, m, c, A1, m1, c1, A2, m2, c2, [], rfl, h1, h2, h3, rfl⟩
/-- The row that flat makes. -/
structure SSt (S : Nat → Prop) (w0 wr : World) (G : SF) (A : Option Addr) (n c : Nat) : Prop where
  len : n = G.len
  base : w0.heap.size ≤ wr.heap.size
  row : ∃ xs, wr.ownsRow w0.heap.size 56 8 (.slice A n c) n xs ∧ RepS (fun k => S k ∨ (Value.slice A n c).ownBlock = some k) wr G xs
section
variable {S : Nat → Prop} {w0 wr W w1 : World} {G : SF} {A A2 : Option Addr} {n c m cc : Nat}
theorem SSt.zero (hb : w0.heap.size ≤ wr.heap.size) : SSt S w0 wr .nil none 0 0 := ⟨rfl, hb, [], World.ownsRow_nil _ _ _ _, rfl⟩
theorem SSt.below (h : SSt S w0 wr G A n c) (hb : Below wr.heap.size wr W) : SSt S w0 W G A n c := by
  obtain ⟨xs, h1, h2⟩ := h.row
  exact ⟨h.len, Nat.le_trans h.base hb.size, xs, own_below_all h1 hb, h2.only (Only.of_below (S := fun _ => False) hb) (fun _ h => h.elim)⟩
/-- A block that is no row of steps may turn. -/
theorem SSt.only {S' : Nat → Prop} (h : SSt S w0 wr G A n c) (ho : Only S' wr W) (hs : ∀ k, S' k → S k) (hn : ∀ k, (Value.slice A n c).ownBlock = some k → ¬ S' k) : SSt S w0 W G A n c := by
  obtain ⟨xs, h1, h2⟩ := h.row
  exact ⟨h.len, Nat.le_trans h.base ho.size, xs, own_only h1 ho hn, h2.only ho (fun k hk => .inl (hs k hk))⟩
theorem SSt.push (h : SSt S w0 W G A n c) {M : SF} {xs news : List Value} (h2 : RepS (fun k => S k ∨ (Value.slice A n c).ownBlock = some k) W G xs)
    (hn : RepS (fun k => S k ∨ (Value.slice A n c).ownBlock = some k) W M news) (hm : m = n + M.len)
    (hg : W.grownBy w1 (Value.slice A n c).ownBlock) (hown : w1.ownsRow w0.heap.size 56 8 (.slice A2 m cc) m (xs ++ news))
    (hap : ∀ k, (Value.slice A2 m cc).ownBlock = some k → (Value.slice A n c).ownBlock = some k ∨ W.heap.size ≤ k) : SSt S w0 w1 (G.appF M) A2 m cc := by
  have ho : Only (fun k => (Value.slice A n c).ownBlock = some k) W w1 := Only.of_grown hg (fun k hk => hk)
  refine ⟨by rw [appF_len, hm, h.len], Nat.le_trans h.base ho.size, xs ++ news, hown, ?_⟩
  rw [appF_app]
  have hrep := RepS.app h2 hn
  have hr2 := (hrep.new).only ho (fun k hk => .inl (.inr hk))
  refine hr2.sub fun k hk => ?_
  rcases hk with hk | hk
  · exact .inl (.inl hk)
  · rcases hap k hk with e | e
    · exact .inl (.inr e)
    · exact .inr e
/-- The row of steps. -/
theorem SSt.rep (h : SSt S w0 wr G A n c) (hS : ∀ k, S k → k < w0.heap.size) : RepT S wr G A n c := by
  obtain ⟨xs, h1, h2⟩ := h.row
  refine ⟨xs, own_rd h1, fun hn p hp hs => ?_, h2.sub fun k hk => .inl hk⟩
  rcases h1.2 with ⟨e1, _⟩ | ⟨g', cap', cur, e1, hbg, _⟩
  · injection e1 with e1 e2
    omega
  · injection e1 with e1
    rw [e1] at hp
    injection hp with hp
    have := hS _ hs
    rw [← hp] at this
    simp only at this
    omega
theorem SSt.own_lt (h : SSt S w0 wr G A n c) : ∀ k, (Value.slice A n c).ownBlock = some k → w0.heap.size ≤ k ∧ k < wr.heap.size := by
  obtain ⟨xs, h1, h2⟩ := h.row
  exact h1.lt
end
end Go.Proofs.YticpjdjdimpglaaGreatDoor
/- Laws over any program: a map from int to bool whose elements are all true, as the list of its keys: look-up, store, range. -/
namespace Go.Proofs.YticpjdjdimpglaaGreatDoor
set_option linter.unusedVariables false
set_option linter.unusedSimpArgs false
open Go.RowKit Go.Maps
theorem plainElem_bool_inv {H : Type} {P : Program} {e : TypeId} (he : P.underlying e = some .bool) {v : Value} {z : DataW H × List MemPlace} (h : plainElem P e v = some z) : ∃ a, v = .bool a ∧ z = (.lit (.bool a), []) := by
  unfold plainElem at h
  rw [he] at h
  cases v <;> simp at h
  exact ⟨_, rfl, h.symm⟩
/-- Block b is a map of at most n entries, all true, whose keys are those of the list. -/
def MK (P : Program) (k e : TypeId) (w : World) (b n : Nat) (kn : List Int) : Prop :=
  ∃ D : DataW Unit, w.ownsMap P k (plainElem P e) b n D ∧ (∀ kl, Maps.has D kl = true ↔ ∃ x ∈ kn, kl = .int .i64 x) ∧ ∀ kl z, Maps.has D kl = true → D.atKey kl z = .lit (.bool true)
section
variable {P : Program} {k e t : TypeId} {w : World} {b n : Nat} {kn : List Int}
theorem MK.lt (h : MK P k e w b n kn) : b < w.heap.size := h.choose_spec.1.lt
theorem MK.mono (h : MK P k e w b n kn) {n' : Nat} (hn : n ≤ n') : MK P k e w b n' kn := by
  obtain ⟨D, h1, h2⟩ := h
  exact ⟨D, h1.mono hn, h2⟩
theorem MK.kept {w' : World} {row : Option Nat} (h : MK P k e w b n kn) (hg : w.grownBy w' row) (hne : some b ≠ row) : MK P k e w' b n kn := by
  obtain ⟨D, h1, h2⟩ := h
  exact ⟨D, h1.kept hg hne, h2⟩
theorem MK.same (h : MK P k e w b n kn) {kn' : List Int} (hs : ∀ x, x ∈ kn ↔ x ∈ kn') : MK P k e w b n kn' := by
  obtain ⟨D, h1, h2, h3⟩ := h
  refine ⟨D, h1, fun kl => ?_, h3⟩
  rw [h2 kl]
  exact ⟨fun ⟨x, h, e⟩ => ⟨x, (hs x).1 h, e⟩, fun ⟨x, h, e⟩ => ⟨x, (hs x).2 h, e⟩⟩
theorem MK.block {w' : World} (h : MK P k e w b n kn) (hb : w'.heap[b]? = w.heap[b]?) : MK P k e w' b n kn := by
  obtain ⟨D, ⟨es, clock, h0, h1⟩, h2⟩ := h
  exact ⟨D, ⟨es, clock, hb.trans h0, h1⟩, h2⟩
theorem MK.made (w : World) : MK P k e (w.alloc (.map #[] 0)) w.heap.size 0 [] :=
  ⟨.map [], World.ownsMap_made _ _ _ _, fun kl => ⟨fun h => by simp [Maps.has] at h, fun ⟨x, h, _⟩ => by cases h⟩, fun kl z h => by simp [Maps.has] at h⟩
theorem key_lit {x : Int} : WideAt.IsKeyLit (.int .i64 x) := trivial
theorem MK.look (K : Keyed P k) (ht : P.underlying t = some (.map k e)) (he : P.underlying e = some .bool) (hz : (zeroValue e).run P w = .ok (.bool false) w) (h : MK P k e w b n kn) {x : Int} (hkey : keyOf P k (.int .i64 x) = some (.int .i64 x)) :
    (Instr.lookup t (.map (some b)) (.int .i64 x) false).run P w = .ok (.bool (kn.contains x)) w := by
  obtain ⟨D, h1, h2, h3⟩ := h
  obtain ⟨v, ps, hrun, hv⟩ := h1.lookup K ht hz (plainElem_bool he false) hkey
  obtain ⟨c, rfl, hc⟩ := plainElem_bool_inv he hv
  rw [hrun]
  have h4 : Maps.has D (.int .i64 x) = kn.contains x := by
    rw [Bool.eq_iff_iff, h2, List.contains_iff_mem]
    exact ⟨fun ⟨y, h, e⟩ => by injection e with _ e; exact e ▸ h, fun h => ⟨x, h, rfl⟩⟩
  have hc' : D.atKey (.int .i64 x) (.lit (.bool false)) = .lit (.bool c) := congrArg Prod.fst hc
  cases hk : kn.contains x
  · rw [hk] at h4
    rw [atKey_of_not_has h4] at hc'
    injection hc' with hc'
    injection hc' with hc'
    rw [← hc']
  · rw [hk] at h4
    rw [h3 _ _ h4] at hc'
    injection hc' with hc'
    injection hc' with hc'
    rw [← hc']
theorem put_keys {D : DataW Unit} {kn : List Int} (hm : IsMap D) (h : ∀ kl, Maps.has D kl = true ↔ ∃ x ∈ kn, kl = .int .i64 x) (h3 : ∀ kl z, Maps.has D kl = true → D.atKey kl z = .lit (.bool true)) (x : Int) :
    (∀ kl, Maps.has (D.put (.int .i64 x) (.lit (.bool true))) kl = true ↔ ∃ y ∈ x :: kn, kl = .int .i64 y) ∧ ∀ kl z, Maps.has (D.put (.int .i64 x) (.lit (.bool true))) kl = true → (D.put (.int .i64 x) (.lit (.bool true))).atKey kl z = .lit (.bool true) := by
  refine ⟨fun kl => ?_, fun kl z hh => ?_⟩
  · by_cases he : kl = .int .i64 x
    · subst he
      rw [has_put_same hm key_lit]
      exact ⟨fun _ => ⟨x, by simp, rfl⟩, fun _ => rfl⟩
    · rw [has_put_other he, h kl]
      exact ⟨fun ⟨y, h1, h2⟩ => ⟨y, List.mem_cons_of_mem _ h1, h2⟩, fun ⟨y, h1, h2⟩ => by
        rcases List.mem_cons.1 h1 with rfl | h1
        · exact absurd h2 he
        · exact ⟨y, h1, h2⟩⟩
  · by_cases he : kl = .int .i64 x
    · subst he
      exact atKey_put_same hm key_lit _ _
    · rw [has_put_other he] at hh
      rw [atKey_put_other he]
      exact h3 kl z hh
theorem MK.store (K : Keyed P k) (ht : P.underlying t = some (.map k e)) (he : P.underlying e = some .bool) (h : MK P k e w b n kn) (hn : n < maxLen) {x : Int} (hkey : keyOf P k (.int .i64 x) = some (.int .i64 x)) :
    ∃ w', (Instr.mapUpdate t (.map (some b)) (.int .i64 x) (.bool true)).run P w = .ok () w' ∧ MK P k e w' b (n + 1) (x :: kn) ∧ w.grownBy w' (some b) := by
  obtain ⟨D, h1, h2, h3⟩ := h
  obtain ⟨w', hrun, r1, r2⟩ := h1.update K ht hn hkey (plainElem_bool he true)
  exact ⟨w', hrun, ⟨_, r1, (put_keys h1.isMap h2 h3 x).1, (put_keys h1.isMap h2 h3 x).2⟩, r2⟩
variable {ops : Array Oper} {rest : List Oper} {o : Oper} {a : Act} {Q : Exit → Act → World → Prop}
theorem wpList_mk_look (hg : o.guard = none) (m x : Operand) (hop : o.op = Op.lookup t m x false) (K : Keyed P k) (ht : P.underlying t = some (.map k e)) (he : P.underlying e = some .bool) (hz : (zeroValue e).run P w = .ok (.bool false) w)
    (h : MK P k e w b n kn) (hm : a.eval m = .map (some b)) (key : Int) (hx : a.eval x = .int .i64 key) (hkey : keyOf P k (.int .i64 key) = some (.int .i64 key))
    (hK : wpList P ops Q rest (a.put o.dst (.bool (kn.contains key))) w) : wpList P ops Q (o :: rest) a w := by
  refine wpList_plain hg fun K' hK' => ?_
  have hrun := h.look K ht he hz hkey
  unfold Oper.wp
  simp only [execOp, hop, hm, hx, hrun, Result.andThen, Sem.run_bind, Sem.run_pure, Result.andThen_ok]
  exact hK' _ _ hK
theorem wpList_mk_store (hg : o.guard = none) (m x v : Operand) (hop : o.op = Op.mapUpdate t m x v) (K : Keyed P k) (ht : P.underlying t = some (.map k e)) (he : P.underlying e = some .bool)
    (h : MK P k e w b n kn) (hn : n < maxLen) (hm : a.eval m = .map (some b)) (key : Int) (hx : a.eval x = .int .i64 key) (hv : a.eval v = .bool true) (hkey : keyOf P k (.int .i64 key) = some (.int .i64 key))
    (hK : ∀ w', MK P k e w' b (n + 1) (key :: kn) → w.grownBy w' (some b) → wpList P ops Q rest (a.put o.dst undef) w') : wpList P ops Q (o :: rest) a w := by
  refine wpList_plain hg fun K' hK' => ?_
  obtain ⟨w', hrun, r1, r2⟩ := h.store K ht he hn hkey
  unfold Oper.wp
  simp only [execOp, hop, hm, hx, hv, hrun, Result.andThen, Sem.run_bind, Sem.run_pure, Result.andThen_ok]
  exact hK' _ _ (hK w' r1 r2)
theorem wpList_next_ranges_ib {H : Type} (hg : o.guard = none) (it : Operand) (hop : o.op = Op.next it false) (K : Keyed P k) (hk : P.underlying k = some (.int .i64)) (he : P.underlying e = some .bool)
    (b r n : Nat) (D : DataW H) (hT : ∀ kl z, Maps.has D kl = true → D.atKey kl z = .lit (.bool true)) (left : Lit → Bool) (cnt : Nat) (hit : a.eval it = .pointer (some ⟨r, 0, none⟩)) (h : w.ranges P k (plainElem P e) b r n D left cnt)
    (hDone : cnt = 0 → (∀ kl, left kl = false) → wpList P ops Q rest (a.put o.dst (.tuple #[.bool false])) w)
    (hMore : ∀ (x : Int) (w' : World) (cnt' : Nat), (Lit.int .i64 x).wf = true → left (.int .i64 x) = true → (∀ zd, D.atKey (.int .i64 x) zd = .lit (.bool true)) → w'.ranges P k (plainElem P e) b r n D (fun z => left z && !z.sameKey (.int .i64 x)) cnt' → cnt' < cnt →
      w.grownBy w' (some r) → w'.heap.size = w.heap.size → (Instr.entry (.pointer (some ⟨r, 0, none⟩))).run P w' = .ok (.tuple #[.int .i64 x, .bool true]) w' → wpList P ops Q rest (a.put o.dst (.tuple #[.bool true, .int .i64 x, .bool true])) w') :
    wpList P ops Q (o :: rest) a w :=
  wpList_next_ranges w hg it hop k K (plainElem P e) (Value.int .i64) Value.bool (fun key kl hkey => by obtain ⟨x, rfl, _⟩ := Maps.keyOf_int_inv hk hkey; exact ⟨x, rfl⟩) (fun v y hv => by obtain ⟨c, rfl, _⟩ := plainElem_bool_inv he hv; exact ⟨c, rfl⟩)
    b r n D left cnt hit h hDone (fun x c kl y w' cnt' hkey hlk hv hat hrg hlt hgr hsz hen => by
      obtain ⟨x', ex, rfl, hwx⟩ := Maps.keyOf_int_inv hk hkey
      cases ex
      obtain ⟨c', ec, rfl⟩ := plainElem_bool_inv he hv
      cases ec
      have hct : c = true := by
        have h1 := hT _ (.lit (.bool false)) (has_true_of_atKey (y := .lit (.bool c)) hat)
        have h2 := hat (.lit (.bool false))
        rw [h1] at h2
        simp only at h2
        injection h2 with h2
        injection h2 with h2
        exact h2.symm
      subst hct
      exact hMore x w' cnt' hwx hlk hat hrg hlt hgr hsz hen)
end
end Go.Proofs.YticpjdjdimpglaaGreatDoor
/- format.copied by its contract. -/
namespace Go.Proofs.YticpjdjdimpglaaGreatDoor
set_option linter.unusedVariables false
set_option linter.unusedSimpArgs false
open Go.RowKit Go.Maps
theorem lawInt : Keyed Tryz.prog 3 := int_keyed Tryz.underlying3
theorem zeroB (w : World) : (zeroValue 4).run Tryz.prog w = .ok (.bool false) w := by kernel_rfl
/-- A map of known criteria. -/
abbrev KN (w : World) (b n : Nat) (kn : List Int) : Prop := MK Tryz.prog 3 4 w b n kn
theorem keyInt (x : Int) (h : (Lit.int .i64 x).wf = true) : keyOf Tryz.prog 3 (.int .i64 x) = some (.int .i64 x) := keyOf_int_mk Tryz.underlying3 h
set_option maxHeartbeats 4000000 in
set_option maxRecDepth 100000 in
theorem copied_some (b n : Nat) (kn : List Int) (w : World) (h : KN w b n kn) (hn : n < 1000000000) :
    Calls Tryz.prog 114 #[.map (some b)] w fun e w' => e = .returned (.map (some w.heap.size)) ∧ KN w' w.heap.size n kn ∧ Below w.heap.size w w' := by
  obtain ⟨D0, hown, hk1, hk2⟩ := h
  have HK1 := Lib.hid hk1
  have HK2 := Lib.hid hk2
  have HN := Lib.hid hn
  have hmm := @run_makeMap Tryz.prog
  have hbl := hown.lt
  have hsz := hown.size_le
  have e1 : (w.alloc (.map #[] 0)).heap.size = w.heap.size + 1 := by simp
  clear hk1 hk2 hn
  go_enter Tryz.func114, Tryz.ntmps114
  go_wp2_with (first
    | (at_range; refine wpList_range_own _ rfl _ 140 rfl 3 4 lawInt Tryz.underlying140 _ b n _ rfl (hown.alloc _) ?_; intro w0 hrg0 hg0 hs0)
    | go_in)
  go_frame
  rw [e1] at hrg0 hs0 ⊢
  go_loopw [4] (fun _ wr => ∃ (left : Lit → Bool) (cnt : Nat) (Dout : DataW Unit), wr.ranges Tryz.prog 3 (plainElem Tryz.prog 4) b (w.heap.size + 1) n D0 left cnt ∧ cnt ≤ Maps.size D0 ∧
      wr.ownsMap Tryz.prog 3 (plainElem Tryz.prog 4) w.heap.size (Maps.size D0 - cnt) Dout ∧ Agree Dout D0 left ∧ Below w.heap.size w wr)
    (fun _ wr => wr.rangeLeft b (w.heap.size + 1))
  case atStart =>
    exact ⟨_, _, .map [], hrg0, Nat.le_refl _, ((World.ownsMap_made _ _ _ _).kept hg0 (by simp)).mono (Nat.zero_le _), agree_start D0, ((Below.refl _ _).alloc (Nat.le_refl _) _).grown hg0 (by simp) (fun j hj => by cases hj)⟩
  case round =>
    obtain ⟨left, cnt, Dout, hrg, hcs, hout, hA, hnx⟩ := hrel
    go_wp2_with (first
      | (at_next; refine wpList_next_ranges_ib rfl _ rfl lawInt Tryz.underlying3 Tryz.underlying4 b (w.heap.size + 1) n D0 HK2.out _ _ rfl hrg ?_ ?_)
      | go_in)
    · intro hc0 hl0
      go_wp2
      go_ret
      subst hc0
      have e := agree_end hA hl0 (hout.canon lawInt) (hown.canon lawInt)
      subst e
      exact ⟨rfl, ⟨Dout, (show _ from by simpa using hout : World.ownsMap _ _ _ _ _ (Maps.size Dout) _).mono hsz, HK1.out, HK2.out⟩, hnx⟩
    · intro x w1 cnt1 hwx hlx hat hrg1 hlt hg1 hs1 hen
      have hout1 := hout.kept hg1 (by simp)
      have hmx : Maps.size D0 - cnt < maxLen := by have := HN.out; unfold maxLen; omega
      go_wp2_with (first
        | (at_mapUpdate; refine wpList_mapUpdate_own _ rfl _ _ _ 140 rfl 3 4 lawInt Tryz.underlying140 _ w.heap.size _ _ rfl hout1 hmx _ _ _ rfl rfl (keyOf_int_mk Tryz.underlying3 hwx) _ [] (plainElem_bool Tryz.underlying4 true) ?_; intro w2 hout2 hg2; go_frame)
        | go_in)
      have hrg2 := hrg1.kept hg2 (fun e => by have := Option.some.inj e; omega) (fun e => by have := Option.some.inj e; omega)
      go_roundw
      case rel =>
        exact ⟨_, cnt1, _, hrg2, by omega, hout2.mono (by omega), agree_step hA hout.isMap trivial hat,
          (hnx.grown hg1 hnx.size (fun j hj => by cases hj; exact Nat.le_succ _)).grown hg2 (by have := hnx.size; omega) (fun j hj => by cases hj; exact Nat.le_refl _)⟩
      case measure => rw [hrg2.left_eq, hrg.left_eq]; exact hlt
set_option maxRecDepth 100000 in
theorem copied_nil (w : World) : Calls Tryz.prog 114 #[.map none] w fun e w' => e = .returned (.map (some w.heap.size)) ∧ KN w' w.heap.size 0 [] ∧ Below w.heap.size w w' := by
  have hmm := @run_makeMap Tryz.prog
  have hrg := run_range_nilMap (P := Tryz.prog) (w.alloc (.map #[] 0)) 140 3 4 Tryz.underlying140
  have hnx : ∀ ty, (Instr.next (.pointer (some ⟨(w.alloc (.map #[] 0)).heap.size, 0, none⟩)) false ty).run Tryz.prog ((w.alloc (.map #[] 0)).alloc (.mapIter none 0 #[] 0)) = _ := fun ty => run_next_nilMap _ ty 0 0 #[]
  have e1 : (w.alloc (.map #[] 0)).heap.size = w.heap.size + 1 := by simp
  rw [e1] at hrg hnx
  go_enter Tryz.func114, Tryz.ntmps114
  go_wp2
  refine wp_loop_rounds 1 ?_
  rw [rounds_succ]
  go_wp2
  go_ret
  exact ⟨rfl, (MK.made w).kept (World.grownBy_alloc _ _ none) (by simp), ((Below.refl _ _).alloc (Nat.le_refl _) _).alloc (by simp) _⟩
/-- A map argument: nil, or a map. -/
def KV (w : World) (v : Value) (n : Nat) (kn : List Int) : Prop := (v = .map none ∧ kn = []) ∨ ∃ b, v = .map (some b) ∧ KN w b n kn
theorem copied_any (v : Value) (n : Nat) (kn : List Int) (w : World) (h : KV w v n kn) (hn : n < 1000000000) :
    Calls Tryz.prog 114 #[v] w fun e w' => e = .returned (.map (some w.heap.size)) ∧ KN w' w.heap.size n kn ∧ Below w.heap.size w w' := by
  rcases h with ⟨rfl, rfl⟩ | ⟨b, rfl, h⟩
  · exact (copied_nil w).mono fun e w' ⟨h1, h2, h3⟩ => ⟨h1, h2.mono (Nat.zero_le _), h3⟩
  · exact copied_some b n kn w h hn
end Go.Proofs.YticpjdjdimpglaaGreatDoor
/- format.same and slices.EqualFunc at steps, by their contracts. -/
namespace Go.Proofs.YticpjdjdimpglaaGreatDoor
set_option linter.unusedVariables false
set_option linter.unusedSimpArgs false
open Go.RowKit
def sameS (x y : ST) : Bool := x.k == y.k && (x.b == y.b && (x.c.cmp y.c == 0 && (decide (x.th = y.th) && decide (x.el = y.el))))
theorem sameS_iff {x y : ST} : sameS x y = true ↔ x = y := by
  obtain ⟨k, b, c, th, el⟩ := x
  obtain ⟨k', b', c', th', el'⟩ := y
  unfold sameS
  simp only [Bool.and_eq_true, beq_iff_eq, decide_eq_true_eq, CT.cmp_zero, ST.mk.injEq]
theorem stoL_inj : ∀ {F G : SF}, F.toL = G.toL → F = G
  | .nil, .nil, _ => rfl
  | .nil, .cons .., h => by cases h
  | .cons .., .nil, h => by cases h
  | .cons k b ck cv cn cps th el r, .cons k' b' ck' cv' cn' cps' th' el' r', h => by
    rw [SF.toL, SF.toL] at h
    injection h with h1 h2
    injection h1 with a1 a2 a3 a4 a5
    injection a3 with b1 b2 b3 b4
    rw [a1, a2, b1, b2, b3, b4, a4, a5, stoL_inj h2]
theorem ssz_memF : ∀ {l : SF} {x : ST}, x ∈ l.toL → x.th.sz + x.el.sz + 2 ≤ l.sz
  | .nil, _, h => by cases h
  | .cons k b ck cv cn cps th el r, x, h => by
    rw [SF.toL] at h
    rw [SF.sz]
    rcases List.mem_cons.1 h with rfl | h
    · show th.sz + el.sz + 2 ≤ _; omega
    · have := ssz_memF h; omega
/-- The contract of same for steps of a size. -/
def SAME (N : Nat) : Prop := ∀ (S S' : Nat → Prop) (F G : SF) (A : Option Addr) (m d : Nat) (B : Option Addr) (n e : Nat) (w : World), F.sz < N → RepT S w F A m d → RepT S' w G B n e →
  Calls Tryz.prog 60 #[.slice A m d, .slice B n e] w fun e w' => e = .returned (.bool (decide (F = G))) ∧ Below w.heap.size w w'
set_option maxHeartbeats 8000000 in
set_option maxRecDepth 100000 in
theorem same1_of (N : Nat) (ih : SAME N) (S S' : Nat → Prop) (x y : ST) (A : Option Addr) (m d : Nat) (A1 : Option Addr) (m1 d1 : Nat) (A2 : Option Addr) (m2 d2 : Nat) (B : Option Addr) (n e : Nat) (B1 : Option Addr) (n1 e1 : Nat) (B2 : Option Addr) (n2 e2 : Nat) (w : World)
    (h1 : x.th.sz < N) (h2 : x.el.sz < N) (hc : RepH S w x.c.ps A m d) (ht : RepT S w x.th A1 m1 d1) (he : RepT S w x.el A2 m2 d2) (gc : RepH S' w y.c.ps B n e) (gt : RepT S' w y.th B1 n1 e1) (ge : RepT S' w y.el B2 n2 e2) :
    Calls Tryz.prog 106 #[stV x A m d A1 m1 d1 A2 m2 d2, stV y B n e B1 n1 e1 B2 n2 e2] w fun e w' => e = .returned (.bool (sameS x y)) ∧ Below w.heap.size w w' := by
  have HC := Lib.hid (fun W (hW : Below w.heap.size w W) => cmp_all (x.c.ps.cnt + 1) S S' x.c y.c A m d B n e W (Nat.lt_succ_self _) (hc.below hW) (gc.below hW))
  have HT := Lib.hid (fun W (hW : Below w.heap.size w W) => ih S S' x.th y.th A1 m1 d1 B1 n1 e1 W h1 (ht.below hW) (gt.below hW))
  have HE := Lib.hid (fun W (hW : Below w.heap.size w W) => ih S S' x.el y.el A2 m2 d2 B2 n2 e2 W h2 (he.below hW) (ge.below hW))
  have HR := Lib.hid (show sameS x y = (x.k == y.k && (x.b == y.b && (x.c.cmp y.c == 0 && (decide (x.th = y.th) && decide (x.el = y.el))))) from rfl)
  clear ih h1 h2 hc ht he gc gt ge
  generalize sameS x y = r at HR ⊢
  unfold stV
  unfold cV at HC
  dsimp only [vi] at HC ⊢
  obtain ⟨k, b, ⟨ck, cv, cn, cps⟩, th, el⟩ := x
  obtain ⟨k', b', ⟨ck', cv', cn', cps'⟩, th', el'⟩ := y
  dsimp only at HC HT HE HR ⊢
  generalize CT.cmp ⟨ck, cv, cn, cps⟩ ⟨ck', cv', cn', cps'⟩ = rc at HC HR
  generalize decide (th = th') = rt at HT HR
  generalize decide (el = el') = re at HE HR
  go_enter Tryz.func106, Tryz.ntmps106
  cases q1 : (k == k')
  · rw [q1] at HR
    go_wp2_with (fail)
    first | (refine calls_named ?_; intro W hW) | (refine body_named ?_; intro W hW) | (refine wpList_named ?_; intro W hW) | (refine wp_named ?_; intro W hW)
    have hb : Below w.heap.size w W := by rw [← hW]; exact ((Below.refl _ _).alloc (Nat.le_refl _) _).alloc (by simp) _
    clear hW
    go_ret
    exact ⟨ret_bool (by rw [HR.out]; rfl), hb⟩
  cases q2 : (b == b')
  · rw [q1, q2] at HR
    go_wp2_with (fail)
    first | (refine calls_named ?_; intro W hW) | (refine body_named ?_; intro W hW) | (refine wpList_named ?_; intro W hW) | (refine wp_named ?_; intro W hW)
    have hb : Below w.heap.size w W := by rw [← hW]; exact ((Below.refl _ _).alloc (Nat.le_refl _) _).alloc (by simp) _
    clear hW
    go_ret
    exact ⟨ret_bool (by rw [HR.out]; rfl), hb⟩
  rw [q1, q2] at HR
  go_wp2_with (fail)
  first | (refine calls_named ?_; intro W hW) | (refine body_named ?_; intro W hW) | (refine wpList_named ?_; intro W hW) | (refine wp_named ?_; intro W hW)
  have hb : Below w.heap.size w W := by rw [← hW]; exact ((Below.refl _ _).alloc (Nat.le_refl _) _).alloc (by simp) _
  have hx : Blk W w.heap.size 56 #[.int .i64 k, .int .i64 b, .int .i64 ck, .int .i64 cv, .int .i64 cn, .slice A m d, .slice A1 m1 d1, .slice A2 m2 d2] := by rw [← hW]; exact (Blk.new w _ _).alloc _
  have hy : Blk W (w.heap.size + 1) 56 #[.int .i64 k', .int .i64 b', .int .i64 ck', .int .i64 cv', .int .i64 cn', .slice B n e, .slice B1 n1 e1, .slice B2 n2 e2] := by
    rw [← hW, ← World.size_alloc w]
    exact Blk.new _ _ _
  clear hW
  have HB := Lib.hid hb
  have HX := Lib.hid hx
  have HY := Lib.hid hy
  clear hb hx hy
  refine (HC.out W HB.out).mono ?_
  rintro e' w2 ⟨rfl, hg2⟩
  have hb2 := hg2.below
  have HB2 := Lib.hid (HB.out.trans (hb2.mono HB.out.size))
  have HX2 := Lib.hid (HX.out.below hb2 HX.out.lt)
  have HY2 := Lib.hid (HY.out.below hb2 HY.out.lt)
  clear hg2 hb2
  have xl := HX2.out.lt
  have yl := HY2.out.lt
  have x6 := HX2.out.cell 6
  have y6 := HY2.out.cell 6
  cases q3 : (rc == 0)
  · rw [q3] at HR
    go_wp2_with (fail)
    go_ret
    exact ⟨ret_bool (by rw [HR.out]; rfl), HB2.out⟩
  rw [q3] at HR
  go_wp2_with (fail)
  refine (HT.out w2 HB2.out).mono ?_
  rintro e' w3 ⟨rfl, hb3⟩
  have HB3 := Lib.hid (HB2.out.trans (hb3.mono HB2.out.size))
  have HX3 := Lib.hid (HX2.out.below hb3 xl)
  have HY3 := Lib.hid (HY2.out.below hb3 yl)
  clear hb3 x6 y6 xl yl
  have xl := HX3.out.lt
  have yl := HY3.out.lt
  have x7 := HX3.out.cell 7
  have y7 := HY3.out.cell 7
  cases rt
  · go_wp2_with (fail)
    go_ret
    exact ⟨ret_bool (by rw [HR.out]; rfl), HB3.out⟩
  go_wp2_with (fail)
  refine (HE.out w3 HB3.out).mono ?_
  rintro e' w4 ⟨rfl, hb4⟩
  have HB4 := Lib.hid (HB3.out.trans (hb4.mono HB3.out.size))
  clear hb4
  go_wp2_with (fail)
  go_ret
  exact ⟨ret_bool (by rw [HR.out]; simp), HB4.out⟩
set_option maxHeartbeats 8000000 in
set_option maxRecDepth 100000 in
theorem equal_of (N : Nat) (ih : SAME N) (S S' : Nat → Prop) (F G : SF) (A : Option Addr) (m d : Nat) (B : Option Addr) (n e : Nat) (w : World) (hN : F.sz < N + 1) (h1 : RepT S w F A m d) (h2 : RepT S' w G B n e) :
    Calls Tryz.prog 105 #[.slice A m d, .slice B n e, .func (.func 106) #[] #[]] w fun e w' => e = .returned (.bool (decide (F = G))) ∧ Below w.heap.size w w' := by
  have HI := Lib.hid ih
  have HR1 := Lib.hid h1
  have HR2 := Lib.hid h2
  have HL1 := Lib.hid (h1.len.trans (stoL_len F).symm)
  have HL2 := Lib.hid (h2.len.trans (stoL_len G).symm)
  have HN := Lib.hid hN
  have HE := Lib.hid (show decide (F = G) = true ↔ F.toL.drop 0 = G.toL.drop 0 by
    rw [decide_eq_true_eq]
    exact ⟨fun h => by rw [h], fun h => stoL_inj (by simpa using h)⟩)
  generalize decide (F = G) = r at HE ⊢
  obtain ⟨x1, hr1, -, -⟩ := h1
  obtain ⟨x2, hr2, -, -⟩ := h2
  have hc1 := hr1.cap
  have hb1 := hr1.big
  have hc2 := hr2.cap
  have hb2 := hr2.big
  clear ih hN hr1 hr2
  go_enter Tryz.func105, Tryz.ntmps105
  by_cases hmn : m = n
  · have hmn2 : ((m : Int) != (n : Int)) = false := by rw [hmn]; simp
    have HMN := Lib.hid hmn
    clear hmn
    go_wp2_with (fail)
    go_loopw [17] (fun q wr => ∃ i : Nat, i ≤ m ∧ q = .int .i64 i ∧ Hid (Below w.heap.size w wr) ∧ Hid (r = true ↔ F.toL.drop i = G.toL.drop i)) (fun q _ => m - (intOf q).toNat)
    case atStart => exact ⟨0, Nat.zero_le _, rfl, Below.refl _ _, HE.out⟩
    case round =>
      obtain ⟨i, him, rfl, HB, HC⟩ := hrel
      by_cases hlt : i < m
      · have hltn : i < n := by have := HMN.out; omega
        obtain ⟨b, off, x, Bc, nc, ec, B1, n1, e1, B2, n2, e2, rfl, hb, hS, hx, ⟨g0, g1, g2, g3, g4, g5, g6, g7⟩, k1, k2, k3⟩ := HR1.out.elem hlt
        obtain ⟨b', off', y, Bd, nd, ed, D1, l1, u1, D2, l2, u2, rfl, hb', hS', hy, ⟨i0, i1, i2, i3, i4, i5, i6, i7⟩, j1, j2, j3⟩ := HR2.out.elem hltn
        rw [← HB.out.cell (p := ⟨b, _, none⟩) hb] at g0 g1 g2 g3 g4 g5 g6 g7
        rw [← HB.out.cell (p := ⟨b', _, none⟩) hb'] at i0 i1 i2 i3 i4 i5 i6 i7
        have hz := HB.out.size
        have hbl : b' < wr.heap.size := by omega
        have HC2 := Lib.hid (show r = true ↔ sameS x y = true ∧ F.toL.drop (i + 1) = G.toL.drop (i + 1) by
          obtain ⟨a1, a2⟩ := List.getElem?_eq_some_iff.1 hx
          obtain ⟨a3, a4⟩ := List.getElem?_eq_some_iff.1 hy
          rw [HC.out, List.drop_eq_getElem_cons a1, List.drop_eq_getElem_cons a3, a2, a4, List.cons.injEq, sameS_iff])
        have HZ := Lib.hid (ssz_memF (l := F) (x := x) (by
          obtain ⟨a1, a2⟩ := List.getElem?_eq_some_iff.1 hx
          rw [← a2]
          exact List.getElem_mem a1))
        have H1 := Lib.hid k1
        have H2 := Lib.hid k2
        have H3 := Lib.hid k3
        have J1 := Lib.hid j1
        have J2 := Lib.hid j2
        have J3 := Lib.hid j3
        clear hx hy k1 k2 k3 j1 j2 j3 hS hS'
        have hlt2 : (i : Int) < (m : Int) := by omega
        have hlt3 : (i : Int) < (n : Int) := by omega
        go_wp2_with (fail)
        first | (refine calls_named ?_; intro W2 hW2) | (refine body_named ?_; intro W2 hW2) | (refine wpList_named ?_; intro W2 hW2) | (refine wp_named ?_; intro W2 hW2)
        have hb2 : Below wr.heap.size wr W2 := by rw [← hW2]; exact ((Below.refl _ _).alloc (Nat.le_refl _) _).alloc (by simp) _
        clear hW2 g0 g1 g2 g3 g4 g5 g6 g7 i0 i1 i2 i3 i4 i5 i6 i7
        have HB2 := Lib.hid (HB.out.trans (hb2.mono hz))
        clear hb2
        refine (same1_of _ HI.out S S' x y Bc nc ec B1 n1 e1 B2 n2 e2 Bd nd ed D1 l1 u1 D2 l2 u2 W2 (by have := HZ.out; have := HN.out; omega) (by have := HZ.out; have := HN.out; omega) (H1.out.below HB2.out) (H2.out.below HB2.out) (H3.out.below HB2.out) (J1.out.below HB2.out) (J2.out.below HB2.out) (J3.out.below HB2.out)).mono ?_
        rintro e w3 ⟨rfl, hb3⟩
        have HB3 := Lib.hid (HB2.out.trans (hb3.mono HB2.out.size))
        clear hb3
        cases hs : sameS x y
        · have HC3 := Lib.hid (show r = false by
            have h := HC2.out
            rw [hs] at h
            cases r
            · rfl
            · exact absurd (h.1 rfl).1 (by decide))
          clear hs
          go_wp2_with (fail)
          go_ret
          exact ⟨ret_bool HC3.out.symm, HB3.out⟩
        · have HC3 := Lib.hid (show r = true ↔ F.toL.drop (i + 1) = G.toL.drop (i + 1) by
            rw [HC2.out, hs]
            simp)
          clear hs
          go_wp2_with (fail)
          go_roundw
          case rel => exact ⟨i + 1, hlt, by go_num, HB3.out, HC3.out⟩
          case measure => simp [intOf]; omega
      · have HC2 := Lib.hid (show r = true by
          have h := HC.out
          rw [List.drop_eq_nil_of_le (by rw [← HL1.out]; omega), List.drop_eq_nil_of_le (by rw [← HL2.out, ← HMN.out]; omega)] at h
          exact h.2 rfl)
        go_wp2_with (fail)
        go_ret
        exact ⟨ret_bool HC2.out.symm, HB.out⟩
  · have hmn2 : ((m : Int) != (n : Int)) = true := bne_iff_ne.2 fun h => hmn (Int.ofNat.inj h)
    have HC2 := Lib.hid (show r = false by
      have h := HE.out
      cases r
      · rfl
      · have h2 := h.1 rfl
        simp only [List.drop_zero] at h2
        exact absurd (HL1.out.trans ((congrArg List.length h2).trans HL2.out.symm)) hmn)
    clear hmn
    go_wp2_with (fail)
    go_ret
    exact ⟨ret_bool HC2.out.symm, Below.refl _ _⟩
theorem same_of (N : Nat) (ih : SAME N) : SAME (N + 1) := by
  intro S S' F G A m d B n e w hN h1 h2
  have HC := Lib.hid (equal_of N ih S S' F G A m d B n e w hN h1 h2)
  generalize decide (F = G) = r at HC ⊢
  go_enter Tryz.func60, Tryz.ntmps60
  go_wp2_with (fail)
  refine HC.out.mono ?_
  rintro e' w2 ⟨rfl, hb⟩
  go_wp2_with (fail)
  go_ret
  exact ⟨rfl, hb⟩
theorem same_all : ∀ N, SAME N
  | 0 => fun _ _ _ _ _ _ _ _ _ _ _ h => absurd h (by omega)
  | N + 1 => same_of N (same_all N)
end Go.Proofs.YticpjdjdimpglaaGreatDoor
