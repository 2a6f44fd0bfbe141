/- The reference's Word, Contents, Quote, Keyword and Join by their contracts. -/
import Derived.Test.YtbfgmbijmdbcmaaGreatDoorJoin
import Derived.Test.YtbfgmbijmdbcmaaGreatDoorRefClass
import Derived.Test.YtbfgmbijmdbcmaaGreatDoorRInt
namespace Go.Proofs.YtbfgmbijmdbcmaaGreatDoor
set_option linter.unusedVariables false
set_option linter.unusedSimpArgs false
open Go.RowKit

/-- A row of bytes of the call's own. -/
def OwnB (w : World) (B : Nat) (A : Option Addr) (c : Nat) (X : List UInt8) : Prop := w.ownsRow B 5 1 (.slice A X.length c) X.length (X.map vb)
theorem OwnB.mk' {w : World} {B n c : Nat} {A : Option Addr} {X : List UInt8} {xs : List Value} (h : w.ownsRow B 5 1 (.slice A n c) n xs) (hn : n = X.length) (hx : xs = X.map vb) : OwnB w B A c X := by
  subst hn hx
  exact h
theorem own_new (w : World) (B : Nat) (e : TypeId) (size : Nat) (hB : B ≤ w.heap.size) : (w.alloc (.cells #[] e)).ownsRow B e size (.slice (some ⟨w.heap.size, 0, none⟩) 0 0) 0 [] :=
  ⟨by simp, .inr ⟨w.heap.size, 0, #[], rfl, hB, heap_alloc_new w _, by simp, by simp [maxLen], by simp, by simp⟩⟩


def kwsE : List (List UInt8) := [[114, 117, 108, 101, 115], [119, 105, 110], [100, 114, 97, 119], [108, 111, 115, 115], [111, 114, 100, 101, 114], [122, 111, 110, 101, 115], [116, 111], [105, 102], [101, 108, 115, 101], [97, 110, 100], [111, 114], [110, 111, 116], [116, 105, 101, 100], [114, 111, 117, 110, 100], [102, 105, 110, 105, 115, 104, 101, 100], [99, 108, 117, 98, 115], [112, 111, 105, 110, 116, 115], [100, 105, 102, 102, 101, 114, 101, 110, 99, 101], [103, 111, 97, 108, 115], [119, 105, 110, 115], [97, 119, 97, 121], [102, 97, 105, 114], [104, 101, 97, 100], [108, 111, 116, 115]]
theorem kws_E : kws = kwsE := by decide +kernel
set_option maxHeartbeats 4000000 in
set_option maxRecDepth 100000 in
theorem rkeyword_any (l : List UInt8) (w : World) : Calls Tryz.prog 20 #[.string (bs l)] w fun e w' => e = .returned (.bool (kwB l)) ∧ w = w' := by
  cases hk : kwB l with
  | false =>
    have h : ∀ x ∈ kwsE, (l == x) = false := fun x hx => by
      cases hq : l == x
      · rfl
      · have e : l = x := by simpa using hq
        subst e
        have h2 : kwB l = true := by unfold kwB; rw [kws_E, List.contains_iff_mem]; exact hx
        rw [hk] at h2; cases h2
    have f0 := h [114, 117, 108, 101, 115] (by simp [kwsE])
    have f1 := h [119, 105, 110] (by simp [kwsE])
    have f2 := h [100, 114, 97, 119] (by simp [kwsE])
    have f3 := h [108, 111, 115, 115] (by simp [kwsE])
    have f4 := h [111, 114, 100, 101, 114] (by simp [kwsE])
    have f5 := h [122, 111, 110, 101, 115] (by simp [kwsE])
    have f6 := h [116, 111] (by simp [kwsE])
    have f7 := h [105, 102] (by simp [kwsE])
    have f8 := h [101, 108, 115, 101] (by simp [kwsE])
    have f9 := h [97, 110, 100] (by simp [kwsE])
    have f10 := h [111, 114] (by simp [kwsE])
    have f11 := h [110, 111, 116] (by simp [kwsE])
    have f12 := h [116, 105, 101, 100] (by simp [kwsE])
    have f13 := h [114, 111, 117, 110, 100] (by simp [kwsE])
    have f14 := h [102, 105, 110, 105, 115, 104, 101, 100] (by simp [kwsE])
    have f15 := h [99, 108, 117, 98, 115] (by simp [kwsE])
    have f16 := h [112, 111, 105, 110, 116, 115] (by simp [kwsE])
    have f17 := h [100, 105, 102, 102, 101, 114, 101, 110, 99, 101] (by simp [kwsE])
    have f18 := h [103, 111, 97, 108, 115] (by simp [kwsE])
    have f19 := h [119, 105, 110, 115] (by simp [kwsE])
    have f20 := h [97, 119, 97, 121] (by simp [kwsE])
    have f21 := h [102, 97, 105, 114] (by simp [kwsE])
    have f22 := h [104, 101, 97, 100] (by simp [kwsE])
    have f23 := h [108, 111, 116, 115] (by simp [kwsE])
    clear h hk
    go_enter Tryz.func20, Tryz.ntmps20
    go_wp2
    go_ret
    exact ⟨rfl, rfl⟩
  | true =>
    have h : l ∈ kwsE := by
      unfold kwB at hk
      rw [kws_E, List.contains_iff_mem] at hk
      exact hk
    clear hk
    simp only [kwsE, List.mem_cons, List.not_mem_nil, or_false] at h
    rcases h with rfl | rfl | rfl | rfl | rfl | rfl | rfl | rfl | rfl | rfl | rfl | rfl | rfl | rfl | rfl | rfl | rfl | rfl | rfl | rfl | rfl | rfl | rfl | rfl
    all_goals
      go_enter Tryz.func20, Tryz.ntmps20
      go_wp2
      go_ret
      exact ⟨rfl, rfl⟩

theorem all_no {p : Nat → Bool} {l : List UInt8} {k : Nat} (hk : k < l.length) (h : p (bt l k) = false) : (l.all fun c => p c.toNat) = false := by
  rw [List.all_eq_false]
  exact ⟨l[k], List.getElem_mem hk, by rw [← bt_get l k hk, h]; decide⟩
theorem all_yes {p : Nat → Bool} {l : List UInt8} (h : ∀ q, q < l.length → p (bt l q) = true) : (l.all fun c => p c.toNat) = true := by
  rw [List.all_eq_true]
  intro c hc
  obtain ⟨i, hi, rfl⟩ := List.getElem_of_mem hc
  rw [← bt_get l i hi]
  exact h i hi
theorem upto_succ {p : Nat → Bool} {l : List UInt8} {k : Nat} (h : ∀ q, q < k → p (bt l q) = true) (hk : p (bt l k) = true) : ∀ q, q < k + 1 → p (bt l q) = true := fun q hq => by
  rcases Nat.lt_or_ge q k with h1 | h1
  · exact h q h1
  · rw [show q = k from by omega]; exact hk

set_option maxHeartbeats 2000000 in
theorem rword_any (l : List UInt8) (w : World) (hl : l.length ≤ 9223372036854775807) :
    Calls Tryz.prog 36 #[.string (bs l)] w fun e w' => e = .returned (.bool (wordB l)) ∧ w = w' := by
  have hnot : ∀ (x : Bool) (w : World), (Op.unary .not (.bool x)).run Tryz.prog w = .ok (.bool (!x)) w := fun _ _ => rfl
  go_enter Tryz.func36, Tryz.ntmps36
  go_wp2
  go_loop [3] (fun i => ∃ k : Nat, i = .int .i64 k ∧ k ≤ l.length ∧ Hid (∀ q, q < k → isInner (bt l q) = true)) (fun i => l.length - (intOf i).toNat)
  case atStart => exact ⟨0, rfl, Nat.zero_le _, fun q hq => absurd hq (by omega)⟩
  case round =>
    obtain ⟨k, rfl, hk, Hk⟩ := hrel
    by_cases hlt : k < l.length
    · cases hd : isInner (bt l k) with
      | false =>
        have HN := Lib.hid (show wordB l = false by unfold wordB; rw [all_no (p := isInner) hlt hd]; simp)
        go_wp2_with (go_at_call 46; refine (rinner_any _ _).mono ?_; rw [hd]; rintro e w' ⟨rfl, rfl⟩)
        go_ret
        exact ⟨ret_bool HN.out.symm, rfl⟩
      | true =>
        have HN := Lib.hid (upto_succ (p := isInner) Hk.out hd)
        go_wp2_with (go_at_call 46; refine (rinner_any _ _).mono ?_; rw [hd]; rintro e w' ⟨rfl, rfl⟩)
        go_round
        case rel => exact ⟨k + 1, by go_num, by omega, HN.out⟩
        case measure => simp [intOf]; omega
    · have hku : k = l.length := by omega
      subst hku
      have HV := Lib.hid (all_yes (p := isInner) Hk.out)
      by_cases h1 : 0 < l.length
      · have HW := Lib.hid (show wordB l = isLetter (bt l 0) by
          unfold wordB
          rw [HV.out]
          cases l with
          | nil => simp at h1
          | cons a r => simp)
        go_wp2_with (go_at_call 45; refine (rletter_any _ _).mono ?_; rintro e w' ⟨rfl, rfl⟩)
        go_ret
        exact ⟨ret_bool HW.out.symm, rfl⟩
      · have h0 : l = [] := List.eq_nil_of_length_eq_zero (by omega)
        subst h0
        go_wp2
        go_ret
        exact ⟨rfl, rfl⟩

def txt (c : Nat) : Bool := c == 10 || (decide (32 ≤ c) && decide (c ≤ 126))
theorem textB_txt (l : List UInt8) : textB l = l.all fun c => txt c.toNat := rfl
set_option maxHeartbeats 2000000 in
theorem rcontents_any (l : List UInt8) (w : World) (hl : l.length ≤ 9223372036854775807) :
    Calls Tryz.prog 38 #[.string (bs l)] w fun e w' => e = .returned (.bool (textB l)) ∧ w = w' := by
  go_enter Tryz.func38, Tryz.ntmps38
  go_wp2
  go_loop [3] (fun i => ∃ k : Nat, i = .int .i64 k ∧ k ≤ l.length ∧ Hid (∀ q, q < k → txt (bt l q) = true)) (fun i => l.length - (intOf i).toNat)
  case atStart => exact ⟨0, rfl, Nat.zero_le _, fun q hq => absurd hq (by omega)⟩
  case round =>
    obtain ⟨k, rfl, hk, Hk⟩ := hrel
    by_cases hlt : k < l.length
    · by_cases h10 : bt l k = 10
      · have e1 := ynb (a := bt l k) (m := 10) (by omega)
        have HN := Lib.hid (upto_succ (p := txt) Hk.out (by rw [h10]; rfl))
        clear h10
        go_wp2
        go_round
        case rel => exact ⟨k + 1, by go_num, by omega, HN.out⟩
        case measure => simp [intOf]; omega
      · have e1 := nnb (a := bt l k) (m := 10) (by omega)
        by_cases h32 : bt l k < 32
        · have HN := Lib.hid (show textB l = false by rw [textB_txt, all_no (p := txt) hlt (by unfold txt; rw [show (bt l k == 10) = false from by simpa using h10, show decide (32 ≤ bt l k) = false from decide_eq_false (by omega)]; rfl)])
          have d1 : (bt l k : Int) < 32 := by omega
          clear h10 h32
          go_wp2
          go_ret
          exact ⟨ret_bool HN.out.symm, rfl⟩
        · by_cases h126 : 126 < bt l k
          · have HN := Lib.hid (show textB l = false by rw [textB_txt, all_no (p := txt) hlt (by unfold txt; rw [show (bt l k == 10) = false from by simpa using h10, show decide (bt l k ≤ 126) = false from decide_eq_false (by omega)]; simp)])
            have d1 : ¬ (bt l k : Int) < 32 := by omega
            have d2 : (126 : Int) < (bt l k : Int) := by omega
            clear h10 h32 h126
            go_wp2
            go_ret
            exact ⟨ret_bool HN.out.symm, rfl⟩
          · have HN := Lib.hid (upto_succ (p := txt) Hk.out (by unfold txt; rw [show decide (32 ≤ bt l k) = true from decide_eq_true (by omega), show decide (bt l k ≤ 126) = true from decide_eq_true (by omega)]; simp))
            have d1 : ¬ (bt l k : Int) < 32 := by omega
            have d2 : ¬ (126 : Int) < (bt l k : Int) := by omega
            clear h10 h32 h126
            go_wp2
            go_round
            case rel => exact ⟨k + 1, by go_num, by omega, HN.out⟩
            case measure => simp [intOf]; omega
    · have hku : k = l.length := by omega
      subst hku
      have HV := Lib.hid (show textB l = true from all_yes (p := txt) Hk.out)
      go_wp2
      go_ret
      exact ⟨ret_bool HV.out.symm, rfl⟩
theorem rd_vals (w : World) (xs : List Value) (t : TypeId) (n : Nat) (hn : xs.length = n) (h63 : n ≤ 9223372036854775807) : Rd (w.alloc (.cells xs.toArray t)) (w.alloc (.cells xs.toArray t)).heap.size 1 (some ⟨w.heap.size, 0, none⟩) n n xs := by
  refine ⟨by simp [hn], Nat.le_refl _, h63, fun _ => ⟨_, _, rfl, by simp, fun j u hj => ?_⟩⟩
  rw [Nat.zero_add]
  exact new_cells w xs t j u hj

theorem esc_10 (l : List UInt8) (i : Nat) (h : i < l.length) (hb : bt l i = 10) : escape (l.take (i + 1)) = escape (l.take i) ++ [92, 110] := by
  rw [escape_take l i h, hb]; rfl
theorem esc_qb (l : List UInt8) (i : Nat) (h : i < l.length) (hb : bt l i = 34 ∨ bt l i = 92) : escape (l.take (i + 1)) = escape (l.take i) ++ [92, UInt8.ofNat (bt l i)] := by
  rw [escape_take l i h]
  rcases hb with hb | hb <;> rw [hb] <;> rfl
theorem esc_pl (l : List UInt8) (i : Nat) (h : i < l.length) (h1 : ¬ bt l i = 10) (h2 : ¬ bt l i = 34) (h3 : ¬ bt l i = 92) : escape (l.take (i + 1)) = escape (l.take i) ++ [UInt8.ofNat (bt l i)] := by
  rw [escape_take l i h]
  congr 1
  have hlt := bt_lt l i
  unfold esc1
  rw [if_neg (by simp; omega), if_neg (by simp; omega), if_neg (by simp; omega)]
theorem vb_bt (l : List UInt8) (i : Nat) : vb (UInt8.ofNat (bt l i)) = .int .u8 (bt l i : Int) := by
  have hlt := bt_lt l i
  simp [vb, Nat.mod_eq_of_lt hlt]

set_option maxHeartbeats 4000000 in
set_option maxRecDepth 100000 in
theorem rquote_any (l : List UInt8) (w : World) (hl : l.length ≤ 1000000) :
    Calls Tryz.prog 39 #[.string (bs l)] w fun e w' => e = .returned (.string (bs (34 :: (escape l ++ [34])))) ∧ Below w.heap.size w w' := by
  go_enter Tryz.func39, Tryz.ntmps39
  go_wp2_with (fail)
  have hB0 : Hid (OwnB (w.alloc (.cells #[.int .u8 34] 5)) w.heap.size (some ⟨w.heap.size, 0, none⟩) 1 (34 :: escape (l.take 0))) := by
    have := World.ownsRow_lit (base := w.heap.size) (e := 5) (size := 1) w #[.int .u8 34] 1 (Nat.le_refl _) (by unfold maxLen; omega) rfl
    exact this
  have hb0 : Hid (Below w.heap.size w (w.alloc (.cells #[.int .u8 34] 5))) := (Below.refl _ w).alloc (Nat.le_refl _) _
  go_loopw [3, 4] (fun s3 s4 wr => ∃ (i : Nat) (A : Option Addr) (c : Nat), i ≤ l.length ∧ s4 = .int .i64 i ∧ s3 = .slice A (34 :: escape (l.take i)).length c ∧ Hid (OwnB wr w.heap.size A c (34 :: escape (l.take i))) ∧ Hid (Below w.heap.size w wr)) (fun _ s4 _ => l.length - (intOf s4).toNat)
  case atStart => exact ⟨0, _, _, Nat.zero_le _, rfl, rfl, hB0.out, hb0.out⟩
  case round =>
    obtain ⟨i, A, c, hi, rfl, rfl, ho, hb⟩ := hrel
    have hsz := hb.out.size
    have hxl : (34 :: escape (l.take i)).length ≤ 2000001 := by
      have h1 := esc_le l i
      have h2 := escape_len l
      have h3 := List.countP_le_length (p := sp) (l := l)
      simp only [List.length_cons]; omega
    by_cases hlt : i < l.length
    · by_cases h10 : bt l i = 10
      · have e1 := yb (a := bt l i) (m := 10) (by omega)
        have HE := Lib.hid (show 34 :: escape (l.take (i + 1)) = (34 :: escape (l.take i)) ++ [92, 110] by rw [esc_10 l i hlt h10]; rfl)
        generalize 34 :: escape (l.take i) = X at *
        clear h10
        go_wp2_with (at_builtin; go_must (refine wpList_app elemByte rfl (.tmp 23) (.tmp 24) rfl w.heap.size A X.length c (X.map vb) rfl (World.ownsRow.alloc ho.out _) _ _ 2 2 rfl ([92, 110].map vb) (rd_vals wr [.int .u8 92, .int .u8 110] _ 2 rfl (by omega)) (vb_one _) (by omega) (by omega) (Nat.le_trans hsz (by simp)) ?_; intro A5 c5 w5 hown5 hb5 hg5; have H5 := Lib.hid hown5; have B5 := Lib.hid ((hb.out.alloc hsz _).trans hb5); clear hown5 hb5 hg5))
        go_roundw
        case rel => exact ⟨i + 1, A5, c5, by omega, by go_num, by rw [HE.out]; exact slice_eq (by simp), by rw [HE.out]; exact OwnB.mk' H5.out (by simp) (by simp), B5.out⟩
        case measure => simp [intOf]; omega
      · have e1 := nb (a := bt l i) (m := 10) (by omega)
        by_cases hq : bt l i = 34 ∨ bt l i = 92
        · have HE := Lib.hid (show 34 :: escape (l.take (i + 1)) = (34 :: escape (l.take i)) ++ [92, UInt8.ofNat (bt l i)] by rw [esc_qb l i hlt hq]; rfl)
          have HV := Lib.hid (vb_bt l i)
          generalize 34 :: escape (l.take i) = X at *
          rcases hq with hq | hq
          · have e2 := yb (a := bt l i) (m := 34) (by omega)
            clear h10 hq
            go_wp2_with (at_builtin; go_must (refine wpList_app elemByte rfl (.tmp 29) (.tmp 33) rfl w.heap.size A X.length c (X.map vb) rfl (World.ownsRow.alloc ho.out _) _ _ 2 2 rfl [.int .u8 92, .int .u8 (bt l i : Int)] (rd_vals wr [.int .u8 92, .int .u8 (bt l i : Int)] _ 2 rfl (by omega)) (by intro u hu; simp at hu; rcases hu with rfl | rfl <;> rfl) (by omega) (by omega) (Nat.le_trans hsz (by simp)) ?_; intro A5 c5 w5 hown5 hb5 hg5; have H5 := Lib.hid hown5; have B5 := Lib.hid ((hb.out.alloc hsz _).trans hb5); clear hown5 hb5 hg5))
            go_roundw
            case rel => exact ⟨i + 1, A5, c5, by omega, by go_num, by rw [HE.out]; exact slice_eq (by simp), by rw [HE.out]; exact OwnB.mk' H5.out (by simp) (by rw [List.map_append]; simp only [List.map_cons, List.map_nil, HV.out]; rfl), B5.out⟩
            case measure => simp [intOf]; omega
          · have e2 := nb (a := bt l i) (m := 34) (by omega)
            have e3 := yb (a := bt l i) (m := 92) (by omega)
            clear h10 hq
            go_wp2_with (at_builtin; go_must (refine wpList_app elemByte rfl (.tmp 29) (.tmp 33) rfl w.heap.size A X.length c (X.map vb) rfl (World.ownsRow.alloc ho.out _) _ _ 2 2 rfl [.int .u8 92, .int .u8 (bt l i : Int)] (rd_vals wr [.int .u8 92, .int .u8 (bt l i : Int)] _ 2 rfl (by omega)) (by intro u hu; simp at hu; rcases hu with rfl | rfl <;> rfl) (by omega) (by omega) (Nat.le_trans hsz (by simp)) ?_; intro A5 c5 w5 hown5 hb5 hg5; have H5 := Lib.hid hown5; have B5 := Lib.hid ((hb.out.alloc hsz _).trans hb5); clear hown5 hb5 hg5))
            go_roundw
            case rel => exact ⟨i + 1, A5, c5, by omega, by go_num, by rw [HE.out]; exact slice_eq (by simp), by rw [HE.out]; exact OwnB.mk' H5.out (by simp) (by rw [List.map_append]; simp only [List.map_cons, List.map_nil, HV.out]; rfl), B5.out⟩
            case measure => simp [intOf]; omega
        · have e2 := nb (a := bt l i) (m := 34) (by omega)
          have e3 := nb (a := bt l i) (m := 92) (by omega)
          have HE := Lib.hid (show 34 :: escape (l.take (i + 1)) = (34 :: escape (l.take i)) ++ [UInt8.ofNat (bt l i)] by rw [esc_pl l i hlt h10 (by omega) (by omega)]; rfl)
          generalize 34 :: escape (l.take i) = X at *
          clear h10 hq
          go_wp2_with (at_builtin; go_must (refine wpList_push elemByte rfl (.tmp 15) (.tmp 19) rfl w.heap.size A X.length c (X.map vb) rfl (World.ownsRow.alloc ho.out _) _ rfl [.int .u8 (bt l i : Int)] rfl (new_cells wr _ _) (by intro u hu; simp at hu; subst hu; rfl) (by omega) (by omega) (Nat.le_trans hsz (by simp)) ?_; intro A5 c5 w5 hown5 hb5 hg5; have H5 := Lib.hid hown5; have B5 := Lib.hid ((hb.out.alloc hsz _).trans hb5); clear hown5 hb5 hg5))
          go_roundw
          case rel => exact ⟨i + 1, A5, c5, by omega, by go_num, by rw [HE.out]; exact slice_eq (by simp), by rw [HE.out]; exact own_snoc _ _ (bt_of l i) H5.out, B5.out⟩
          case measure => simp [intOf]; omega
    · obtain rfl : i = l.length := by omega
      have HX := Lib.hid (show (34 :: escape (l.take l.length)) ++ [34] = 34 :: (escape l ++ [34]) by rw [List.take_length]; rfl)
      generalize 34 :: escape (l.take l.length) = X at *
      go_wp2_with (first
        | (at_builtin; go_must (refine wpList_push elemByte rfl (.tmp 35) (.tmp 36) rfl w.heap.size A X.length c (X.map vb) rfl (World.ownsRow.alloc ho.out _) _ rfl [.int .u8 34] rfl (new_cells wr _ _) (by intro u hu; simp at hu; subst hu; rfl) (by omega) (by omega) (Nat.le_trans hsz (by simp)) ?_; intro A5 c5 w5 hown5 hb5 hg5; have H5 := Lib.hid (show OwnB w5 w.heap.size A5 c5 (X ++ [34]) from OwnB.mk' hown5 (by simp) (by simp [vb])); have B5 := Lib.hid ((hb.out.alloc hsz _).trans hb5); have hcv := (own_rd H5.out).conv (P := Tryz.prog) (src := 22) (dst := 9) Tryz.underlying22 Tryz.underlying5 Tryz.underlying9 c5; rw [List.length_append, List.length_singleton] at hcv; clear hown5 hb5 hg5)))
      go_ret
      exact ⟨by rw [← HX.out]; rfl, B5.out⟩

theorem joinOk_kind {T : List Tok} {e : Tok} (h : ¬ e.kind = 5) : joinOk T e = false := by
  unfold joinOk
  rw [show (e.kind == 5) = false from by simpa using h]; simp
theorem joinOk_text {T : List Tok} {e : Tok} (h : e.text.isEmpty = false) : joinOk T e = false := by
  unfold joinOk
  rw [h]; simp

set_option pp.deepTerms true in
set_option maxHeartbeats 8000000 in
set_option maxRecDepth 100000 in
theorem rjoin_any (A : Option Addr) (n c : Nat) (T : List Tok) (e : Tok) (w : World) (h : Rd w w.heap.size 3 A n c ((T ++ [e]).flatMap tokCells)) (hW : wide T ≤ 60000) (hE : e.text.length ≤ 60000) :
    Calls Tryz.prog 18 #[.slice A n c] w (JPost T e w) := by
  have hn : n = T.length + 1 := by have := h.tlen; simp at this; omega
  have hcap := h.cap
  have hbig := h.big
  have hnot : ∀ (x : Bool) (w : World), (Op.unary .not (.bool x)).run Tryz.prog w = .ok (.bool (!x)) w := fun _ _ => rfl
  obtain ⟨b, off, _, rfl, hb, -⟩ := h.tok (k := T.length) (by omega)
  have H := Lib.hid h
  subst hn
  clear h
  have q9 : ((T.length : Int) + 1 == 0) = false := by rw [beq_eq_false_iff_ne]; omega
  go_enter Tryz.func18, Tryz.ntmps18
  go_wp2_with (fail)
  have hS0 : Hid (JSt w (w.alloc (.cells #[] 5)) T 0 (some ⟨w.heap.size, 0, none⟩) 0) := ⟨own_new w _ _ _ (Nat.le_refl _), (Below.refl _ w).alloc (Nat.le_refl _) _, rfl⟩
  go_loopw [4, 5, 6, 7, 8] (fun s4 s5 s6 s7 s8 wr => (∃ (k : Nat) (Ab : Option Addr) (cb : Nat), k ≤ T.length ∧ s5 = .int .i64 k ∧ s4 = .slice Ab (joinB (T.take k)).length cb ∧ Hid (JSt w wr T k Ab cb)) ∨ (∃ (Ab : Option Addr) (cb : Nat), s5 = .int .i64 ((T.length : Int) + 1) ∧ s4 = .slice Ab (joinB T).length cb ∧ Hid (JSt w wr T T.length Ab cb) ∧ Hid (joinOk T e = true))) (fun _ s5 _ _ _ _ => T.length + 1 - (intOf s5).toNat)
  case atStart => exact .inl ⟨0, _, _, Nat.zero_le _, rfl, rfl, hS0.out⟩
  case round =>
    rcases hrel with ⟨k, Ab, cb, hk, rfl, rfl, hJ⟩ | ⟨Ab, cb, rfl, rfl, hJ, hok⟩
    · have hsz := hJ.out.bel.size
      have hT := Lib.hid (H.out.below hJ.out.bel)
      by_cases hlt : k < T.length
      · obtain ⟨t, ht⟩ : ∃ t, T[k]? = some t := ⟨T[k], List.getElem?_eq_getElem hlt⟩
        obtain ⟨_, g1, g2, _⟩ := hT.out.tokAt (k := k) (t := t) (by rw [List.getElem?_append_left hlt]; exact ht)
        have hw1 := wide_mem ht
        have hw2 := wide_take T k
        have hw3 := joinB_len (T.take k)
        have hw4 := text_spell t
        have HJS := Lib.hid (joinB_succ ht)
        have Ht := Lib.hid ht
        have el : ((k : Int) == (T.length : Int)) = false := by rw [beq_eq_false_iff_ne]; omega
        clear ht
        generalize hjb : (joinB (T.take k)).length = jl at *
        have Hjb := Lib.hid hjb
        clear hjb
        by_cases h1 : t.kind = 1
        · have e1 : (t.kind == 1) = true := by rw [h1]; rfl
          have e5 : (t.kind == 5) = false := by rw [h1]; rfl
          have Hok := Lib.hid (show okTok t = wordB t.text by unfold okTok; rw [h1]; rfl)
          have Hsp := Lib.hid (show spell t = t.text by unfold spell; rw [if_neg (by omega)])
          clear h1
          go_wp2_with (fail)
          refine (rword_any t.text _ (by omega)).mono ?_
          rintro E w5 ⟨rfl, rfl⟩
          generalize hbb : wordB t.text = bb at Hok ⊢
          clear hbb
          cases bb with
          | false =>
            go_wp2
            go_ret2
            exact JPost.no (joinOk_bad Ht.out Hok.out) hJ.out.bel
          | true =>
            by_cases hk0 : k = 0
            · subst hk0
              simp only [Nat.zero_mul, Nat.add_zero] at g1
              go_wp2_with (first
                | (at_builtin; go_must (refine wpList_app_str (by kernel_rfl) Tryz.underlying22 Tryz.underlying9 rfl (.tmp 80) (.tmp 81) rfl w.heap.size Ab jl cb ((joinB (T.take 0)).map vb) rfl (by have := hJ.out.own; rw [Hjb.out] at this; exact this) (t.text) rfl (by omega) hJ.out.bel.size ?_; intro A6 c6 w6 hown6 hb6 hg6; have H6 := Lib.hid hown6; have B6 := Lib.hid (hJ.out.bel.trans hb6); clear hown6 hb6 hg6)))
              go_roundw
              case rel => exact .inl ⟨1, A6, c6, by omega, rfl, slice_eq (by rw [HJS.out, List.length_append, List.length_append, Hjb.out, Hsp.out]; simp), JSt.next Ht.out Hok.out hJ.out.ok H6.out (by rw [HJS.out, List.length_append, List.length_append, Hjb.out, Hsp.out]; simp) (by rw [HJS.out, Hsp.out]; simp) B6.out⟩
              case measure => simp [intOf]; try omega
            · have hk1 : (0 : Int) < (k : Int) := by omega
              have hkb : decide (0 < k) = true := decide_eq_true (by omega)
              have HJK := Lib.hid (show (if k = 0 then ([] : List UInt8) else [32]) = [32] from if_neg hk0)
              go_wp2_with (first
                | (at_builtin; refine wpList_push elemByte rfl (.tmp 77) (.tmp 78) rfl w.heap.size Ab jl cb ((joinB (T.take k)).map vb) rfl (World.ownsRow.alloc (by have := hJ.out.own; rw [Hjb.out] at this; exact this) _) _ rfl [.int .u8 32] rfl (new_cells wr _ _) (by intro u hu; simp at hu; subst hu; rfl) (by omega) (by omega) (Nat.le_trans hJ.out.bel.size (by simp)) ?_; intro A8 c8 w8 hown8 hb8 hg8; have H8 := Lib.hid hown8; have B8 := Lib.hid ((hJ.out.bel.alloc hJ.out.bel.size _).trans hb8); clear hown8 hb8 hg8)
                | (at_builtin; go_must (refine wpList_app_str (by kernel_rfl) Tryz.underlying22 Tryz.underlying9 rfl (.tmp 80) (.tmp 81) rfl w.heap.size A8 (jl + 1) c8 _ rfl H8.out (t.text) rfl (by omega) B8.out.size ?_; intro A6 c6 w6 hown6 hb6 hg6; have H6 := Lib.hid hown6; have B6 := Lib.hid (B8.out.trans hb6); clear hown6 hb6 hg6)))
              go_roundw
              case rel => exact .inl ⟨k + 1, A6, c6, by omega, by go_num, slice_eq (by rw [HJS.out, List.length_append, List.length_append, Hjb.out, Hsp.out]; simp [HJK.out]), JSt.next Ht.out Hok.out hJ.out.ok H6.out (by rw [HJS.out, List.length_append, List.length_append, Hjb.out, Hsp.out]; simp [HJK.out]) (by rw [HJS.out, Hsp.out]; simp [HJK.out, vb]) B6.out⟩
              case measure => simp [intOf]; omega
        by_cases h2 : t.kind = 2
        · have e1 : (t.kind == 1) = false := by rw [h2]; rfl
          have e2 : (t.kind == 2) = true := by rw [h2]; rfl
          have e5 : (t.kind == 5) = false := by rw [h2]; rfl
          have Hok := Lib.hid (show okTok t = intB t.text by unfold okTok; rw [h2]; rfl)
          have Hsp := Lib.hid (show spell t = t.text by unfold spell; rw [if_neg (by omega)])
          clear h2 h1
          go_wp2_with (fail)
          refine (rinteger_any t.text _ (by omega)).mono ?_
          rintro E w5 ⟨rfl, rfl⟩
          generalize hbb : intB t.text = bb at Hok ⊢
          clear hbb
          cases bb with
          | false =>
            go_wp2
            go_ret2
            exact JPost.no (joinOk_bad Ht.out Hok.out) hJ.out.bel
          | true =>
            by_cases hk0 : k = 0
            · subst hk0
              simp only [Nat.zero_mul, Nat.add_zero] at g1
              go_wp2_with (first
                | (at_builtin; go_must (refine wpList_app_str (by kernel_rfl) Tryz.underlying22 Tryz.underlying9 rfl (.tmp 80) (.tmp 81) rfl w.heap.size Ab jl cb ((joinB (T.take 0)).map vb) rfl (by have := hJ.out.own; rw [Hjb.out] at this; exact this) (t.text) rfl (by omega) hJ.out.bel.size ?_; intro A6 c6 w6 hown6 hb6 hg6; have H6 := Lib.hid hown6; have B6 := Lib.hid (hJ.out.bel.trans hb6); clear hown6 hb6 hg6)))
              go_roundw
              case rel => exact .inl ⟨1, A6, c6, by omega, rfl, slice_eq (by rw [HJS.out, List.length_append, List.length_append, Hjb.out, Hsp.out]; simp), JSt.next Ht.out Hok.out hJ.out.ok H6.out (by rw [HJS.out, List.length_append, List.length_append, Hjb.out, Hsp.out]; simp) (by rw [HJS.out, Hsp.out]; simp) B6.out⟩
              case measure => simp [intOf]; try omega
            · have hk1 : (0 : Int) < (k : Int) := by omega
              have hkb : decide (0 < k) = true := decide_eq_true (by omega)
              have HJK := Lib.hid (show (if k = 0 then ([] : List UInt8) else [32]) = [32] from if_neg hk0)
              go_wp2_with (first
                | (at_builtin; refine wpList_push elemByte rfl (.tmp 77) (.tmp 78) rfl w.heap.size Ab jl cb ((joinB (T.take k)).map vb) rfl (World.ownsRow.alloc (by have := hJ.out.own; rw [Hjb.out] at this; exact this) _) _ rfl [.int .u8 32] rfl (new_cells wr _ _) (by intro u hu; simp at hu; subst hu; rfl) (by omega) (by omega) (Nat.le_trans hJ.out.bel.size (by simp)) ?_; intro A8 c8 w8 hown8 hb8 hg8; have H8 := Lib.hid hown8; have B8 := Lib.hid ((hJ.out.bel.alloc hJ.out.bel.size _).trans hb8); clear hown8 hb8 hg8)
                | (at_builtin; go_must (refine wpList_app_str (by kernel_rfl) Tryz.underlying22 Tryz.underlying9 rfl (.tmp 80) (.tmp 81) rfl w.heap.size A8 (jl + 1) c8 _ rfl H8.out (t.text) rfl (by omega) B8.out.size ?_; intro A6 c6 w6 hown6 hb6 hg6; have H6 := Lib.hid hown6; have B6 := Lib.hid (B8.out.trans hb6); clear hown6 hb6 hg6)))
              go_roundw
              case rel => exact .inl ⟨k + 1, A6, c6, by omega, by go_num, slice_eq (by rw [HJS.out, List.length_append, List.length_append, Hjb.out, Hsp.out]; simp [HJK.out]), JSt.next Ht.out Hok.out hJ.out.ok H6.out (by rw [HJS.out, List.length_append, List.length_append, Hjb.out, Hsp.out]; simp [HJK.out]) (by rw [HJS.out, Hsp.out]; simp [HJK.out, vb]) B6.out⟩
              case measure => simp [intOf]; omega
        by_cases h3 : t.kind = 3
        · have e1 : (t.kind == 1) = false := by rw [h3]; rfl
          have e2 : (t.kind == 2) = false := by rw [h3]; rfl
          have e3 : (t.kind == 3) = true := by rw [h3]; rfl
          have e5 : (t.kind == 5) = false := by rw [h3]; rfl
          have Hok := Lib.hid (show okTok t = textB t.text by unfold okTok; rw [h3]; rfl)
          have Hsp := Lib.hid (show spell t = 34 :: (escape t.text ++ [34]) by unfold spell; rw [if_pos h3])
          have hel : (escape t.text).length + 2 = (spell t).length := by rw [Hsp.out]; simp
          clear h3 h1 h2
          go_wp2_with (fail)
          refine (rcontents_any t.text _ (by omega)).mono ?_
          rintro E w5 ⟨rfl, rfl⟩
          generalize hbb : textB t.text = bb at Hok ⊢
          clear hbb
          go_wp2_with (fail)
          refine (rquote_any t.text wr (by omega)).mono ?_
          rintro E w7 ⟨rfl, hb7'⟩
          have hb7 := Lib.hid hb7'
          have hJ7 := Lib.hid (hJ.out.below hb7.out)
          have g7 := (hb7.out.cell (World.block_lt_of_cell? _ _ g1)).trans g1
          clear hb7' g1 g2
          cases bb with
          | false =>
            go_wp2
            go_ret2
            exact JPost.no (joinOk_bad Ht.out Hok.out) hJ7.out.bel
          | true =>
            by_cases hk0 : k = 0
            · subst hk0
              simp only [Nat.zero_mul, Nat.add_zero] at g7
              go_wp2_with (first
                | (at_builtin; go_must (refine wpList_app_str (by kernel_rfl) Tryz.underlying22 Tryz.underlying9 rfl (.tmp 80) (.tmp 81) rfl w.heap.size Ab jl cb ((joinB (T.take 0)).map vb) rfl (by have := hJ7.out.own; rw [Hjb.out] at this; exact this) (34 :: (escape t.text ++ [34])) rfl (by simp; omega) hJ7.out.bel.size ?_; intro A6 c6 w6 hown6 hb6 hg6; have H6 := Lib.hid hown6; have B6 := Lib.hid (hJ7.out.bel.trans hb6); clear hown6 hb6 hg6)))
              go_roundw
              case rel => exact .inl ⟨1, A6, c6, by omega, rfl, slice_eq (by rw [HJS.out, List.length_append, List.length_append, Hjb.out, Hsp.out]; simp), JSt.next Ht.out Hok.out hJ7.out.ok H6.out (by rw [HJS.out, List.length_append, List.length_append, Hjb.out, Hsp.out]; simp) (by rw [HJS.out, Hsp.out]; simp) B6.out⟩
              case measure => simp [intOf]; try omega
            · have hk1 : (0 : Int) < (k : Int) := by omega
              have hkb : decide (0 < k) = true := decide_eq_true (by omega)
              have HJK := Lib.hid (show (if k = 0 then ([] : List UInt8) else [32]) = [32] from if_neg hk0)
              go_wp2_with (first
                | (at_builtin; refine wpList_push elemByte rfl (.tmp 77) (.tmp 78) rfl w.heap.size Ab jl cb ((joinB (T.take k)).map vb) rfl (World.ownsRow.alloc (by have := hJ7.out.own; rw [Hjb.out] at this; exact this) _) _ rfl [.int .u8 32] rfl (new_cells w7 _ _) (by intro u hu; simp at hu; subst hu; rfl) (by omega) (by omega) (Nat.le_trans hJ7.out.bel.size (by simp)) ?_; intro A8 c8 w8 hown8 hb8 hg8; have H8 := Lib.hid hown8; have B8 := Lib.hid ((hJ7.out.bel.alloc hJ7.out.bel.size _).trans hb8); clear hown8 hb8 hg8)
                | (at_builtin; go_must (refine wpList_app_str (by kernel_rfl) Tryz.underlying22 Tryz.underlying9 rfl (.tmp 80) (.tmp 81) rfl w.heap.size A8 (jl + 1) c8 _ rfl H8.out (34 :: (escape t.text ++ [34])) rfl (by simp; omega) B8.out.size ?_; intro A6 c6 w6 hown6 hb6 hg6; have H6 := Lib.hid hown6; have B6 := Lib.hid (B8.out.trans hb6); clear hown6 hb6 hg6)))
              go_roundw
              case rel => exact .inl ⟨k + 1, A6, c6, by omega, by go_num, slice_eq (by rw [HJS.out, List.length_append, List.length_append, Hjb.out, Hsp.out]; simp [HJK.out]), JSt.next Ht.out Hok.out hJ7.out.ok H6.out (by rw [HJS.out, List.length_append, List.length_append, Hjb.out, Hsp.out]; simp [HJK.out]) (by rw [HJS.out, Hsp.out]; simp [HJK.out, vb]) B6.out⟩
              case measure => simp [intOf]; omega
        by_cases h4 : t.kind = 4
        · have e1 : (t.kind == 1) = false := by rw [h4]; rfl
          have e2 : (t.kind == 2) = false := by rw [h4]; rfl
          have e3 : (t.kind == 3) = false := by rw [h4]; rfl
          have e4 : (t.kind == 4) = true := by rw [h4]; rfl
          have e5 : (t.kind == 5) = false := by rw [h4]; rfl
          have Hok := Lib.hid (show okTok t = signB t.text by unfold okTok; rw [h4]; rfl)
          have Hsp := Lib.hid (show spell t = t.text by unfold spell; rw [if_neg (by omega)])
          clear h4 h1 h2 h3
          go_wp2_with (fail)
          refine (rsign_any t.text _).mono ?_
          rintro E w5 ⟨rfl, rfl⟩
          generalize hbb : signB t.text = bb at Hok ⊢
          clear hbb
          cases bb with
          | false =>
            go_wp2
            go_ret2
            exact JPost.no (joinOk_bad Ht.out Hok.out) hJ.out.bel
          | true =>
            by_cases hk0 : k = 0
            · subst hk0
              simp only [Nat.zero_mul, Nat.add_zero] at g1
              go_wp2_with (first
                | (at_builtin; go_must (refine wpList_app_str (by kernel_rfl) Tryz.underlying22 Tryz.underlying9 rfl (.tmp 80) (.tmp 81) rfl w.heap.size Ab jl cb ((joinB (T.take 0)).map vb) rfl (by have := hJ.out.own; rw [Hjb.out] at this; exact this) (t.text) rfl (by omega) hJ.out.bel.size ?_; intro A6 c6 w6 hown6 hb6 hg6; have H6 := Lib.hid hown6; have B6 := Lib.hid (hJ.out.bel.trans hb6); clear hown6 hb6 hg6)))
              go_roundw
              case rel => exact .inl ⟨1, A6, c6, by omega, rfl, slice_eq (by rw [HJS.out, List.length_append, List.length_append, Hjb.out, Hsp.out]; simp), JSt.next Ht.out Hok.out hJ.out.ok H6.out (by rw [HJS.out, List.length_append, List.length_append, Hjb.out, Hsp.out]; simp) (by rw [HJS.out, Hsp.out]; simp) B6.out⟩
              case measure => simp [intOf]; try omega
            · have hk1 : (0 : Int) < (k : Int) := by omega
              have hkb : decide (0 < k) = true := decide_eq_true (by omega)
              have HJK := Lib.hid (show (if k = 0 then ([] : List UInt8) else [32]) = [32] from if_neg hk0)
              go_wp2_with (first
                | (at_builtin; refine wpList_push elemByte rfl (.tmp 77) (.tmp 78) rfl w.heap.size Ab jl cb ((joinB (T.take k)).map vb) rfl (World.ownsRow.alloc (by have := hJ.out.own; rw [Hjb.out] at this; exact this) _) _ rfl [.int .u8 32] rfl (new_cells wr _ _) (by intro u hu; simp at hu; subst hu; rfl) (by omega) (by omega) (Nat.le_trans hJ.out.bel.size (by simp)) ?_; intro A8 c8 w8 hown8 hb8 hg8; have H8 := Lib.hid hown8; have B8 := Lib.hid ((hJ.out.bel.alloc hJ.out.bel.size _).trans hb8); clear hown8 hb8 hg8)
                | (at_builtin; go_must (refine wpList_app_str (by kernel_rfl) Tryz.underlying22 Tryz.underlying9 rfl (.tmp 80) (.tmp 81) rfl w.heap.size A8 (jl + 1) c8 _ rfl H8.out (t.text) rfl (by omega) B8.out.size ?_; intro A6 c6 w6 hown6 hb6 hg6; have H6 := Lib.hid hown6; have B6 := Lib.hid (B8.out.trans hb6); clear hown6 hb6 hg6)))
              go_roundw
              case rel => exact .inl ⟨k + 1, A6, c6, by omega, by go_num, slice_eq (by rw [HJS.out, List.length_append, List.length_append, Hjb.out, Hsp.out]; simp [HJK.out]), JSt.next Ht.out Hok.out hJ.out.ok H6.out (by rw [HJS.out, List.length_append, List.length_append, Hjb.out, Hsp.out]; simp [HJK.out]) (by rw [HJS.out, Hsp.out]; simp [HJK.out, vb]) B6.out⟩
              case measure => simp [intOf]; omega
        have e1 : (t.kind == 1) = false := by simpa using h1
        have e2 : (t.kind == 2) = false := by simpa using h2
        have e4 : (t.kind == 4) = false := by simpa using h4
        have e3 : (t.kind == 3) = false := by simpa using h3
        have Hok := Lib.hid (show okTok t = false by unfold okTok; rw [if_neg h1, if_neg h2, if_neg h4, if_neg h3])
        clear h1 h2 h3 h4
        cases h5 : t.kind == 5 with
        | true =>
          go_wp2
          go_ret2
          exact JPost.no (joinOk_bad Ht.out Hok.out) hJ.out.bel
        | false =>
          go_wp2
          go_ret2
          exact JPost.no (joinOk_bad Ht.out Hok.out) hJ.out.bel
      · obtain rfl : k = T.length := by omega
        obtain ⟨_, g1, g2, _⟩ := hT.out.tokAt (k := T.length) (t := e) (by simp)
        have el : ((T.length : Int) == (T.length : Int)) = true := by simp
        have hTT : T.take T.length = T := List.take_length
        have hown := hJ.out.own
        have hall := hJ.out.ok
        rw [hTT] at hown hall ⊢
        have Hown := Lib.hid hown
        have Hall := Lib.hid hall
        have hjl := joinB_len T
        clear hTT hown hall
        by_cases h1 : e.kind = 1
        · have e1 : (e.kind == 1) = true := by rw [h1]; rfl
          have e5 : (e.kind == 5) = false := by rw [h1]; rfl
          have Hno := Lib.hid (joinOk_kind (T := T) (e := e) (by omega))
          clear h1
          go_wp2_with (fail)
          refine (rword_any e.text _ (by omega)).mono ?_
          rintro E w5 ⟨rfl, rfl⟩
          generalize wordB e.text = bb
          cases bb with
          | false =>
            go_wp2
            go_ret2
            exact JPost.no Hno.out hJ.out.bel
          | true =>
            go_wp2
            go_ret2
            exact JPost.no Hno.out hJ.out.bel
        by_cases h2 : e.kind = 2
        · have e1 : (e.kind == 1) = false := by rw [h2]; rfl
          have e2 : (e.kind == 2) = true := by rw [h2]; rfl
          have e5 : (e.kind == 5) = false := by rw [h2]; rfl
          have Hno := Lib.hid (joinOk_kind (T := T) (e := e) (by omega))
          clear h2 h1
          go_wp2_with (fail)
          refine (rinteger_any e.text _ (by omega)).mono ?_
          rintro E w5 ⟨rfl, rfl⟩
          generalize intB e.text = bb
          cases bb with
          | false =>
            go_wp2
            go_ret2
            exact JPost.no Hno.out hJ.out.bel
          | true =>
            go_wp2
            go_ret2
            exact JPost.no Hno.out hJ.out.bel
        by_cases h3 : e.kind = 3
        · have e1 : (e.kind == 1) = false := by rw [h3]; rfl
          have e2 : (e.kind == 2) = false := by rw [h3]; rfl
          have e3 : (e.kind == 3) = true := by rw [h3]; rfl
          have e5 : (e.kind == 5) = false := by rw [h3]; rfl
          have Hno := Lib.hid (joinOk_kind (T := T) (e := e) (by omega))
          clear h3 h1 h2
          go_wp2_with (fail)
          refine (rcontents_any e.text _ (by omega)).mono ?_
          rintro E w5 ⟨rfl, rfl⟩
          generalize textB e.text = bb
          go_wp2_with (fail)
          refine (rquote_any e.text wr (by omega)).mono ?_
          rintro E w7 ⟨rfl, hb7'⟩
          have hb7 := Lib.hid hb7'
          have hJ7 := Lib.hid (hJ.out.below hb7.out)
          have g7 := (hb7.out.cell (World.block_lt_of_cell? _ _ g1)).trans g1
          clear hb7' g1 g2
          cases bb with
          | false =>
            go_wp2
            go_ret2
            exact JPost.no Hno.out hJ7.out.bel
          | true =>
            go_wp2
            go_ret2
            exact JPost.no Hno.out hJ7.out.bel
        by_cases h4 : e.kind = 4
        · have e1 : (e.kind == 1) = false := by rw [h4]; rfl
          have e2 : (e.kind == 2) = false := by rw [h4]; rfl
          have e3 : (e.kind == 3) = false := by rw [h4]; rfl
          have e4 : (e.kind == 4) = true := by rw [h4]; rfl
          have e5 : (e.kind == 5) = false := by rw [h4]; rfl
          have Hno := Lib.hid (joinOk_kind (T := T) (e := e) (by omega))
          clear h4 h1 h2 h3
          go_wp2_with (fail)
          refine (rsign_any e.text _).mono ?_
          rintro E w5 ⟨rfl, rfl⟩
          generalize signB e.text = bb
          cases bb with
          | false =>
            go_wp2
            go_ret2
            exact JPost.no Hno.out hJ.out.bel
          | true =>
            go_wp2
            go_ret2
            exact JPost.no Hno.out hJ.out.bel
        have e1 : (e.kind == 1) = false := by simpa using h1
        have e2 : (e.kind == 2) = false := by simpa using h2
        have e3 : (e.kind == 3) = false := by simpa using h3
        have e4 : (e.kind == 4) = false := by simpa using h4
        clear h1 h2 h3 h4
        by_cases h5 : e.kind = 5
        · have e5 : (e.kind == 5) = true := by rw [h5]; rfl
          cases hx : e.text.isEmpty with
          | false =>
            have Hno := Lib.hid (joinOk_text (T := T) hx)
            clear h5
            go_wp2
            go_ret2
            exact JPost.no Hno.out hJ.out.bel
          | true =>
            have hnil : e.text = [] := by simpa using hx
            have Hyes := Lib.hid (show joinOk T e = true by unfold joinOk; rw [e5, hx, Hall.out]; rfl)
            rw [hnil] at g2
            clear h5 hx
            go_wp2_with (first
              | (at_builtin; go_must (refine wpList_app_str (by kernel_rfl) Tryz.underlying22 Tryz.underlying9 rfl (.tmp 80) (.tmp 81) rfl w.heap.size Ab (joinB T).length cb ((joinB T).map vb) rfl Hown.out [] rfl (by simp; omega) hJ.out.bel.size ?_; intro A6 c6 w6 hown6 hb6 hg6; have H6 := Lib.hid hown6; have B6 := Lib.hid (hJ.out.bel.trans hb6); clear hown6 hb6 hg6)))
            all_goals
              refine ⟨?_, ?_⟩
              · first
                  | exact .inr ⟨A6, c6, rfl, rfl, ⟨by rw [List.take_length]; simpa using H6.out, B6.out, by rw [List.take_length]; exact Hall.out⟩, Hyes.out⟩
                  | ((repeat apply Exists.intro); refine ⟨.inr ⟨A6, c6, by go_num, slice_eq (by simp), ⟨by rw [List.take_length]; simpa using H6.out, B6.out, by rw [List.take_length]; exact Hall.out⟩, Hyes.out⟩, rfl⟩)
              · simp [intOf]
                try omega
        · have Hno := Lib.hid (joinOk_kind (T := T) h5)
          have e5 : (e.kind == 5) = false := by simpa using h5
          clear h5
          go_wp2
          go_ret2
          exact JPost.no Hno.out hJ.out.bel
    · have hown := hJ.out.own
      rw [List.take_length] at hown
      have hbl := Lib.hid hJ.out.bel
      have hlen := joinB_len T
      have Hrd := Lib.hid (own_rd hown)
      clear hJ hown
      generalize hN : (joinB T).length = N at *
      have HN := Lib.hid hN
      have d1 : decide ((65536 : Int) < (N : Int)) = false := decide_eq_false (by omega)
      have d2 : ¬ ((T.length : Int) + 1 < (T.length : Int) + 1) := by omega
      clear hN
      go_wp2
      go_ret2
      refine ⟨hbl.out, .inl ⟨hok.out, Ab, cb, ?_, ?_⟩⟩
      · rw [HN.out]; rfl
      · rw [HN.out]; exact Hrd.out
end Go.Proofs.YtbfgmbijmdbcmaaGreatDoor
