/- The printer's zones by their contract. -/
import Derived.Test.YticpjdjdimpglaaGreatDoorCTisMWText3
import Derived.Test.YticpjdjdimpglaaGreatDoorCTisMFRules
import Derived.Test.YticpjdjdimpglaaGreatDoorCTisMPrt3
import Derived.Test.YticpjdjdimpglaaGreatDoorCTisMJoinPlain
import Derived.Test.YticpjdjdimpglaaGreatDoorProg
import Derived.Lib.SlBytesConst
import Derived.Deep.Cut
import Derived.Deep.DeepMust
import Derived.Test.YticpjdjdimpglaaGreatDoorCTisShelf
import Derived.Shelf.Strings.SlTrimAscii
import Derived.Shelf.Strings.FuncGrows
import Derived.BigQuiet
import Derived.Deep.QuietTactic
import Derived.Laws.RangeAny
namespace Go.Proofs.YticpjdjdimpglaaGreatDoor
set_option linter.unusedVariables false
set_option linter.unusedSimpArgs false
open Go.RowKit
theorem bs_addZ (a b : List UInt8) : bs a ++ bs b = bs (a ++ b) := by
  apply ByteArray.ext
  simp [bs]
def fzoneI (ind : List UInt8) (z : ZT) : List UInt8 := ind ++ z.name ++ [32] ++ dec z.fr ++ (if z.to = z.fr then [] else [32, 116, 111, 32] ++ dec z.to) ++ [59, 10]
theorem flatMap_takeZ {α β : Type} (f : α → List β) {l : List α} {i : Nat} {x : α} (h : l[i]? = some x) : (l.take (i + 1)).flatMap f = (l.take i).flatMap f ++ f x := by
  obtain ⟨hi, e⟩ := List.getElem?_eq_some_iff.1 h
  rw [List.take_succ_eq_append_getElem hi, List.flatMap_append, e]
  simp
theorem flatMap_leZ {α β : Type} (f : α → List β) (l : List α) (i : Nat) : ((l.take i).flatMap f).length ≤ (l.flatMap f).length := by
  have e := congrArg (fun l => (List.flatMap f l).length) (List.take_append_drop i l)
  simp only [List.flatMap_append, List.length_append] at e
  omega
theorem zoneB_parts {z : ZT} (h : zoneB z = true) : (z.fr ≤ 24 ∧ -24 ≤ z.fr) ∧ (z.to ≤ 24 ∧ -24 ≤ z.to) ∧ nameB z.name = true := by
  rw [zoneB_eq] at h
  simp only [Bool.and_eq_true, plB, decide_eq_true_eq] at h
  exact ⟨h.1.1.2, h.1.2.2, h.2⟩
set_option maxHeartbeats 8000000 in
set_option maxRecDepth 100000 in
theorem zones_any {p k : Nat} {s : List UInt8} {l : List ZT} {A : Option Addr} {m d : Nat} {w : World} (hok : l.all zoneB = true) (hk : k ≤ 100) (hm : m ≤ 100) (hps : PS w p s k) (hg : FGb p w) (hr : RepZ (fun j => p ≤ j) w l A m d) (hlen : s.length + (l.flatMap (fzoneI (sps k))).length + 100 ≤ 900000) :
    Calls Tryz.prog 54 #[.pointer (some ⟨p, 0, none⟩), .slice A m d] w (PPst p k s (l.flatMap (fzoneI (sps k))) w) := by
  have HOK := Lib.hid hok
  have HP := Lib.hid hps
  have HG := Lib.hid hg
  have HR := Lib.hid hr
  have HLEN := Lib.hid hlen
  have HL := Lib.hid hr.len
  have hp := hps.lt
  clear hok hps hg hr hlen
  go_enter Tryz.func54, Tryz.ntmps54
  go_wp2_with (fail)
  go_loopw [9] (fun q wr => ∃ i : Nat, i ≤ m ∧ q = .int .i64 i ∧ Hid (PS wr p (s ++ (l.take i).flatMap (fzoneI (sps k))) k) ∧ Hid (PK p w wr)) (fun q _ => m - (intOf q).toNat)
  case atStart => exact ⟨0, Nat.zero_le _, rfl, by show PS w p (s ++ []) k; rw [List.append_nil]; exact HP.out, PK.refl _ _⟩
  case round =>
    obtain ⟨i, him, rfl, HPr, HKr⟩ := hrel
    by_cases hlt : i < m
    · obtain ⟨b, off, z, rfl, hb, hS, hx, h0, h1, h2⟩ := HR.out.elem hlt
      have hbp : b < p := Nat.lt_of_not_le hS
      rw [← HKr.out.below.cell (p := ⟨b, _, none⟩) hbp] at h0 h1 h2
      have HZ := Lib.hid (zoneB_parts (List.all_eq_true.1 HOK.out z (by obtain ⟨q1, q2⟩ := List.getElem?_eq_some_iff.1 hx; rw [← q2]; exact List.getElem_mem q1)))
      have HT := Lib.hid (flatMap_takeZ (fzoneI (sps k)) hx)
      have HTL := Lib.hid (flatMap_leZ (fzoneI (sps k)) l (i + 1))
      have hd1 := dec_len22 z.fr
      have hd2 := dec_len22 z.to
      have hpr := HPr.out.lt
      clear hx
      go_wp2_with (fail)
      first | (refine calls_named ?_; intro W2 hW2) | (refine body_named ?_; intro W2 hW2) | (refine wpList_named ?_; intro W2 hW2) | (refine wp_named ?_; intro W2 hW2)
      have hb2 : Below wr.heap.size wr W2 := by rw [← hW2]; exact (Below.refl _ _).alloc (Nat.le_refl _) _
      have hy2 : Blk W2 wr.heap.size 73 #[.string (bs z.name), .int .i64 z.fr, .int .i64 z.to] := by rw [← hW2]; exact Blk.new wr _ _
      clear hW2
      have HP2 := Lib.hid (HPr.out.below hb2)
      have HK2 := Lib.hid (HKr.out.trans (PK.of_below hb2 (by omega)))
      have HY2 := Lib.hid hy2
      clear hb2 hy2 h0 h1 h2
      refine (itoa_any (n := z.fr) (by have := HZ.out; omega) W2 (HG.out.below HK2.out.below).now).mono ?_
      rintro e w3 ⟨rfl, hb3⟩
      have HP3 := Lib.hid (HP2.out.below hb3)
      have hp2 := HP2.out.lt
      have HK3 := Lib.hid (HK2.out.trans (PK.of_below hb3 (by omega)))
      have HY3 := Lib.hid (HY2.out.below hb3 HY2.out.lt)
      have y0 : w3.cell? ⟨wr.heap.size, 0, none⟩ = some (.string (bs z.name)) := HY3.out.cell 0
      have y1 : w3.cell? ⟨wr.heap.size, 1, none⟩ = some (.int .i64 z.fr) := HY3.out.cell 1
      have y2 : w3.cell? ⟨wr.heap.size, 2, none⟩ = some (.int .i64 z.to) := HY3.out.cell 2
      clear hb3 HP2 HK2 HY2
      by_cases he : z.to = z.fr
      · have HB := Lib.hid (show fzoneI (sps k) z = sps k ++ z.name ++ [32] ++ dec z.fr ++ [59, 10] by unfold fzoneI; rw [if_pos he]; simp)
        have heb : (z.to != z.fr) = false := by rw [he]; simp
        clear he
        go_wp2_with (fail)
        first | (refine calls_named ?_; intro W6 hW6) | (refine body_named ?_; intro W6 hW6) | (refine wpList_named ?_; intro W6 hW6) | (refine wp_named ?_; intro W6 hW6)
        have hb6 : Below w3.heap.size w3 W6 := by rw [← hW6]; exact (Below.refl _ _).alloc (Nat.le_refl _) _
        have hx6 : Blk W6 w3.heap.size 9 #[.string (bs z.name), .string (bs [32]), .string (bs (dec z.fr)), .string (bs [59])] := by
          rw [← hW6]
          exact Blk.new w3 _ _
        clear hW6
        have hp6 := HP3.out.lt
        refine (line_any w3.heap.size 4 [z.name, [32], dec z.fr, [59]] (HP3.out.below hb6) (by omega) hx6 (by omega) rfl (by omega) (by
          have h1 := HLEN.out
          have h2 := HTL.out
          have h3 := congrArg List.length HT.out
          have h4 := congrArg List.length HB.out
          simp only [List.length_append, List.length_cons, List.length_nil, List.flatten_cons, List.flatten_nil] at h1 h2 h3 h4 ⊢
          omega)).mono ?_
        rintro e' w7 ⟨rfl, hps, hpk⟩
        have HP7 := Lib.hid (show PS w7 p (s ++ (l.take (i + 1)).flatMap (fzoneI (sps k))) k by
          rw [HT.out, HB.out]
          simpa [List.append_assoc] using hps)
        have HK7 := Lib.hid ((HK3.out.trans (PK.of_below hb6 (Nat.le_of_lt hp6))).trans hpk)
        clear hps hpk hb6 hx6
        go_wp2_with (fail)
        go_roundw
        case rel => exact ⟨i + 1, hlt, by go_num, HP7.out, HK7.out⟩
        case measure => simp [intOf]; omega
      · have HB := Lib.hid (show fzoneI (sps k) z = sps k ++ z.name ++ [32] ++ (dec z.fr ++ ([32, 116, 111, 32] ++ dec z.to)) ++ [59, 10] by unfold fzoneI; rw [if_neg he]; simp [List.append_assoc])
        have heb : (z.to != z.fr) = true := bne_iff_ne.2 he
        clear he
        go_wp2_with (fail)
        refine (itoa_any (n := z.to) (by have := HZ.out; omega) w3 (HG.out.below HK3.out.below).now).mono ?_
        rintro e w4 ⟨rfl, hb4⟩
        have HP4 := Lib.hid (HP3.out.below hb4)
        have hp3 := HP3.out.lt
        have HK4 := Lib.hid (HK3.out.trans (PK.of_below hb4 (by omega)))
        have HY4 := Lib.hid (HY3.out.below hb4 HY3.out.lt)
        have y0' : w4.cell? ⟨wr.heap.size, 0, none⟩ = some (.string (bs z.name)) := HY4.out.cell 0
        have hs1 : ¬ (9223372036854775807 < 4 + (dec z.to).length) := by omega
        have hs2 : ¬ (9223372036854775807 < (dec z.fr).length + (4 + (dec z.to).length)) := by omega
        clear hb4 y0 y1 y2
        go_wp2_with (fail)
        first | (refine calls_named ?_; intro W6 hW6) | (refine body_named ?_; intro W6 hW6) | (refine wpList_named ?_; intro W6 hW6) | (refine wp_named ?_; intro W6 hW6)
        have hb6 : Below w4.heap.size w4 W6 := by rw [← hW6]; exact (Below.refl _ _).alloc (Nat.le_refl _) _
        have hx6 : Blk W6 w4.heap.size 9 #[.string (bs z.name), .string (bs [32]), .string (bs (dec z.fr ++ ([32, 116, 111, 32] ++ dec z.to))), .string (bs [59])] := by
          rw [← hW6]
          exact by
            have e1 : bs (dec z.fr ++ ([32, 116, 111, 32] ++ dec z.to)) = bs (dec z.fr) ++ (({ data := #[32, 116, 111, 32] } : ByteArray) ++ bs (dec z.to)) := by
              rw [show ({ data := #[32, 116, 111, 32] } : ByteArray) = bs [32, 116, 111, 32] from rfl, bs_addZ, bs_addZ]
            rw [e1]
            exact Blk.new w4 _ _
        clear hW6
        have hp6 := HP4.out.lt
        refine (line_any w4.heap.size 4 [z.name, [32], dec z.fr ++ ([32, 116, 111, 32] ++ dec z.to), [59]] (HP4.out.below hb6) (by omega) hx6 (by omega) rfl (by omega) (by
          have h1 := HLEN.out
          have h2 := HTL.out
          have h3 := congrArg List.length HT.out
          have h4 := congrArg List.length HB.out
          simp only [List.length_append, List.length_cons, List.length_nil, List.flatten_cons, List.flatten_nil] at h1 h2 h3 h4 ⊢
          omega)).mono ?_
        rintro e' w7 ⟨rfl, hps, hpk⟩
        have HP7 := Lib.hid (show PS w7 p (s ++ (l.take (i + 1)).flatMap (fzoneI (sps k))) k by
          rw [HT.out, HB.out]
          simpa [List.append_assoc] using hps)
        have HK7 := Lib.hid ((HK4.out.trans (PK.of_below hb6 (Nat.le_of_lt hp6))).trans hpk)
        clear hps hpk hb6 hx6
        go_wp2_with (fail)
        go_roundw
        case rel => exact ⟨i + 1, hlt, by go_num, HP7.out, HK7.out⟩
        case measure => simp [intOf]; omega
    · have HPF := Lib.hid (show PS wr p (s ++ l.flatMap (fzoneI (sps k))) k by
        have h := HPr.out
        rw [List.take_of_length_le (by rw [← HL.out]; omega)] at h
        exact h)
      go_wp2_with (fail)
      go_end0
      exact ⟨rfl, HPF.out, HKr.out⟩
end Go.Proofs.YticpjdjdimpglaaGreatDoor
/- Plain laws: printed steps are parsed to the steps, with the conditions' cores. No program. -/
namespace Go.Proofs.YticpjdjdimpglaaGreatDoor
set_option linter.unusedVariables false
set_option linter.unusedSimpArgs false
def coreS : SF → SF
  | .nil => .nil
  | .cons k b ck cv cn cps th el r => if k = 2 then .one 2 0 (cores ⟨ck, cv, cn, cps⟩) (coreS th) (coreS el) (coreS r) else .cons k b ck cv cn cps th el (coreS r)
end Go.Proofs.YticpjdjdimpglaaGreatDoor
/- Plain law: FormatParses. Printed rules are parsed to the rules with their conditions' cores, and these are printed the same. No program. -/
namespace Go.Proofs.YticpjdjdimpglaaGreatDoor
set_option linter.unusedVariables false
set_option linter.unusedSimpArgs false
def rtext (r : RT) : List UInt8 := kRules ++ [32] ++ r.name ++ [32, 123, 10, 32, 32] ++ kWin ++ [32] ++ dec r.win ++ [32] ++ kDraw ++ [32] ++ dec r.draw ++ [32] ++ kLoss ++ [32] ++ dec r.loss ++ [59, 10, 32, 32] ++ kOrder ++ [32, 123, 10] ++
   flines [32, 32, 32, 32] r.order ++ [32, 32, 125, 10, 32, 32] ++ kZones ++ [32, 123, 10] ++ r.zones.flatMap fzone ++ [32, 32, 125, 10, 125, 10]
end Go.Proofs.YticpjdjdimpglaaGreatDoor
/- Plain law: FormatParses: printed rules are parsed to the rules with their conditions' cores; these are valid and printed the same. No program. -/
namespace Go.Proofs.YticpjdjdimpglaaGreatDoor
set_option linter.unusedVariables false
set_option linter.unusedSimpArgs false
theorem lines_core : ∀ (l : SF) (ind : List UInt8), l.okB = true → flines ind (coreS l) = flines ind l
  | .nil, ind, _ => rfl
  | .cons k b ck cv cn cps th el r, ind, h => by
    obtain ⟨hc, hr⟩ := okS_cons h
    rcases hc with hc | hc
    · rw [show coreS (.cons k b ck cv cn cps th el r) = .cons k b ck cv cn cps th el (coreS r) by
        show (if k = 2 then _ else _) = _
        rw [if_neg (by omega)]]
      unfold flines
      rw [if_pos hc.1, lines_core r ind hr]
    · rw [show coreS (.cons k b ck cv cn cps th el r) = .one 2 0 (cores ⟨ck, cv, cn, cps⟩) (coreS th) (coreS el) (coreS r) by
        show (if k = 2 then _ else _) = _
        rw [if_pos hc.1]]
      have hnum : (coreS el).num = el.num := coreS_num el
      unfold SF.one flines
      have n1 : ¬ k = 1 := by omega
      rw [if_neg (by decide), if_neg n1, lines_core th _ hc.2.2.2.2.1, lines_core el _ hc.2.2.2.2.2, lines_core r ind hr, hnum]
      rw [show (⟨(cores ⟨ck, cv, cn, cps⟩).k, (cores ⟨ck, cv, cn, cps⟩).v, (cores ⟨ck, cv, cn, cps⟩).n, (cores ⟨ck, cv, cn, cps⟩).ps⟩ : CT) = cores ⟨ck, cv, cn, cps⟩ from rfl, (text_cores 100 _).1]
where
  coreS_num : ∀ l : SF, (coreS l).num = l.num
    | .nil => rfl
    | .cons k b ck cv cn cps th el r => by
      unfold coreS
      split
      · show (coreS r).num + 1 = r.num + 1
        rw [coreS_num r]
      · show (coreS r).num + 1 = r.num + 1
        rw [coreS_num r]
theorem coreS_num (l : SF) : (coreS l).num = l.num := lines_core.coreS_num l
theorem isZ_cores {c : CT} (h : okC c = true) : CT.isZ (cores c) = false ∧ CT.isZ c = false := by
  have key : ∀ d : CT, okC d = true → CT.isZ d = false := fun d hd => by
    unfold CT.isZ
    have : ¬ d.k = 0 := by
      rcases okC_cases hd with h1 | h1 | h1 <;> omega
    rw [decide_eq_false (fun e => this e.1)]
    rfl
  exact ⟨key _ (cor1_ok c.ps c.k c.v c.n h).1, key c h⟩
theorem torder_zero {l : SF} (h : torder l = 0) : l.cntS ≤ 64 ∧ l.cntC ≤ 256 ∧ l.dep ≤ 17 ∧ l.cdep ≤ 17 ∧ l.num ≠ 0 ∧ l.okB = true := by
  unfold torder at h
  split at h
  · omega
  · next h1 =>
    split at h
    · omega
    · next h2 =>
      refine ⟨by omega, by omega, by omega, by omega, fun e => h2 (.inl e), ?_⟩
      cases hb : l.okB
      · exact absurd (.inr hb) h2
      · rfl
theorem trules_zero {r : RT} (h : trules r = 0) : nameB r.name = true ∧ r.win ≤ 99 ∧ r.draw ≤ r.win ∧ r.loss ≤ r.draw ∧ -99 ≤ r.loss ∧ torder r.order = 0 ∧ r.zones.length ≤ 16 ∧ r.zones.all zoneB = true := by
  unfold trules at h
  split at h
  · omega
  · next h1 =>
    have hn : nameB r.name = true := by
      cases hb : nameB r.name
      · exact absurd (.inl hb) h1
      · rfl
    split at h
    · next h2 => exact absurd h h2
    · next h2 =>
      split at h
      · omega
      · next h3 =>
        split at h
        · next h4 => exact ⟨hn, by omega, by omega, by omega, by omega, by simpa using h2, by omega, h4⟩
        · omega
theorem frules_def (r : RT) : frules r = if trules r ≠ 0 then ([], trules r) else if kwB r.name || r.zones.any (fun z => kwB z.name) then ([], 140) else (rtext r, 0) := rfl
end Go.Proofs.YticpjdjdimpglaaGreatDoor
/- format.Rules's closures by their contracts. -/
namespace Go.Proofs.YticpjdjdimpglaaGreatDoor
set_option linter.unusedVariables false
set_option linter.unusedSimpArgs false
open Go.RowKit
/-- What is printed between the first and the last row. -/
def rbody (r : RT) : List UInt8 := sps 1 ++ ([119, 105, 110, 32] ++ dec r.win ++ [32, 100, 114, 97, 119, 32] ++ dec r.draw ++ [32, 108, 111, 115, 115, 32] ++ dec r.loss ++ [59, 10]) ++
  (sps 1 ++ kOrder ++ [32, 123, 10] ++ flines (sps 2) r.order ++ sps 1 ++ [125, 10]) ++ (sps 1 ++ kZones ++ [32, 123, 10] ++ r.zones.flatMap (fzoneI (sps 2)) ++ sps 1 ++ [125, 10])
set_option maxHeartbeats 8000000 in
set_option maxRecDepth 100000 in
theorem fRules21_any {p k : Nat} {s : List UInt8} {l : SF} {q : Nat} {cs : Array Value} {w : World} (hok : l.okB = true) (hcd : l.cdep ≤ 17) (hdk : l.dep + k ≤ 100) (hsz : l.sz ≤ 2000) (hps : PS w p s k) (hg : FGb p w) (hcp : 0 < p)
    (hx : Blk w q 28 cs) {A : Option Addr} {m d : Nat} (hc : cs[4]? = some (.slice A m d)) (hr : RepT (fun j => p ≤ j) w l A m d) (hlen : s.length + (flines (sps k) l).length + 100 ≤ 900000) :
    Calls Tryz.prog 51 #[.pointer (some ⟨p, 0, none⟩), .pointer (some ⟨q, 0, none⟩)] w (PPst p k s (flines (sps k) l) w) := by
  have HC := Lib.hid (stp_all (l.sz + 1) p k s l A m d w (Nat.lt_succ_self _) hok hcd hdk hsz hps hg hcp hr hlen)
  have y0 : w.cell? ⟨q, 4, none⟩ = some (.slice A m d) := (hx.cell 4).trans hc
  clear hok hcd hdk hsz hps hg hcp hx hc hr hlen
  go_enter Tryz.func51, Tryz.ntmps51
  go_wp2_with (fail)
  refine HC.out.mono ?_
  rintro e w2 ⟨rfl, hps, hpk⟩
  have H := Lib.hid (And.intro hps hpk)
  clear hps hpk y0
  go_wp2_with (fail)
  go_end0
  exact ⟨rfl, H.out.1, H.out.2⟩
set_option maxHeartbeats 8000000 in
set_option maxRecDepth 100000 in
theorem fRules22_any {p k : Nat} {s : List UInt8} {l : List ZT} {q : Nat} {cs : Array Value} {w : World} (hok : l.all zoneB = true) (hk : k ≤ 100) (hps : PS w p s k) (hg : FGb p w)
    (hx : Blk w q 28 cs) {A : Option Addr} {m d : Nat} (hm : m ≤ 100) (hc : cs[5]? = some (.slice A m d)) (hr : RepZ (fun j => p ≤ j) w l A m d) (hlen : s.length + (l.flatMap (fzoneI (sps k))).length + 100 ≤ 900000) :
    Calls Tryz.prog 53 #[.pointer (some ⟨p, 0, none⟩), .pointer (some ⟨q, 0, none⟩)] w (PPst p k s (l.flatMap (fzoneI (sps k))) w) := by
  have HC := Lib.hid (zones_any hok hk hm hps hg hr hlen)
  have y0 : w.cell? ⟨q, 5, none⟩ = some (.slice A m d) := (hx.cell 5).trans hc
  clear hok hps hg hx hc hr hlen
  go_enter Tryz.func53, Tryz.ntmps53
  go_wp2_with (fail)
  refine HC.out.mono ?_
  rintro e w2 ⟨rfl, hps, hpk⟩
  have H := Lib.hid (And.intro hps hpk)
  clear hps hpk y0
  go_wp2_with (fail)
  go_end0
  exact ⟨rfl, H.out.1, H.out.2⟩
set_option maxHeartbeats 8000000 in
set_option maxRecDepth 100000 in
theorem fRules2_any {p : Nat} {s : List UInt8} {r : RT} {q : Nat} {A : Option Addr} {m d : Nat} {C : Option Addr} {n c : Nat} {w : World} (ht : trules r = 0) (hsz : r.order.sz ≤ 2000) (hps : PS w p s 1) (hg : FGb p w) (hcp : 0 < p) (hqp : q < p)
    (hx : Blk w q 28 #[.string (bs r.name), .int .i64 r.win, .int .i64 r.draw, .int .i64 r.loss, .slice A m d, .slice C n c]) (hr : RepT (fun j => p ≤ j) w r.order A m d) (hz : RepZ (fun j => p ≤ j) w r.zones C n c) (hlen : s.length + (rbody r).length + 100 ≤ 800000) :
    Calls Tryz.prog 48 #[.pointer (some ⟨p, 0, none⟩), .pointer (some ⟨q, 0, none⟩)] w (PPst p 1 s (rbody r) w) := by
  have HTZ := Lib.hid (trules_zero ht)
  have HTO := Lib.hid (torder_zero HTZ.out.2.2.2.2.2.1)
  have hn16 : n ≤ 16 := by rw [hz.len]; exact HTZ.out.2.2.2.2.2.2.1
  have HSZ := Lib.hid hsz
  have HP := Lib.hid hps
  have HG := Lib.hid hg
  have HX := Lib.hid hx
  have HR := Lib.hid hr
  have HZ := Lib.hid hz
  have HLEN := Lib.hid hlen
  have hp := hps.lt
  have c1 : w.cell? ⟨q, 1, none⟩ = some (.int .i64 r.win) := hx.cell 1
  have c2 : w.cell? ⟨q, 2, none⟩ = some (.int .i64 r.draw) := hx.cell 2
  have c3 : w.cell? ⟨q, 3, none⟩ = some (.int .i64 r.loss) := hx.cell 3
  have hql := hx.lt
  have HI : ∀ n : Int, (-99 ≤ n ∧ n ≤ 99) → Hid (∀ W, Below w.heap.size w W → Calls Tryz.prog 50 #[.int .i64 n] W fun e w' => e = .returned (.string (bs (dec n))) ∧ Below w.heap.size w w') := fun n hn => Lib.hid (fun W hW => (itoa_any hn W (HG.out.below (hW.mono (Nat.le_of_lt hp))).now).mono fun e w' ⟨he, hb⟩ => ⟨he, hW.trans (hb.mono hW.size)⟩)
  have HI1 := HI r.win (by have := HTZ.out; omega)
  have HI2 := HI r.draw (by have := HTZ.out; omega)
  have HI3 := HI r.loss (by have := HTZ.out; omega)
  have hbd := Lib.hid (show Below w.heap.size w w.drew from ⟨rfl, rfl, rfl, Nat.le_refl _, fun _ _ => rfl⟩)
  clear HI ht hsz hps hg hx hr hz hlen
  obtain ⟨nm, t1, t2, t3, o, zs⟩ := r
  dsimp only at *
  generalize e1 : dec t1 = d1 at HI1
  generalize e2 : dec t2 = d2 at HI2
  generalize e3 : dec t3 = d3 at HI3
  have HD := Lib.hid (And.intro e1 (And.intro e2 e3))
  clear e1 e2 e3
  have HLR := Lib.hid (show s.length + (sps 1 ++ ([119, 105, 110, 32] ++ d1 ++ [32, 100, 114, 97, 119, 32] ++ d2 ++ [32, 108, 111, 115, 115, 32] ++ d3 ++ [59, 10]) ++
      (sps 1 ++ kOrder ++ [32, 123, 10] ++ flines (sps 2) o ++ sps 1 ++ [125, 10]) ++ (sps 1 ++ kZones ++ [32, 123, 10] ++ zs.flatMap (fzoneI (sps 2)) ++ sps 1 ++ [125, 10])).length + 100 ≤ 800000 by
    have h := HLEN.out
    unfold rbody at h
    dsimp only at h
    rw [HD.out.1, HD.out.2.1, HD.out.2.2] at h
    exact h)
  go_enter Tryz.func48, Tryz.ntmps48
  go_wp2_with (fail)
  go_region_held3 (fun w' => w'.cell? ⟨q, 1, none⟩ = some (.int .i64 t1) ∧ w'.cell? ⟨q, 2, none⟩ = some (.int .i64 t2) ∧ w'.cell? ⟨q, 3, none⟩ = some (.int .i64 t3) ∧ Hid (PK p w w'))
    (first
      | (exact ⟨c1, c2, c3, Lib.hid ⟨⟨rfl, rfl, rfl, Nat.le_refl _, fun _ _ => rfl⟩, (Lib.OthersKept.refl _ _ _).drew⟩⟩)
      | (have hbk : Below wn.heap.size wn (wn.alloc (.cells #[.string (bs [119, 105, 110, 32]), .string (bs d1), .string (bs [32, 100, 114, 97, 119, 32]), .string (bs d2), .string (bs [32, 108, 111, 115, 115, 32]), .string (bs d3), .string (bs [59])] 9)) := (Below.refl _ _).alloc (Nat.le_refl _) _
         have hzn := hbz.out.size
         exact ⟨(hbk.cell (by show q < _; omega)).trans z1, (hbk.cell (by show q < _; omega)).trans z2, (hbk.cell (by show q < _; omega)).trans z3, Lib.hid (zb.out.trans (PK.of_below hbk (by omega)))⟩)
      | (exact ⟨z1, z2, z3, zb⟩))
    ((first
      | (go_at_call 50
         first
           | (with_reducible refine (HI1.out _ hbz.out).mono ?_)
           | (with_reducible refine (HI2.out _ hbz.out).mono ?_)
           | (with_reducible refine (HI3.out _ hbz.out).mono ?_)
           | (with_reducible refine (HI1.out _ hbd.out).mono ?_)
           | (with_reducible refine (HI2.out _ hbd.out).mono ?_)
           | (with_reducible refine (HI3.out _ hbd.out).mono ?_)
         rintro e' wn ⟨rfl, hbn⟩
         have hbz := Lib.hid hbn
         have z1 := (hbn.cell (p := ⟨q, 1, none⟩) hql).trans c1
         have z2 := (hbn.cell (p := ⟨q, 2, none⟩) hql).trans c2
         have z3 := (hbn.cell (p := ⟨q, 3, none⟩) hql).trans c3
         have zb := Lib.hid (PK.of_below hbn (show p ≤ w.heap.size by omega))
         clear hbn)
      | (go_at_call 49
         have hbk : Below wn.heap.size wn (wn.alloc (.cells #[.string (bs [119, 105, 110, 32]), .string (bs d1), .string (bs [32, 100, 114, 97, 119, 32]), .string (bs d2), .string (bs [32, 108, 111, 115, 115, 32]), .string (bs d3), .string (bs [59])] 9)) := (Below.refl _ _).alloc (Nat.le_refl _) _
         have hnb : Blk (wn.alloc (.cells #[.string (bs [119, 105, 110, 32]), .string (bs d1), .string (bs [32, 100, 114, 97, 119, 32]), .string (bs d2), .string (bs [32, 108, 111, 115, 115, 32]), .string (bs d3), .string (bs [59])] 9)) wn.heap.size 9 #[.string (bs [119, 105, 110, 32]), .string (bs d1), .string (bs [32, 100, 114, 97, 119, 32]), .string (bs d2), .string (bs [32, 108, 111, 115, 115, 32]), .string (bs d3), .string (bs [59])] := Blk.new wn _ _
         have hzn := hbz.out.size
         refine (line_any wn.heap.size 7 [[119, 105, 110, 32], d1, [32, 100, 114, 97, 119, 32], d2, [32, 108, 111, 115, 115, 32], d3, [59]] ((HP.out.below hbz.out).below hbk) (by omega) hnb (by omega) rfl (by omega) (by
           have h1 := HLR.out
           simp only [List.length_append, List.length_cons, List.length_nil, List.flatten_cons, List.flatten_nil] at h1 ⊢
           omega)).mono ?_
         rintro e' w4 ⟨rfl, hps, hpk⟩
         have hpk2 := (zb.out.trans (PK.of_below hbk (by omega))).trans hpk
         have HP4 := Lib.hid (show PS w4 p (s ++ (sps 1 ++ ([119, 105, 110, 32] ++ d1 ++ [32, 100, 114, 97, 119, 32] ++ d2 ++ [32, 108, 111, 115, 115, 32] ++ d3 ++ [59, 10]))) 1 by simpa [List.append_assoc] using hps)
         have z1 := (hpk2.below.cell (p := ⟨q, 1, none⟩) hqp).trans c1
         have z2 := (hpk2.below.cell (p := ⟨q, 2, none⟩) hqp).trans c2
         have z3 := (hpk2.below.cell (p := ⟨q, 3, none⟩) hqp).trans c3
         have zb := Lib.hid hpk2
         clear hbk hnb hps hpk hpk2)))
  all_goals
    have HK4 := zb
    clear z1 z2 z3 c1 c2 c3 HI1 HI2 HI3
    have HX4 := Lib.hid ((show Blk w4 q 28 _ from (HK4.out.below.block q hqp).trans HX.out))
    go_wp2_with (fail)
    refine (block_any kOrder 51 #[.pointer (some ⟨p, 0, none⟩), .pointer (some ⟨q, 0, none⟩)] (flines (sps 2) o) HP4.out (by omega) (enters_of Tryz.func51 (by kernel_rfl) rfl) (by
      have h1 := HLR.out
      simp only [List.length_append, List.length_cons, List.length_nil, sps_len, Nat.reduceAdd] at h1 ⊢
      omega) (fun w' hs' hk' => fRules21_any HTO.out.2.2.2.2.2 HTO.out.2.2.2.1 (by have := HTO.out; omega) HSZ.out hs' (HG.out.below (HK4.out.trans hk').below) hcp ((hk'.below.block q hqp).trans HX4.out) rfl (HR.out.only (HK4.out.trans hk').only (fun _ h => h)) (by
      have h1 := HLR.out
      simp only [List.length_append, List.length_cons, List.length_nil, sps_len, Nat.reduceAdd] at h1 ⊢
      omega))).mono ?_
    rintro e' w5 ⟨rfl, hps, hpk⟩
    have HP5 := Lib.hid hps
    have HK5 := Lib.hid (HK4.out.trans hpk)
    have HX5 := Lib.hid ((show Blk w5 q 28 _ from (hpk.below.block q hqp).trans HX4.out))
    clear hps hpk
    go_wp2_with (fail)
    refine (block_any kZones 53 #[.pointer (some ⟨p, 0, none⟩), .pointer (some ⟨q, 0, none⟩)] (zs.flatMap (fzoneI (sps 2))) HP5.out (by omega) (enters_of Tryz.func53 (by kernel_rfl) rfl) (by
      have h1 := HLR.out
      simp only [List.length_append, List.length_cons, List.length_nil, sps_len, Nat.reduceAdd] at h1 ⊢
      omega) (fun w' hs' hk' => fRules22_any HTZ.out.2.2.2.2.2.2.2 (by omega) hs' (HG.out.below (HK5.out.trans hk').below) ((hk'.below.block q hqp).trans HX5.out) (by omega) rfl (HZ.out.only (HK5.out.trans hk').only (fun _ h => h)) (by
      have h1 := HLR.out
      simp only [List.length_append, List.length_cons, List.length_nil, sps_len, Nat.reduceAdd] at h1 ⊢
      omega))).mono ?_
    rintro e' w6 ⟨rfl, hps, hpk⟩
    have HP6 := Lib.hid (show PS w6 p (s ++ rbody ⟨nm, t1, t2, t3, o, zs⟩) 1 by
      unfold rbody
      dsimp only
      rw [HD.out.1, HD.out.2.1, HD.out.2.2]
      simpa [List.append_assoc] using hps)
    have HK6 := Lib.hid (HK5.out.trans hpk)
    clear hps hpk
    go_wp2_with (fail)
    go_end0
    exact ⟨rfl, HP6.out, HK6.out⟩
end Go.Proofs.YticpjdjdimpglaaGreatDoor
/- typing.Rules by its contract. -/
namespace Go.Proofs.YticpjdjdimpglaaGreatDoor
set_option linter.unusedVariables false
set_option linter.unusedSimpArgs false
open Go.RowKit
set_option maxHeartbeats 8000000 in
set_option maxRecDepth 100000 in
/-- typing.Rules. -/
theorem trules_any (S S' : Nat → Prop) (r : RT) (A : Option Addr) (m d : Nat) (C : Option Addr) (n c : Nat) (w : World) (h1 : RepT S w r.order A m d) (h2 : RepZ S' w r.zones C n c) (hz : r.order.sz ≤ 1000000) (hl : r.name.length ≤ 1000000) (hlz : ∀ z ∈ r.zones, z.name.length ≤ 1000000) :
    Calls Tryz.prog 34 #[rV r A m d C n c] w fun e w' => e = .returned (.int .i64 (trules r)) ∧ Below w.heap.size w w' := by
  have HE := Lib.hid (trules_def r)
  generalize trules r = q at HE ⊢
  have HT := Lib.hid h1
  have HZ := Lib.hid h2
  have HLZ := Lib.hid hlz
  have HL := Lib.hid h2.len
  have hcap := h2.1.cap
  have hbig := h2.1.big
  obtain ⟨nm, w1, w2, w3, o, zs⟩ := r
  unfold rV
  dsimp only at HE HT HZ HLZ HL hz hl ⊢
  clear h1 h2 hlz
  go_enter Tryz.func34, Tryz.ntmps34
  go_wp2_with (fail)
  refine (isname_any nm _ hl).mono ?_
  rintro e W ⟨rfl, hW⟩
  have hb1 : Below w.heap.size w W := by rw [← hW]; exact (Below.refl _ _).alloc (Nat.le_refl _) _
  have hx1 : Blk W w.heap.size 28 #[.string (bs nm), .int .i64 w1, .int .i64 w2, .int .i64 w3, .slice A m d, .slice C n c] := by rw [← hW]; exact Blk.new w _ _
  clear hW
  have HB1 := Lib.hid hb1
  have HX1 := Lib.hid hx1
  have c0 := hx1.cell 0
  have c1 := hx1.cell 1
  have c2 := hx1.cell 2
  have c3 := hx1.cell 3
  have c4 := hx1.cell 4
  have c5 := hx1.cell 5
  clear hb1 hx1
  by_cases hg : nameB nm = false ∨ 99 < w1 ∨ w1 < w2 ∨ w2 < w3 ∨ w3 < -99
  · have HF := Lib.hid (HE.out.trans (if_pos hg))
    clear HE
    cases hn : nameB nm with
    | false =>
      clear hg
      go_wp2_with (fail)
      go_ret
      exact ⟨by rw [HF.out]; rfl, HB1.out⟩
    | true =>
      have hg2 : 99 < w1 ∨ w1 < w2 ∨ w2 < w3 ∨ w3 < -99 := hg.resolve_left (by rw [hn]; decide)
      clear hg hn
      by_cases g1 : 99 < w1
      · clear hg2
        go_wp2_with (fail)
        go_ret
        exact ⟨by rw [HF.out]; rfl, HB1.out⟩
      · by_cases g2 : w1 < w2
        · clear hg2
          go_wp2_with (fail)
          go_ret
          exact ⟨by rw [HF.out]; rfl, HB1.out⟩
        · by_cases g3 : w2 < w3
          · clear hg2
            go_wp2_with (fail)
            go_ret
            exact ⟨by rw [HF.out]; rfl, HB1.out⟩
          · have g4 : w3 < -99 := by omega
            clear hg2
            go_wp2_with (fail)
            go_ret
            exact ⟨by rw [HF.out]; rfl, HB1.out⟩
  · have HE1 := Lib.hid (HE.out.trans (if_neg hg))
    have hn : nameB nm = true := by
      cases h : nameB nm with
      | true => rfl
      | false => exact absurd (.inl h) hg
    have hg2 : w1 ≤ 99 ∧ w2 ≤ w1 ∧ w3 ≤ w2 ∧ -99 ≤ w3 := by
      refine ⟨?_, ?_, ?_, ?_⟩
      · exact Int.not_lt.1 fun h => hg (.inr (.inl h))
      · exact Int.not_lt.1 fun h => hg (.inr (.inr (.inl h)))
      · exact Int.not_lt.1 fun h => hg (.inr (.inr (.inr (.inl h))))
      · exact Int.not_lt.1 fun h => hg (.inr (.inr (.inr (.inr h))))
    obtain ⟨g1, g2, g3, g4⟩ := hg2
    rw [hn]
    clear HE hg hn
    go_wp2_with (fail)
    refine (torder_any S o A m d W (HT.out.below HB1.out) hz).mono ?_
    rintro e W2 ⟨rfl, hb2⟩
    have HB2 := Lib.hid (HB1.out.trans (hb2.mono HB1.out.size))
    have HX2 := Lib.hid (HX1.out.below hb2 HX1.out.lt)
    clear hb2 c0 c1 c2 c3 c4 c5 HX1
    have c5 := HX2.out.cell 5
    by_cases ho : torder o = 0
    · have HE2 := Lib.hid (HE1.out.trans (if_neg (Classical.not_not.2 ho)))
      rw [ho]
      clear HE1 ho
      by_cases h16 : 16 < zs.length
      · have HF := Lib.hid (HE2.out.trans (if_pos h16))
        have hn16 : 16 < n := by rw [HL.out]; exact h16
        clear HE2 h16
        go_wp2_with (fail)
        go_ret
        exact ⟨by rw [HF.out]; rfl, HB2.out⟩
      · have HE3 := Lib.hid (HE2.out.trans (if_neg h16))
        have hn16 : n ≤ 16 := by rw [HL.out]; omega
        clear HE2 h16
        go_wp2_with (fail)
        go_loopw [49] (fun s wr => ∃ k : Nat, k ≤ n ∧ s = .int .i64 k ∧ Hid (Below w.heap.size w wr) ∧ Hid ((zs.take k).all zoneB = true)) (fun s _ => n - (intOf s).toNat)
        case atStart => exact ⟨0, Nat.zero_le _, rfl, HB2.out, by simp [Hid]⟩
        case round =>
          obtain ⟨k, hk, rfl, HB, HA⟩ := hrel
          obtain ⟨wo, rfl⟩ : ∃ wo : World, wo = wr := ⟨_, rfl⟩
          by_cases hlt : k < n
          · obtain ⟨b, off, z, rfl, hb, hS, hzk, d0, d1, d2⟩ := HZ.out.elem hlt
            rw [← HB.out.cell hb] at d0 d1 d2
            have HZK := Lib.hid hzk
            have HMEM := Lib.hid (show z ∈ zs by obtain ⟨h1, h2⟩ := List.getElem?_eq_some_iff.1 hzk; rw [← h2]; exact List.getElem_mem h1)
            clear hzk
            go_wp2_with (fail)
            first | (refine calls_named ?_; intro W4 hW4) | (refine body_named ?_; intro W4 hW4) | (refine wpList_named ?_; intro W4 hW4) | (refine wp_named ?_; intro W4 hW4)
            have hb4 : Below wo.heap.size wo W4 := by rw [← hW4]; exact ((Below.refl _ _).alloc (Nat.le_refl _) _).alloc (by simp) _
            obtain ⟨W4b, hW4b⟩ : ∃ g, g = wo.heap.size + 1 := ⟨_, rfl⟩
            have hy4 : Blk W4 W4b 3 #[.int .i64 z.fr, .int .i64 z.to] := by
              rw [← hW4, hW4b, ← World.size_alloc wo]
              exact Blk.new _ _ _
            have hx4 : Blk W4 wo.heap.size 73 #[.string (bs z.name), .int .i64 z.fr, .int .i64 z.to] := by rw [← hW4]; exact (Blk.new wo _ _).alloc _
            rw [← hW4b]
            clear hW4 hW4b
            have HB4 := Lib.hid (HB.out.trans (hb4.mono HB.out.size))
            have HY := Lib.hid hy4
            have HX4 := Lib.hid hx4
            clear hb4 hy4 hx4 d0 d1 d2
            go_loop [59] (fun s => ∃ i : Nat, i ≤ 2 ∧ s = .int .i64 i ∧ Hid (0 < i → plB z.fr = true) ∧ Hid (1 < i → plB z.to = true)) (fun s => 2 - (intOf s).toNat)
            case atStart => exact ⟨0, Nat.zero_le _, rfl, fun h => absurd h (by omega), fun h => absurd h (by omega)⟩
            case round =>
              obtain ⟨i, hi, rfl, HQ0, HQ1⟩ := hrel
              match i, hi with
              | 0, _ =>
                have y0 : W4.cell? ⟨W4b, 0, none⟩ = some (.int .i64 z.fr) := HY.out.cell 0
                by_cases hp : plB z.fr = true
                · have hp2 : z.fr ≤ 24 ∧ -24 ≤ z.fr ∧ (z.fr == 0) = false := by
                    simp only [plB, decide_eq_true_eq] at hp
                    exact ⟨hp.2.1, hp.2.2, beq_eq_false_iff_ne.2 hp.1⟩
                  obtain ⟨p1, p2, p3⟩ := hp2
                  have HP := Lib.hid hp
                  clear hp
                  go_wp2_with (fail)
                  go_round
                  case rel => exact ⟨0 + 1, by omega, rfl, (fun _ => HP.out), (fun h => absurd h (by omega))⟩
                  case measure => simp [intOf]
                · have HF := Lib.hid (show q = 140 from HE3.out.trans (if_neg (fun h => by
                    have h2 := List.all_eq_true.1 h z HMEM.out
                    rw [zoneB_eq] at h2
                    simp only [Bool.and_eq_true] at h2
                    exact hp h2.1.1)))
                  by_cases e0 : z.fr = 0
                  · rw [e0] at y0
                    clear hp e0
                    go_wp2_with (fail)
                    go_ret
                    exact ⟨by rw [HF.out]; rfl, HB4.out⟩
                  · have e1 : (z.fr == 0) = false := beq_eq_false_iff_ne.2 e0
                    by_cases e2 : 24 < z.fr
                    · clear hp e0
                      go_wp2_with (fail)
                      go_ret
                      exact ⟨by rw [HF.out]; rfl, HB4.out⟩
                    · have e3 : z.fr < -24 := by
                        rcases Int.lt_or_le z.fr (-24) with h | h
                        · exact h
                        · exact absurd (by simp only [plB, decide_eq_true_eq]; exact ⟨e0, by omega, h⟩) hp
                      clear hp e0
                      go_wp2_with (fail)
                      go_ret
                      exact ⟨by rw [HF.out]; rfl, HB4.out⟩
              | 1, _ =>
                have y1 : W4.cell? ⟨W4b, 1, none⟩ = some (.int .i64 z.to) := HY.out.cell 1
                by_cases hp : plB z.to = true
                · have hp2 : z.to ≤ 24 ∧ -24 ≤ z.to ∧ (z.to == 0) = false := by
                    simp only [plB, decide_eq_true_eq] at hp
                    exact ⟨hp.2.1, hp.2.2, beq_eq_false_iff_ne.2 hp.1⟩
                  obtain ⟨p1, p2, p3⟩ := hp2
                  have HP := Lib.hid hp
                  clear hp
                  go_wp2_with (fail)
                  go_round
                  case rel => exact ⟨1 + 1, by omega, rfl, (fun _ => HQ0.out (by omega)), (fun _ => HP.out)⟩
                  case measure => simp [intOf]
                · have HF := Lib.hid (show q = 140 from HE3.out.trans (if_neg (fun h => by
                    have h2 := List.all_eq_true.1 h z HMEM.out
                    rw [zoneB_eq] at h2
                    simp only [Bool.and_eq_true] at h2
                    exact hp h2.1.2)))
                  by_cases e0 : z.to = 0
                  · rw [e0] at y1
                    clear hp e0
                    go_wp2_with (fail)
                    go_ret
                    exact ⟨by rw [HF.out]; rfl, HB4.out⟩
                  · have e1 : (z.to == 0) = false := beq_eq_false_iff_ne.2 e0
                    by_cases e2 : 24 < z.to
                    · clear hp e0
                      go_wp2_with (fail)
                      go_ret
                      exact ⟨by rw [HF.out]; rfl, HB4.out⟩
                    · have e3 : z.to < -24 := by
                        rcases Int.lt_or_le z.to (-24) with h | h
                        · exact h
                        · exact absurd (by simp only [plB, decide_eq_true_eq]; exact ⟨e0, by omega, h⟩) hp
                      clear hp e0
                      go_wp2_with (fail)
                      go_ret
                      exact ⟨by rw [HF.out]; rfl, HB4.out⟩
              | 2, _ =>
                have HP0 := Lib.hid (HQ0.out (by omega))
                have HP1 := Lib.hid (HQ1.out (by omega))
                have x0 := HX4.out.cell 0
                go_wp2_with (fail)
                refine (isname_any z.name W4 (HLZ.out z HMEM.out)).mono ?_
                rintro e W5 ⟨rfl, rfl⟩
                cases hn : nameB z.name with
                | true =>
                  have HA2 := Lib.hid (show (zs.take (k + 1)).all zoneB = true by
                    obtain ⟨h1, h2⟩ := List.getElem?_eq_some_iff.1 HZK.out
                    rw [List.take_succ_eq_append_getElem h1, h2, List.all_append, HA.out, List.all_cons, zoneB_eq, HP0.out, HP1.out, hn]
                    rfl)
                  clear hn
                  go_wp2_with (fail)
                  go_roundw
                  case rel => exact ⟨k + 1, hlt, by go_num, HB4.out, HA2.out⟩
                  case measure => simp [intOf]; omega
                | false =>
                  have HF := Lib.hid (show q = 140 from HE3.out.trans (if_neg (fun h => by
                    have h2 := List.all_eq_true.1 h z HMEM.out
                    rw [zoneB_eq] at h2
                    simp only [Bool.and_eq_true] at h2
                    rw [hn] at h2
                    cases h2.2)))
                  clear hn
                  go_wp2_with (fail)
                  go_ret
                  exact ⟨by rw [HF.out]; rfl, HB4.out⟩
          · have HF := Lib.hid (show q = 0 from HE3.out.trans (if_pos (by
              have h := HA.out
              rw [List.take_of_length_le (by rw [← HL.out]; omega)] at h
              exact h)))
            go_wp2_with (fail)
            go_ret
            exact ⟨by rw [HF.out]; rfl, HB.out⟩
    · have HF := Lib.hid (HE1.out.trans (if_pos ho))
      have hob : (torder o != 0) = true := bne_iff_ne.2 ho
      generalize torder o = tq at HF hob ⊢
      clear HE1 ho
      go_wp2_with (fail)
      go_ret
      exact ⟨by rw [HF.out]; rfl, HB2.out⟩
end Go.Proofs.YticpjdjdimpglaaGreatDoor
/- Laws over any program for operations on wide rows (an array of 256 cells, a struct that holds one): the walk would write their cells out. -/
namespace Go.Proofs.YticpjdjdimpglaaGreatDoor
set_option linter.unusedVariables false
set_option linter.unusedSimpArgs false
open Go.RowKit
section
variable {P : Program} {ops : Array Oper} {rest : List Oper} {o : Oper} {a : Act} {w : World} {Q : Exit → Act → World → Prop}
/-- An operation whose run is known. -/
theorem wpList_by {v : Value} {w' : World} (hgd : o.guard = none) (hr : (execOp a.eval o).run P w = .ok (.value v) w') (h : wpList P ops Q rest (a.put o.dst v) w') : wpList P ops Q (o :: rest) a w :=
  wpList_plain hgd fun _ hK => by
    unfold Oper.wp
    rw [hr]
    exact hK _ _ h
theorem wpList_by_skip {w' : World} (hgd : o.guard = none) (hr : (execOp a.eval o).run P w = .ok .skip w') (h : wpList P ops Q rest (a.put o.dst undef) w') : wpList P ops Q (o :: rest) a w :=
  wpList_plain hgd fun _ hK => by
    unfold Oper.wp
    rw [hr]
    exact hK _ _ h
/-- A new variable of a wide type: its cells under one name. -/
theorem wpList_alloc_row (hgd : o.guard = none) (ty : TypeId) (ho : o.op = .alloc ty) (z : Value) (cs : Array Value) (hz : ∀ w : World, (zeroValue ty).run P w = .ok z w) (hcs : z.cells = cs)
    (h : wpList P ops Q rest (a.put o.dst (.pointer (some ⟨w.heap.size, 0, none⟩))) (w.alloc (.cells cs ty))) : wpList P ops Q (o :: rest) a w := by
  refine wpList_by hgd (v := .pointer (some ⟨w.heap.size, 0, none⟩)) (w' := w.alloc (.cells cs ty)) ?_ h
  unfold execOp
  simp only [ho, Instr.alloc, Sem.run_bind, hz, Result.andThen_ok, newVar, newRow, hcs]
  rfl
/-- A wide value stored over a whole block. -/
theorem wpList_store_row (hgd : o.guard = none) (ty : TypeId) (p x : Operand) (ho : o.op = .store ty p x) (g : Nat) (hp : a.eval p = .pointer (some ⟨g, 0, none⟩)) (cs cur : Array Value) (hx : a.eval x = .agg cs)
    (t : TypeId) (hb : Blk w g t cur) (hsz : cs.size = cur.size) (hi : (P.info? ty).map (·.size) = some cs.size) (h1 : ∀ v ∈ cs.toList, v.oneCell' = true)
    (h : wpList P ops Q rest (a.put o.dst undef) (w.setRow g cs)) : wpList P ops Q (o :: rest) a w := by
  refine wpList_by_skip hgd (w' := w.setRow g cs) ?_ h
  unfold execOp
  have hst := run_storeCells_from (P := P) g t cs.toList 0 cur w hb (by simpa using hsz) h1
  cases hq : P.info? ty with
  | none => simp [hq] at hi
  | some i =>
    have hs : i.size = cs.size := by simpa [hq] using hi
    simp only [List.take_zero, List.nil_append, Array.toArray_toList] at hst
    simp [ho, hp, hx, Instr.storeAt, Instr.sureAddr, storeVar, sizeOf, typeInfo, hq, hs, Value.cells, hst, Sem.run_bind, Result.andThen]
end
theorem Blk.setRow {w : World} {g : Nat} {t : TypeId} {cur : Array Value} (h : Blk w g t cur) (cs : Array Value) : Blk (w.setRow g cs) g t cs := setRow_heap w g cur cs t (0, 0) h
theorem Below.setRow {B : Nat} {a w : World} (h : Below B a w) {g : Nat} (hg : B ≤ g) (cs : Array Value) : Below B a (w.setRow g cs) :=
  h.trans ⟨rfl, rfl, rfl, by simp, fun k hk => setRow_other w g k cs (by omega)⟩
/-- 256 cells by a function. -/
def mk (f : Nat → Nat) : Array Value := ((List.range 256).map fun x => (.int .u8 (f x : Int) : Value)).toArray
theorem mk_get (f : Nat → Nat) (x : Nat) (h : x < 256) : (mk f)[x]? = some (.int .u8 (f x : Int)) := by simp [mk, h]
theorem mk_size (f : Nat → Nat) : (mk f).size = 256 := by simp [mk]
theorem mk_set (f : Nat → Nat) (i v : Nat) : (mk f).setIfInBounds i (.int .u8 (v : Int)) = mk fun x => if x = i then v else f x := by
  apply Array.ext
  · simp [mk]
  · intro k h1 h2
    simp only [mk, Array.getElem_setIfInBounds]
    by_cases hk : i = k
    · subst hk; simp
    · simp [hk, Ne.symm hk]
theorem mk_congr {f g : Nat → Nat} (h : ∀ x, x < 256 → f x = g x) : mk f = mk g := by
  unfold mk
  congr 1
  apply List.map_congr_left
  intro x hx
  rw [h x (by simpa using hx)]
theorem mk_one (f : Nat → Nat) : ∀ v ∈ (mk f).toList, v.oneCell' = true := by
  intro v hv
  simp [mk] at hv
  obtain ⟨x, _, rfl⟩ := hv
  rfl
end Go.Proofs.YticpjdjdimpglaaGreatDoor
/- lexis.classes by its contract. -/
namespace Go.Proofs.YticpjdjdimpglaaGreatDoor
set_option linter.unusedVariables false
set_option linter.unusedSimpArgs false
open Go.RowKit
theorem zero256 (w : World) : (zeroValue 181).run Tryz.prog w = .ok (.agg (mk fun _ => 0)) w := by kernel_rfl
theorem info256 : (Tryz.prog.info? 181).map (·.size) = some 256 := by kernel_rfl
/-- The block of the table, as far as it is filled. -/
def TabAt (B : Nat) (w wr : World) (g : Nat → Nat) : Prop := ∃ f, Blk wr B 181 (mk f) ∧ (∀ x, x < 256 → f x = g x) ∧ Below B w wr
def tabA (k x : Nat) : Nat := if (97 ≤ x ∧ x < k) ∨ (65 ≤ x ∧ x + 32 < k) then 2 else 0
def tabB (k x : Nat) : Nat := if 48 ≤ x ∧ x < k then 3 else tabA 123 x
def sgn : List Nat := [123, 125, 40, 41, 91, 93, 59, 44, 58, 47, 61, 60, 62]
def tabC (k x : Nat) : Nat := if x ∈ sgn.take k then 4 else tabB 58 x
def blk4 : List Nat := [32, 9, 10, 13]
def tabD (k x : Nat) : Nat := if x ∈ blk4.take k then 1 else tabC 13 x
section
variable {B : Nat} {w wr : World} {g : Nat → Nat}
theorem TabAt.congr {g' : Nat → Nat} (h : TabAt B w wr g) (he : ∀ x, x < 256 → g x = g' x) : TabAt B w wr g' := by
  obtain ⟨f, h1, h2, h3⟩ := h
  exact ⟨f, h1, fun x hx => (h2 x hx).trans (he x hx), h3⟩
theorem TabAt.set (h : TabAt B w wr g) (i v : Nat) : TabAt B w (wr.setCell ⟨B, i, none⟩ (.int .u8 (v : Int))) (fun x => if x = i then v else g x) := by
  obtain ⟨f, h1, h2, h3⟩ := h
  refine ⟨fun x => if x = i then v else f x, ?_, fun x hx => by simp only [h2 x hx], h3.setCell (Nat.le_refl _) _⟩
  have := h1.set i (.int .u8 (v : Int))
  rwa [mk_set] at this
theorem TabAt.cell (h : TabAt B w wr g) {x : Nat} (hx : x < 256) : wr.cell? ⟨B, x, none⟩ = some (.int .u8 (g x : Int)) := by
  obtain ⟨f, h1, h2, _⟩ := h
  rw [h1.cell, mk_get f x hx, h2 x hx]
theorem TabAt.free (h : TabAt B w wr g) (x : Nat) : wr.frozen? ⟨B, x, none⟩ = false := by
  obtain ⟨f, h1, _, _⟩ := h
  exact h1.frozen x
end
theorem tabA_step {k : Nat} (h : 97 ≤ k) (x : Nat) : (if x = k - 32 then 2 else if x = k then 2 else tabA k x) = tabA (k + 1) x := by
  unfold tabA
  (repeat' split) <;> omega
theorem tabB_step {k : Nat} (h : 48 ≤ k) (x : Nat) : (if x = k then 3 else tabB k x) = tabB (k + 1) x := by
  unfold tabB
  by_cases h1 : x = k
  · simp [h1]; omega
  · by_cases h2 : 48 ≤ x ∧ x < k
    · rw [if_neg h1, if_pos h2, if_pos (by omega)]
    · rw [if_neg h1, if_neg h2, if_neg (by omega)]
theorem tab_end : ∀ x, x < 256 → tabD 4 x = cls x := by decide +kernel
theorem TabAt.below {B B' : Nat} {w wr wr' : World} {g : Nat → Nat} (h : TabAt B w wr g) (hb : Below B' wr wr') (hB : B < B') : TabAt B w wr' g := by
  obtain ⟨f, h1, h2, h3⟩ := h
  exact ⟨f, h1.below hb hB, h2, h3.trans (hb.mono (by omega))⟩
theorem TabAt.lt {B : Nat} {w wr : World} {g : Nat → Nat} (h : TabAt B w wr g) : B < wr.heap.size := by
  obtain ⟨f, h1, _, _⟩ := h
  exact h1.lt
def sg (k : Nat) : Nat := sgn.getD k 0
def bl (k : Nat) : Nat := blk4.getD k 0
theorem sg_lt (k : Nat) : sg k < 256 := by
  rcases Nat.lt_or_ge k 13 with h | h
  · have : ∀ k, k < 13 → sg k < 256 := by decide
    exact this k h
  · have : sgn.length ≤ k := h
    simp [sg, List.getD, this]
theorem bl_lt (k : Nat) : bl k < 256 := by
  rcases Nat.lt_or_ge k 4 with h | h
  · have : ∀ k, k < 4 → bl k < 256 := by decide
    exact this k h
  · have : blk4.length ≤ k := h
    simp [bl, List.getD, this]
theorem take_get {l : List Nat} {k : Nat} (h : k < l.length) : l.take (k + 1) = l.take k ++ [l.getD k 0] := by
  rw [List.take_succ_eq_append_getElem h]
  simp [h]
theorem tabC_step {k : Nat} (h : k < 13) (x : Nat) : (if x = sg k then 4 else tabC k x) = tabC (k + 1) x := by
  unfold tabC sg
  rw [take_get (l := sgn) h]
  by_cases h1 : x = sgn.getD k 0
  · rw [if_pos h1, if_pos (by simp [h1])]
  · rw [if_neg h1]
    by_cases h2 : x ∈ sgn.take k
    · rw [if_pos h2, if_pos (by simp [h2])]
    · rw [if_neg h2, if_neg (by rw [List.mem_append, List.mem_singleton]; simp [h2]; simpa using h1)]
theorem tabD_step {k : Nat} (h : k < 4) (x : Nat) : (if x = bl k then 1 else tabD k x) = tabD (k + 1) x := by
  unfold tabD bl
  rw [take_get (l := blk4) h]
  by_cases h1 : x = blk4.getD k 0
  · rw [if_pos h1, if_pos (by simp [h1])]
  · rw [if_neg h1]
    by_cases h2 : x ∈ blk4.take k
    · rw [if_pos h2, if_pos (by simp [h2])]
    · rw [if_neg h2, if_neg (by rw [List.mem_append, List.mem_singleton]; simp [h2]; simpa using h1)]
def vals (l : List Nat) : Array Value := (l.map fun (c : Nat) => (.int .u8 (c : Int) : Value)).toArray
theorem vals_get {l : List Nat} {k : Nat} (h : k < l.length) : (vals l)[k]? = some (.int .u8 ((l.getD k 0 : Nat) : Int)) := by simp [vals, h]
def RowF (w : World) (g : Nat) (t : TypeId) (cs : Array Value) (fr : Nat × Nat) : Prop := w.heap[g]? = some (.cells cs t fr)
theorem RowF.cell {w : World} {g : Nat} {t : TypeId} {cs : Array Value} {fr : Nat × Nat} (h : RowF w g t cs fr) (i : Nat) : w.cell? ⟨g, i, none⟩ = cs[i]? := cell_of_row w g i cs t fr h
theorem RowF.far {w : World} {g : Nat} {t : TypeId} {cs : Array Value} {fr : Nat × Nat} (h : RowF w g t cs fr) {p : Addr} (hp : g ≠ p.block) (u : Value) : RowF (w.setCell p u) g t cs fr := (Below.heap_setCell w p u g hp).trans h
set_option maxHeartbeats 1000000 in
set_option maxRecDepth 100000 in
theorem classes_any (w : World) : Calls Tryz.prog 144 #[] w fun e w' => e = .returned (.agg (mk cls)) ∧ Below w.heap.size w w' := by
  have hbl := (Below.refl w.heap.size w).alloc (Nat.le_refl _) (.cells (mk fun _ => 0) 181)
  have hbk := Blk.new w 181 (mk fun _ => 0)
  have HT : TabAt w.heap.size w (w.alloc (.cells (mk fun _ => 0) 181)) (tabA 97) := ⟨_, hbk, fun x hx => by unfold tabA; split <;> omega, hbl⟩
  clear hbl hbk
  have kc := fun (w : World) (C : Array Value) (n c : Nat) => Lib.run_convert_bytes_const (P := Tryz.prog) w 35 5 C n c Tryz.underlying35 Tryz.underlying5
  go_enter Tryz.func144, Tryz.ntmps144
  go_wp2_with (with_reducible refine wpList_alloc_row rfl _ rfl _ _ zero256 rfl ?_)
  generalize hw1 : w.alloc (.cells (mk fun _ => 0) 181) = w1 at HT ⊢
  clear hw1
  generalize hB : w.heap.size = B at HT ⊢
  go_loopw [1] (fun b wr => ∃ k : Nat, b = .int .u8 k ∧ 97 ≤ k ∧ k ≤ 123 ∧ TabAt B w wr (tabA k)) (fun b _ => 123 - (intOf b).toNat)
  case atStart => exact ⟨97, rfl, by omega, by omega, HT⟩
  case round =>
    obtain ⟨k, rfl, hk1, hk2, HTk⟩ := hrel
    by_cases hlt : k ≤ 122
    · have c1 := HTk.cell (x := k) (by omega)
      have f1 := HTk.free k
      have c2 := HTk.cell (x := k - 32) (by omega)
      have f2 := HTk.free (k - 32)
      have HN := Lib.hid (((HTk.set k 2).set (k - 32) 2).congr fun x _ => tabA_step hk1 x)
      clear HTk
      go_wp2
      go_roundw
      case rel => exact ⟨k + 1, by go_num, by omega, by omega, HN.out⟩
      case measure => simp [intOf]; omega
    · have HT1 := Lib.hid (HTk.congr fun x _ => show tabA k x = tabB 48 x by rw [show k = 123 from by omega]; unfold tabB; rw [if_neg (by omega)])
      clear HTk HT
      go_wp2
      generalize wr = w2 at *
      go_loopw [2] (fun b wr => ∃ k : Nat, b = .int .u8 k ∧ 48 ≤ k ∧ k ≤ 58 ∧ TabAt B w wr (tabB k)) (fun b _ => 58 - (intOf b).toNat)
      case atStart => exact ⟨48, rfl, by omega, by omega, HT1.out⟩
      case round =>
        obtain ⟨k, rfl, hk1, hk2, HTk⟩ := hrel
        by_cases hlt : k ≤ 57
        · have c1 := HTk.cell (x := k) (by omega)
          have f1 := HTk.free k
          have HN := Lib.hid ((HTk.set k 3).congr fun x _ => tabB_step hk1 x)
          clear HTk
          go_wp2
          go_roundw
          case rel => exact ⟨k + 1, by go_num, by omega, by omega, HN.out⟩
          case measure => simp [intOf]; omega
        · have HT2 := Lib.hid (HTk.congr fun x _ => show tabB k x = tabC 0 x by rw [show k = 58 from by omega]; simp [tabC])
          clear HTk HT1
          go_wp2
          have hS : RowF (wr.alloc (.cells #[.int .u8 123, .int .u8 125, .int .u8 40, .int .u8 41, .int .u8 91, .int .u8 93, .int .u8 59, .int .u8 44, .int .u8 58, .int .u8 47, .int .u8 61, .int .u8 60, .int .u8 62] 5 (13, 14))) wr.heap.size 5 (vals sgn) (13, 14) := heap_alloc_new wr _
          have HT3 := HT2.out.below ((Below.refl wr.heap.size wr).alloc (Nat.le_refl _) (.cells #[.int .u8 123, .int .u8 125, .int .u8 40, .int .u8 41, .int .u8 91, .int .u8 93, .int .u8 59, .int .u8 44, .int .u8 58, .int .u8 47, .int .u8 61, .int .u8 60, .int .u8 62] 5 (13, 14))) HT2.out.lt
          have hBS := HT2.out.lt
          generalize wr.alloc (.cells #[.int .u8 123, .int .u8 125, .int .u8 40, .int .u8 41, .int .u8 91, .int .u8 93, .int .u8 59, .int .u8 44, .int .u8 58, .int .u8 47, .int .u8 61, .int .u8 60, .int .u8 62] 5 (13, 14)) = w3 at hS HT3 ⊢
          generalize wr.heap.size = S at hS hBS ⊢
          clear HT2
          go_loopw [4, 25] (fun _ i wx => ∃ k : Nat, i = .int .i64 k ∧ k ≤ 13 ∧ TabAt B w wx (tabC k) ∧ RowF wx S 5 (vals sgn) (13, 14)) (fun _ i _ => 13 - (intOf i).toNat)
          case atStart => exact ⟨0, rfl, by omega, HT3, hS⟩
          case round =>
            obtain ⟨k, rfl, hk2, HTk, hSk⟩ := hrel
            by_cases hlt : k < 13
            · have c0 : wr.cell? ⟨S, k, none⟩ = some (.int .u8 (sg k : Int)) := (hSk.cell k).trans (vals_get (l := sgn) hlt)
              have b0 : (0 : Int) ≤ (sg k : Int) := by omega
              have b1 : (sg k : Int) < 256 := by have := sg_lt k; omega
              have c1 := HTk.cell (sg_lt k)
              have f1 := HTk.free (sg k)
              have HN := Lib.hid ((HTk.set (sg k) 4).congr fun x _ => tabC_step hlt x)
              have HS := Lib.hid (hSk.far (p := ⟨B, sg k, none⟩) (by show S ≠ B; omega) (.int .u8 4))
              clear HTk hSk
              go_wp2
              go_roundw
              case rel => exact ⟨k + 1, by go_num, by omega, HN.out, HS.out⟩
              case measure => simp [intOf]; omega
            · have HT4 := Lib.hid (HTk.congr fun x _ => show tabC k x = tabD 0 x by rw [show k = 13 from by omega]; simp [tabD])
              clear HTk hSk HT3
              go_wp2
              have hS : RowF (wr.alloc (.cells #[.int .u8 32, .int .u8 9, .int .u8 10, .int .u8 13] 5)) wr.heap.size 5 (vals blk4) (0, 0) := heap_alloc_new wr _
              have HT5 := HT4.out.below ((Below.refl wr.heap.size wr).alloc (Nat.le_refl _) (.cells #[.int .u8 32, .int .u8 9, .int .u8 10, .int .u8 13] 5)) HT4.out.lt
              have hBS := HT4.out.lt
              generalize wr.alloc (.cells #[.int .u8 32, .int .u8 9, .int .u8 10, .int .u8 13] 5) = w4 at hS HT5 ⊢
              generalize wr.heap.size = S4 at hS hBS ⊢
              clear HT4
              go_loopw [6, 34] (fun _ i wx => ∃ k : Nat, i = .int .i64 k ∧ k ≤ 4 ∧ TabAt B w wx (tabD k) ∧ RowF wx S4 5 (vals blk4) (0, 0)) (fun _ i _ => 4 - (intOf i).toNat)
              case atStart => exact ⟨0, rfl, by omega, HT5, hS⟩
              case round =>
                obtain ⟨k, rfl, hk2, HTk, hSk⟩ := hrel
                by_cases hlt : k < 4
                · have c0 : wr.cell? ⟨S4, k, none⟩ = some (.int .u8 (bl k : Int)) := (hSk.cell k).trans (vals_get (l := blk4) hlt)
                  have b0 : (0 : Int) ≤ (bl k : Int) := by omega
                  have b1 : (bl k : Int) < 256 := by have := bl_lt k; omega
                  have c1 := HTk.cell (bl_lt k)
                  have f1 := HTk.free (bl k)
                  have HN := Lib.hid ((HTk.set (bl k) 1).congr fun x _ => tabD_step hlt x)
                  have HS := Lib.hid (hSk.far (p := ⟨B, bl k, none⟩) (by show S4 ≠ B; omega) (.int .u8 1))
                  clear HTk hSk
                  go_wp2
                  go_roundw
                  case rel => exact ⟨k + 1, by go_num, by omega, HN.out, HS.out⟩
                  case measure => simp [intOf]; omega
                · obtain ⟨f, hf1, hf2, hf3⟩ := HTk.congr fun x hx => (show tabD k x = tabD 4 x by rw [show k = 4 from by omega]).trans (tab_end x hx)
                  rw [mk_congr hf2] at hf1
                  have HB := Lib.hid hf1
                  have HL := Lib.hid hf3
                  clear HTk hSk hf1 hf2 hf3
                  go_upto_region 19 with (fail)
                  go_wp2_with (first
                    | refine wpList_load_row rfl 181 (.tmp 0) rfl B rfl 181 (mk cls) (0, 0) _ HB.out Tryz.underlying181 rfl (by rw [mk_size]; exact info256) ?_
                    | refine wpList_store_row rfl 181 (.tmp 0) (.tmp 41) rfl B rfl (mk cls) (mk cls) rfl 181 HB.out rfl (by rw [mk_size]; exact info256) (mk_one cls) ?_)
                  refine bodyPost_ret (results_cell_row rfl _ _ B 181 (mk cls) (0, 0) _ rfl (HB.out.setRow (mk cls)) Tryz.underlying181 rfl (by rw [mk_size]; exact info256)) rfl ⟨rfl, ?_⟩
                  rw [hB]; exact Below.setRow HL.out (Nat.le_refl _) _
end Go.Proofs.YticpjdjdimpglaaGreatDoor
/- isInteger by its contract; the library's TrimPrefix, Trim over lists of bytes. -/
namespace Go.Proofs.YticpjdjdimpglaaGreatDoor
set_option linter.unusedVariables false
set_option linter.unusedSimpArgs false
open Go.RowKit
def digits : List UInt8 := [48, 49, 50, 51, 52, 53, 54, 55, 56, 57]
end Go.Proofs.YticpjdjdimpglaaGreatDoor
/- isWord, isSign, isText by their contracts. -/
namespace Go.Proofs.YticpjdjdimpglaaGreatDoor
set_option linter.unusedVariables false
set_option linter.unusedSimpArgs false
open Go.RowKit
theorem all_bt (p : Nat → Bool) (l : List UInt8) : (l.all fun c => p c.toNat) = true ↔ ∀ q, q < l.length → p (bt l q) = true := by
  rw [List.all_eq_true]
  constructor
  · intro h q hq
    rw [bt_get l q hq]
    exact h _ (List.getElem_mem hq)
  · intro h c hc
    obtain ⟨q, hq, rfl⟩ := List.getElem_of_mem hc
    have := h q hq
    rwa [bt_get l q hq] at this
theorem word_yes {l : List UInt8} (h0 : 0 < l.length) (h1 : isLetter (bt l 0) = true) (h : ∀ q, q < l.length → isInner (bt l q) = true) : wordB l = true := by
  have he : l.isEmpty = false := by cases l <;> simp at h0 ⊢
  have := (all_bt isInner l).2 h
  unfold wordB
  rw [he, h1, this]
  rfl
theorem word_no {l : List UInt8} {q : Nat} (hq : q < l.length) (h : isInner (bt l q) = false) : wordB l = false := by
  cases hw : wordB l
  · rfl
  · unfold wordB at hw
    rw [Bool.and_eq_true] at hw
    have := (all_bt isInner l).1 hw.2 q hq
    rw [h] at this
    cases this
theorem word_no_letter {l : List UInt8} (h : isLetter (bt l 0) = false) : wordB l = false := by simp [wordB, h]
/-- The first k bytes are as a word's. -/
def WordPre (l : List UInt8) (k : Nat) : Prop := (∀ q, q < k → isInner (bt l q) = true) ∧ (0 < k → isLetter (bt l 0) = true)
set_option maxHeartbeats 2000000 in
set_option maxRecDepth 100000 in
theorem isWord_any (l : List UInt8) (w : World) (hl : l.length ≤ 9223372036854775807) :
    Calls Tryz.prog 91 #[.string (bs l)] w fun e w' => e = .returned (.bool (wordB l)) ∧ Below w.heap.size w w' := by
  go_enter Tryz.func91, Tryz.ntmps91
  go_wp2_with (first
    | (go_at_call 144; refine (classes_any _).mono ?_; rintro e w1 ⟨rfl, hb1⟩)
    | refine wpList_alloc_row rfl 181 rfl _ _ zero256 rfl ?_
    | refine wpList_store_row rfl 181 (.tmp 3) (.tmp 6) rfl _ rfl (mk cls) (mk fun _ => 0) rfl 181 (Blk.new _ _ _) (by rw [mk_size, mk_size]) (by rw [mk_size]; exact info256) (mk_one cls) ?_)
  have HB : Blk ((w1.alloc (.cells (mk fun _ => 0) 181)).setRow w1.heap.size (mk cls)) w1.heap.size 181 (mk cls) := (Blk.new w1 181 (mk fun _ => 0)).setRow _
  have HL : Below w.heap.size w ((w1.alloc (.cells (mk fun _ => 0) 181)).setRow w1.heap.size (mk cls)) := Below.setRow (hb1.alloc hb1.size _) hb1.size _
  generalize (w1.alloc (.cells (mk fun _ => 0) 181)).setRow w1.heap.size (mk cls) = w2 at HB HL ⊢
  generalize w1.heap.size = g at HB ⊢
  clear hb1
  have HLh := Lib.hid HL
  clear HL
  go_loop [9] (fun i => ∃ k : Nat, i = .int .i64 k ∧ k ≤ l.length ∧ Hid (WordPre l k)) (fun i => l.length - (intOf i).toNat)
  case atStart => exact ⟨0, rfl, Nat.zero_le _, fun q hq => absurd hq (by omega), fun h => absurd h (by omega)⟩
  case round =>
    obtain ⟨k, rfl, hk, Hk⟩ := hrel
    by_cases hlt : k < l.length
    · have hc := (HB.cell (bt l k)).trans (mk_get cls (bt l k) (bt_lt l k))
      have hb0 : (0 : Int) ≤ (bt l k : Int) := by omega
      have hb1 : (bt l k : Int) < 256 := by have := bt_lt l k; omega
      have hk0 : (0 : Int) ≤ (k : Int) := by omega
      by_cases h2 : cls (bt l k) = 2
      · have hin : isInner (bt l k) = true := inner_iff.2 (.inl h2)
        have HN := Lib.hid (show WordPre l (k + 1) from ⟨fun q hq => by
          rcases Nat.lt_or_ge q k with h | h
          · exact Hk.out.1 q h
          · rw [show q = k from by omega]; exact hin, fun _ => by
          rcases Nat.eq_zero_or_pos k with h | h
          · subst h; exact cls_letter.1 h2
          · exact Hk.out.2 h⟩)
        have e1 := ynb (a := cls (bt l k)) (m := 2) (by omega)
        clear hin h2
        go_wp2
        go_round
        case rel => exact ⟨k + 1, by go_num, by omega, HN.out⟩
        case measure => simp [intOf]; omega
      · have e1 := nnb (a := cls (bt l k)) (m := 2) (by omega)
        by_cases hk00 : k = 0
        · have hle : isLetter (bt l 0) = false := by
            rw [hk00] at h2
            cases hh : isLetter (bt l 0)
            · rfl
            · exact absurd (cls_letter.2 hh) h2
          have HW := Lib.hid (word_no_letter hle)
          have e2 := yb (a := k) (m := 0) (by omega)
          clear h2 hle hk00
          go_wp2
          go_ret
          exact ⟨ret_bool HW.out.symm, HLh.out⟩
        · have e2 := nb (a := k) (m := 0) (by omega)
          by_cases hin : isInner (bt l k) = true
          · have HN := Lib.hid (show WordPre l (k + 1) from ⟨fun q hq => by
              rcases Nat.lt_or_ge q k with h | h
              · exact Hk.out.1 q h
              · rw [show q = k from by omega]; exact hin, fun _ => Hk.out.2 (by omega)⟩)
            by_cases h3 : cls (bt l k) = 3
            · have e3 := ynb (a := cls (bt l k)) (m := 3) (by omega)
              clear hin h2 h3 hk00
              go_wp2
              go_round
              case rel => exact ⟨k + 1, by go_num, by omega, HN.out⟩
              case measure => simp [intOf]; omega
            · have h95 : bt l k = 95 := by
                rcases inner_iff.1 hin with h | h | h
                · exact absurd h h2
                · exact absurd h h3
                · exact h
              have e3 := nnb (a := cls (bt l k)) (m := 3) (by omega)
              have e4 := ynb (a := bt l k) (m := 95) (by omega)
              clear hin h2 h3 h95 hk00
              go_wp2
              go_round
              case rel => exact ⟨k + 1, by go_num, by omega, HN.out⟩
              case measure => simp [intOf]; omega
          · have hno : isInner (bt l k) = false := by simpa using hin
            have HW := Lib.hid (word_no hlt hno)
            obtain ⟨q2, q3, q95⟩ := inner_not.1 hno
            have e3 := nnb (a := cls (bt l k)) (m := 3) (by omega)
            have e4 := nnb (a := bt l k) (m := 95) (by omega)
            clear hin h2 hno q2 q3 q95 hk00
            go_wp2
            go_ret
            exact ⟨ret_bool HW.out.symm, HLh.out⟩
    · by_cases hl0 : l = []
      · subst hl0
        have e1 : ([] : List UInt8).isEmpty = true := rfl
        go_wp2
        go_ret
        exact ⟨rfl, HLh.out⟩
      · have hpos : 0 < l.length := List.length_pos_iff.2 hl0
        have e1 : l.isEmpty = false := by simpa using hl0
        have HW := Lib.hid (word_yes hpos (Hk.out.2 (by omega)) (fun q hq => Hk.out.1 q (by omega)))
        clear hl0
        go_wp2
        go_ret
        exact ⟨ret_bool HW.out.symm, HLh.out⟩
theorem contains_any (a l : List UInt8) (b : Bool) (hb : Lib.contains a l = b) (m : Int) (w : World) (hm : w.cell? ⟨4, 0, none⟩ = some (.int .i64 m)) (ha : a.length < 4294967281) :
    Calls Tryz.prog 92 #[.string (bs a), .string (bs l)] w fun e w' => e = .returned (.bool b) ∧ w = w' :=
  (Tryz.strings_Contains (bs a) (bs l) m w ha hm).mono fun e w' ⟨he, hw⟩ => ⟨by rw [he, ← hb]; rfl, hw.symm⟩
end Go.Proofs.YticpjdjdimpglaaGreatDoor
/- lexis.Keyword by its contract. -/
namespace Go.Proofs.YticpjdjdimpglaaGreatDoor
set_option linter.unusedVariables false
set_option linter.unusedSimpArgs false
open Go.RowKit
set_option maxHeartbeats 1000000 in
theorem keyword_any (l : List UInt8) (m : Int) (w : World) (hm : w.cell? ⟨4, 0, none⟩ = some (.int .i64 m)) (hl : l.length ≤ 70000) :
    Calls Tryz.prog 44 #[.string (bs l)] w fun e w' => e = .returned (.bool (kwB l)) ∧ Below w.heap.size w w' := by
  have hk := kw_eq l
  have hlt := World.block_lt_of_cell? w _ hm
  by_cases hw : wordB l = true
  · have H := Lib.hid hw
    have HK := Lib.hid (show kwB l = Lib.contains wordsL (32 :: l ++ [32]) by rw [← hk, hw]; rfl)
    clear hk hw
    go_enter Tryz.func44, Tryz.ntmps44
    go_wp2_with (go_at_call 91; refine (isWord_any l _ (by omega)).mono ?_; rw [H.out]; rintro e w1 ⟨rfl, hb1⟩)
    rw [str_sp]
    refine (contains_any wordsL (32 :: l ++ [32]) (kwB l) HK.out.symm m w1 ((hb1.cell (p := ⟨4, 0, none⟩) hlt).trans hm) (by decide +kernel)).mono ?_
    rintro e w2 ⟨rfl, rfl⟩
    go_wp2
    go_ret
    exact ⟨rfl, hb1⟩
  · have hw' : wordB l = false := by simpa using hw
    have H := Lib.hid hw'
    have HK := Lib.hid (show kwB l = false by rw [← hk, hw']; rfl)
    clear hk hw hw'
    go_enter Tryz.func44, Tryz.ntmps44
    go_wp2_with (go_at_call 91; refine (isWord_any l _ (by omega)).mono ?_; rw [H.out]; rintro e w1 ⟨rfl, hb1⟩)
    go_ret
    exact ⟨ret_bool HK.out.symm, hb1⟩
end Go.Proofs.YticpjdjdimpglaaGreatDoor
