/- What lexis.Tokens holds in memory between two rounds. -/
import Derived.Test.YticpjdjdimpglaaGreatDoorCFpaMNext
import Derived.Test.YticpjdjdimpglaaGreatDoorCFpaMCmp2
import Derived.Test.YticpjdjdimpglaaGreatDoorCFpaMJoinPlain
import Derived.Test.YticpjdjdimpglaaGreatDoorProg
import Derived.Test.YticpjdjdimpglaaGreatDoorCFpaShelf
import Derived.Lib.AtoiAllMem
import Derived.Lib.AtoiErrMem
import Derived.Test.YticpjdjdimpglaaGreatDoorCFpaMYLaws
import Derived.Test.YticpjdjdimpglaaGreatDoorCFpaMKeyword
import Derived.Deep.QuietTactic
import Derived.BigQuiet
import Derived.StillTailTactics
namespace Go.Proofs.YticpjdjdimpglaaGreatDoor
set_option linter.unusedVariables false
set_option linter.unusedSimpArgs false
open Go.RowKit
def tokCells (t : Tok) : List Value := [.int .i64 t.kind, .string (bs t.text), .int .i64 t.at_]
def probCells (p : Prob) : List Value := [.int .i64 p.at_, .int .i64 p.code]
theorem elemTok : Elem Tryz.prog 161 171 3 32 := Elem.mk' Tryz.underlying161 (z := .agg #[.int .i64 0, .string ⟨#[]⟩, .int .i64 0]) (by kernel_rfl) rfl (by omega)
theorem elemProb : Elem Tryz.prog 162 166 2 16 := Elem.mk' Tryz.underlying162 (z := .agg #[.int .i64 0, .int .i64 0]) (by kernel_rfl) rfl (by omega)
theorem scn_set (A : Option Addr) (n c a b : Nat) : (scnCells A n c a).setIfInBounds 1 (.int .i64 (b : Int)) = scnCells A n c b := by
  unfold scnCells
  rw [List.setIfInBounds_toArray]
  rfl
/-- The state of Tokens: the problems' variable and row, the scanner behind its variable, the end of the last invalid bytes. -/
structure TSt (B : Nat) (w : World) (Pb Ps g Pe : Nat) (A : Option Addr) (n c : Nat) (l : List UInt8) (a : Nat) (E : Int) (P : List Prob) (Ab : Option Addr) (cb : Nat) : Prop where
  bad : Blk w Pb 162 #[.slice Ab P.length cb]
  row : w.ownsRow B 166 2 (.slice Ab P.length cb) P.length (P.flatMap probCells)
  sv : Blk w Ps 203 #[.pointer (some ⟨g, 0, none⟩)]
  scn : Scn w g A n c l a
  src : Rd w B 1 A n c (l.map vb)
  endv : Blk w Pe 3 #[.int .i64 E]
  lb : B ≤ Pb
  ls : B ≤ Ps
  lg : B ≤ g
  le : B ≤ Pe
section
variable {B : Nat} {w w' : World} {Pb Ps g Pe n c a cb : Nat} {A Ab : Option Addr} {l : List UInt8} {E : Int} {P : List Prob}
theorem TSt.below (h : TSt B w Pb Ps g Pe A n c l a E P Ab cb) (hb : Below w.heap.size w w') : TSt B w' Pb Ps g Pe A n c l a E P Ab cb :=
  ⟨h.bad.below hb h.bad.lt, own_below_all h.row hb, h.sv.below hb h.sv.lt, h.scn.below hb h.scn.blk.lt, h.src.below (hb.mono (Nat.le_trans h.lb (Nat.le_of_lt h.bad.lt))), h.endv.below hb h.endv.lt, h.lb, h.ls, h.lg, h.le⟩
theorem TSt.drewN (h : TSt B w Pb Ps g Pe A n c l a E P Ab cb) (q : Nat) : TSt B (w.drewN q) Pb Ps g Pe A n c l a E P Ab cb := h.below (below_drewNg w q)
theorem TSt.hB (h : TSt B w Pb Ps g Pe A n c l a E P Ab cb) : B ≤ w.heap.size := Nat.le_trans h.lb (Nat.le_of_lt h.bad.lt)
/-- A step that writes elsewhere. -/
theorem TSt.only {S : Nat → Prop} (h : TSt B w Pb Ps g Pe A n c l a E P Ab cb) (ho : Only S w w') (h1 : ¬ S Pb) (h2 : ¬ S Ps) (h3 : ¬ S g) (h4 : ¬ S Pe) (h5 : ∀ k, (Value.slice Ab P.length cb).ownBlock = some k → ¬ S k) (h6 : ∀ k, S k → B ≤ k) : TSt B w' Pb Ps g Pe A n c l a E P Ab cb := by
  have hs := h.src.only ho h.hB (fun k hk hS => by have := h6 k hS; omega)
  exact ⟨h.bad.only ho h1, own_only h.row ho h5, h.sv.only ho h2, ⟨h.scn.blk.only ho h3, hs.more h.lg⟩, hs, h.endv.only ho h4, h.lb, h.ls, h.lg, h.le⟩
/-- The scanner moves. -/
theorem TSt.move (h : TSt B w Pb Ps g Pe A n c l a E P Ab cb) (b : Nat) : TSt B (w.setCell ⟨g, 1, none⟩ (.int .i64 (b : Int))) Pb Ps g Pe A n c l b E P Ab cb := by
  have ho : Only (· = g) w (w.setCell ⟨g, 1, none⟩ (.int .i64 (b : Int))) := Only.set (S := (· = g)) w (p := ⟨g, 1, none⟩) rfl _
  have hs := h.src.only ho h.hB (fun k hk hS => by have := h.lg; omega)
  refine ⟨h.bad.only ho (h.bad.ne h.scn.blk (by decide)), own_only h.row ho (fun k hk => own_ne h.row h.scn.blk (by decide) k hk), h.sv.only ho (h.sv.ne h.scn.blk (by decide)), ⟨?_, hs.more h.lg⟩, hs, h.endv.only ho (h.endv.ne h.scn.blk (by decide)), h.lb, h.ls, h.lg, h.le⟩
  have h1 := h.scn.blk.set 1 (.int .i64 (b : Int))
  rwa [scn_set] at h1
theorem TSt.blen (h : TSt B w Pb Ps g Pe A n c l a E P Ab cb) : l.length = n := h.src.blen
end
theorem flatMap_len {α : Type} (f : α → List Value) (m : Nat) (h : ∀ x, (f x).length = m) (l : List α) : (l.flatMap f).length = l.length * m := by
  induction l with
  | nil => simp
  | cons a l ih => simp [ih, h]; rw [Nat.add_mul]; omega
end Go.Proofs.YticpjdjdimpglaaGreatDoor
/- Tokens and problems in memory: one of a row. -/
namespace Go.Proofs.YticpjdjdimpglaaGreatDoor
set_option linter.unusedVariables false
set_option linter.unusedSimpArgs false
open Go.RowKit
theorem flat_get {α : Type} (f : α → List Value) (m : Nat) (hf : ∀ x, (f x).length = m) (l : List α) (k j : Nat) (hk : k < l.length) (hj : j < m) : (l.flatMap f)[k * m + j]? = (f l[k])[j]? := by
  induction l generalizing k with
  | nil => simp at hk
  | cons a l ih =>
    rw [List.flatMap_cons]
    cases k with
    | zero => rw [Nat.zero_mul, Nat.zero_add, List.getElem?_append_left (by rw [hf]; exact hj)]; rfl
    | succ k =>
      rw [List.getElem?_append_right (by rw [hf, Nat.succ_mul]; omega), hf, show (k + 1) * m + j - m = k * m + j by rw [Nat.succ_mul]; omega, ih k (by simpa using hk)]
      rfl
theorem tok_len (t : Tok) : (tokCells t).length = 3 := rfl
theorem prob_len (t : Prob) : (probCells t).length = 2 := rfl
section
variable {w : World} {B n c : Nat} {A : Option Addr}
theorem Rd.tlen {T : List Tok} (h : Rd w B 3 A n c (T.flatMap tokCells)) : T.length = n := by
  have := h.len; rw [flatMap_len tokCells 3 tok_len] at this; omega
theorem Rd.plen {T : List Prob} (h : Rd w B 2 A n c (T.flatMap probCells)) : T.length = n := by
  have := h.len; rw [flatMap_len probCells 2 prob_len] at this; omega
/-- Token k of a slice. -/
theorem Rd.tok {T : List Tok} {k : Nat} (h : Rd w B 3 A n c (T.flatMap tokCells)) (hk : k < n) : ∃ b off t, A = some ⟨b, off, none⟩ ∧ b < B ∧ T[k]? = some t ∧ w.cell? ⟨b, off + k * 3, none⟩ = some (.int .i64 t.kind) ∧ w.cell? ⟨b, off + k * 3 + 1, none⟩ = some (.string (bs t.text)) ∧ w.cell? ⟨b, off + k * 3 + 2, none⟩ = some (.int .i64 t.at_) := by
  have hT := h.tlen
  obtain ⟨b, off, e, hb, hc⟩ := h.cells (by omega)
  have hk' : k < T.length := by omega
  refine ⟨b, off, T[k], e, hb, List.getElem?_eq_getElem hk', ?_, ?_, ?_⟩
  · have := hc (k * 3 + 0) (.int .i64 T[k].kind) (by rw [flat_get tokCells 3 tok_len T k 0 hk' (by omega)]; rfl)
    simpa using this
  · have := hc (k * 3 + 1) (.string (bs T[k].text)) (by rw [flat_get tokCells 3 tok_len T k 1 hk' (by omega)]; rfl)
    rwa [← Nat.add_assoc] at this
  · have := hc (k * 3 + 2) (.int .i64 T[k].at_) (by rw [flat_get tokCells 3 tok_len T k 2 hk' (by omega)]; rfl)
    rwa [← Nat.add_assoc] at this
theorem Rd.prob {T : List Prob} {k : Nat} (h : Rd w B 2 A n c (T.flatMap probCells)) (hk : k < n) : ∃ b off t, A = some ⟨b, off, none⟩ ∧ b < B ∧ T[k]? = some t ∧ w.cell? ⟨b, off + k * 2, none⟩ = some (.int .i64 t.at_) ∧ w.cell? ⟨b, off + k * 2 + 1, none⟩ = some (.int .i64 t.code) := by
  have hT := h.plen
  obtain ⟨b, off, e, hb, hc⟩ := h.cells (by omega)
  have hk' : k < T.length := by omega
  refine ⟨b, off, T[k], e, hb, List.getElem?_eq_getElem hk', ?_, ?_⟩
  · have := hc (k * 2 + 0) (.int .i64 T[k].at_) (by rw [flat_get probCells 2 prob_len T k 0 hk' (by omega)]; rfl)
    simpa using this
  · have := hc (k * 2 + 1) (.int .i64 T[k].code) (by rw [flat_get probCells 2 prob_len T k 1 hk' (by omega)]; rfl)
    rwa [← Nat.add_assoc] at this
end
end Go.Proofs.YticpjdjdimpglaaGreatDoor
/- What the library's functions read of the package-level variables; strconv.Atoi. -/
namespace Go.Proofs.YticpjdjdimpglaaGreatDoor
set_option linter.unusedVariables false
set_option linter.unusedSimpArgs false
open Go.RowKit
/-- What the library's functions read of the package-level variables. -/
structure Now (w : World) : Prop where
  len : ∃ m, w.cell? ⟨4, 0, none⟩ = some (.int .i64 m)
  syn : ∃ tp p, w.var? Tryz.prog "strconv.ErrSyntax" = some #[.iface tp p]
  rng : ∃ tp p, w.var? Tryz.prog "strconv.ErrRange" = some #[.iface tp p]
/-- .. now and in every later world that keeps what lies below B. -/
def Gb (B : Nat) (w : World) : Prop := ∀ w', Below B w w' → Now w'
theorem Gb.now {B : Nat} {w : World} (h : Gb B w) : Now w := h w (Below.refl _ _)
theorem Gb.below {B : Nat} {w w' : World} (h : Gb B w) (hb : Below B w w') : Gb B w' := fun w2 hb2 => h w2 (hb.trans hb2)
theorem Gb.more {B B' : Nat} {w : World} (h : Gb B w) (hB : B ≤ B') : Gb B' w := fun w2 hb2 => h w2 (hb2.mono hB)
/-- How strconv.Atoi ends. -/
def AtoiPost (l : List UInt8) (w : World) (e : Ending) (w' : World) : Prop :=
  ((∃ v, Lib.atoiAll l = .ok v ∧ e = .returned (.tuple #[.int .i64 v, .nilIface])) ∨ ((∀ v, Lib.atoiAll l ≠ .ok v) ∧ ∃ x tp p, e = .returned (.tuple #[.int .i64 x, .iface tp p]))) ∧ Below w.heap.size w w'
theorem atoi_any (l : List UInt8) (hl : l.length ≤ 100000) (w : World) (hg : Now w) : Calls Tryz.prog 173 #[.string (bs l)] w (AtoiPost l w) := by
  cases h : Lib.atoiAll l with
  | ok v =>
    refine (Tryz.strconv_Atoi_ok (bs l) (by rw [bs_size]; omega) v h w).mono ?_
    rintro e w' ⟨rfl, hw⟩
    refine ⟨.inl ⟨v, h, rfl⟩, ?_⟩
    rcases hw with rfl | ⟨t, rfl⟩
    · exact Below.refl _ _
    · exact Lib.bytesWorld_below _ _ _
  | range =>
    obtain ⟨tp, p, hv⟩ := hg.rng
    refine (Tryz.strconv_Atoi_range_var (bs l) (by rw [bs_size]; omega) h tp p w hv).mono ?_
    rintro e w' ⟨N, rfl, _, _, hb⟩
    exact ⟨.inr ⟨(fun v => by rw [h]; exact (fun e => by cases e)), _, _, _, rfl⟩, hb⟩
  | _ =>
    obtain ⟨tp, p, hv⟩ := hg.syn
    refine (Tryz.strconv_Atoi_syntax_var (bs l) (by rw [bs_size]; omega) h tp p w hv).mono ?_
    rintro e w' ⟨N, rfl, _, _, hb⟩
    exact ⟨.inr ⟨(fun v => by rw [h]; exact (fun e => by cases e)), _, _, _, rfl⟩, hb⟩
end Go.Proofs.YticpjdjdimpglaaGreatDoor
/- The parser in memory; next, fail, is, skip, want, name by their contracts. -/
namespace Go.Proofs.YticpjdjdimpglaaGreatDoor
set_option linter.unusedVariables false
set_option linter.unusedSimpArgs false
open Go.RowKit
/-- What the tokens of a text are like. -/
structure TOk (T : List Tok) : Prop where
  len : T.length ≤ 65537
  text : ∀ t ∈ T, t.text.length ≤ 65536
  int : ∀ t ∈ T, t.kind = 2 → intB t.text = true
/-- Block g is a parser over the tokens T, at token a; the tokens lie below B. -/
structure PSt (w : World) (B g : Nat) (A : Option Addr) (n c : Nat) (T : List Tok) (a : Nat) : Prop where
  blk : Blk w g 168 #[.slice A n c, vi a]
  src : Rd w B 3 A n c (T.flatMap tokCells)
  lb : B ≤ g
  gb : Gb B w
theorem bdrew {B : Nat} (w : World) : ∀ n, Below B w (w.drewN n) := fun n => ⟨rfl, rfl, rfl, Nat.le_refl _, fun _ _ => rfl⟩
def tokV (t : Tok) : Value := .agg #[.int .i64 t.kind, .string (bs t.text), .int .i64 t.at_]
section
variable {w w' : World} {B g n c a : Nat} {A : Option Addr} {T : List Tok}
theorem PSt.l (h : PSt w B g A n c T a) : w.cell? ⟨g, 0, none⟩ = some (.slice A n c) := by rw [h.blk.cell]; rfl
theorem PSt.at_ (h : PSt w B g A n c T a) : w.cell? ⟨g, 1, none⟩ = some (.int .i64 (a : Int)) := by rw [h.blk.cell]; rfl
theorem PSt.free (h : PSt w B g A n c T a) (i : Nat) : w.frozen? ⟨g, i, none⟩ = false := h.blk.frozen i
theorem PSt.lt (h : PSt w B g A n c T a) : g < w.heap.size := h.blk.lt
theorem PSt.tlen (h : PSt w B g A n c T a) : T.length = n := h.src.tlen
/-- A step that writes elsewhere. -/
theorem PSt.only {S : Nat → Prop} (h : PSt w B g A n c T a) (ho : Only S w w') (h1 : ¬ S g) (h2 : ∀ k, S k → B ≤ k) : PSt w' B g A n c T a := by
  have hs := h.src.only ho (Nat.le_trans h.lb (Nat.le_of_lt h.lt)) (fun k hk hS => by have := h2 k hS; omega)
  exact ⟨h.blk.only ho h1, hs, h.lb, h.gb.below ⟨ho.os, ho.tape, ho.output, ho.size, fun k hk => ho.block k (Nat.lt_of_lt_of_le hk (Nat.le_trans h.lb (Nat.le_of_lt h.lt))) (fun hS => by have := h2 k hS; omega)⟩⟩
theorem PSt.glob (h : PSt w B g A n c T a) : ∃ m, w.cell? ⟨4, 0, none⟩ = some (.int .i64 m) := h.gb.now.len
theorem PSt.below (h : PSt w B g A n c T a) (hb : Below w.heap.size w w') : PSt w' B g A n c T a :=
  h.only (S := fun _ => False) ⟨hb.os, hb.tape, hb.output, hb.size, fun k hk _ => hb.block k hk⟩ (fun h => h) (fun _ h => h.elim)
theorem PSt.drewN (h : PSt w B g A n c T a) (q : Nat) : PSt (w.drewN q) B g A n c T a := h.below (below_drewNg w q)
/-- The parser goes on. -/
theorem PSt.move (h : PSt w B g A n c T a) (b : Nat) : PSt (w.setCell ⟨g, 1, none⟩ (.int .i64 (b : Int))) B g A n c T b := by
  have ho : Only (· = g) w (w.setCell ⟨g, 1, none⟩ (.int .i64 (b : Int))) := Only.set (S := (· = g)) w (p := ⟨g, 1, none⟩) rfl _
  have hs := h.src.only ho (Nat.le_trans h.lb (Nat.le_of_lt h.lt)) (fun k hk hS => by have := h.lb; omega)
  have h1 := h.blk.set 1 (.int .i64 (b : Int))
  exact ⟨h1, hs, h.lb, h.gb.below ⟨ho.os, ho.tape, ho.output, ho.size, fun k hk => ho.block k (Nat.lt_of_lt_of_le hk (Nat.le_trans h.lb (Nat.le_of_lt h.lt))) (fun hS => by have := h.lb; omega)⟩⟩
end
set_option maxHeartbeats 400000 in
set_option maxRecDepth 100000 in
theorem ynext_any (B g : Nat) (A : Option Addr) (n c : Nat) (T : List Tok) (a : Nat) (w : World) (h : PSt w B g A n c T a) (ha : a ≤ 70000) :
    Calls Tryz.prog 131 #[.pointer (some ⟨g, 0, none⟩)] w fun e w' => e = .returned (tokV (nx T a)) ∧ Below w.heap.size w w' := by
  have hcap := h.src.cap
  have hbig := h.src.big
  have c0 := h.l
  have c1 := h.at_
  have HL := Lib.hid h.tlen
  have hlt := h.lt
  by_cases hk : a < n
  · obtain ⟨b, off, t, rfl, hb, ht, _, _, _⟩ := h.src.tok hk
    have HN := Lib.hid (show nx T a = t by unfold nx; rw [ht]; rfl)
    go_enter Tryz.func131, Tryz.ntmps131
    go_wp2
    go_quiet (fail)
    go_wp2
    first | (refine calls_named ?_; intro W hW) | (refine body_named ?_; intro W hW) | (refine wpList_named ?_; intro W hW) | (refine wp_named ?_; intro W hW)
    have hbw := Lib.hid (show Below w.heap.size w W by rw [← hW]; exact ((Below.refl _ _).alloc (Nat.le_refl _) _).trans (bdrew _ nq))
    have hk1 : Blk W w.heap.size 171 #[.int .i64 0, .string ⟨#[]⟩, .int .i64 0] := by rw [← hW]; exact (Blk.new _ _ _).drewN _
    have h1 := h.below hbw.out
    clear c0 c1 hW h
    obtain ⟨_, _, t', ⟨⟩, _, ht', g0, g1, g2⟩ := h1.src.tok hk
    rw [ht] at ht'
    cases ht'
    have c0 := h1.l
    have c1 := h1.at_
    clear h1 ht
    go_still_tail 10, (by kernel_rfl)
    first | (refine calls_named ?_; intro W2 hW2) | (refine body_named ?_; intro W2 hW2) | (refine wpList_named ?_; intro W2 hW2) | (refine wp_named ?_; intro W2 hW2)
    have hb2 := Lib.hid (show Below w.heap.size w W2 by rw [← hW2]; exact hbw.out.trans (bdrew _ 1))
    have hk2 : Blk W2 w.heap.size 171 #[.int .i64 0, .string ⟨#[]⟩, .int .i64 0] := by rw [← hW2]; exact hk1
    clear hW2 hk1
    have f0 := hk2.frozen 0
    have f1 := hk2.frozen 1
    have f2 := hk2.frozen 2
    have x0 : W2.cell? ⟨w.heap.size, 0, none⟩ = some (.int .i64 0) := by rw [hk2.cell]; rfl
    have x1 : W2.cell? ⟨w.heap.size, 1, none⟩ = some (.string ⟨#[]⟩) := by rw [hk2.cell]; rfl
    have x2 : W2.cell? ⟨w.heap.size, 2, none⟩ = some (.int .i64 0) := by rw [hk2.cell]; rfl
    have l0 := hk2.lt
    go_wp2
    first | (refine calls_named ?_; intro W3 hW3) | (refine body_named ?_; intro W3 hW3) | (refine wpList_named ?_; intro W3 hW3) | (refine wp_named ?_; intro W3 hW3)
    have hb3 := Lib.hid (show Below w.heap.size w W3 by rw [← hW3]; exact ((hb2.out.setCell (Nat.le_refl _) _).setCell (Nat.le_refl _) _).setCell (Nat.le_refl _) _)
    have hk3 : Blk W3 w.heap.size 171 #[.int .i64 t.kind, .string (bs t.text), .int .i64 t.at_] := by rw [← hW3]; exact ((hk2.set 0 _).set 1 _).set 2 _
    have y0 : W3.cell? ⟨w.heap.size, 0, none⟩ = some (.int .i64 t.kind) := by rw [hk3.cell]; rfl
    have y1 : W3.cell? ⟨w.heap.size, 1, none⟩ = some (.string (bs t.text)) := by rw [hk3.cell]; rfl
    have y2 : W3.cell? ⟨w.heap.size, 2, none⟩ = some (.int .i64 t.at_) := by rw [hk3.cell]; rfl
    refine bodyPost_ret (by simp [results, Tryz.results131, go_sem, y0, y1, y2]; try rfl) rfl ?_
    exact ⟨by rw [HN.out]; rfl, hb3.out⟩
  · have HN := Lib.hid (nx_out T (a := a) (by have := HL.out; omega))
    go_enter Tryz.func131, Tryz.ntmps131
    go_wp2
    go_quiet (fail)
    go_wp2
    first | (refine calls_named ?_; intro W3 hW3) | (refine body_named ?_; intro W3 hW3) | (refine wpList_named ?_; intro W3 hW3) | (refine wp_named ?_; intro W3 hW3)
    have hb3 := Lib.hid (show Below w.heap.size w W3 by rw [← hW3]; exact ((((((Below.refl _ _).alloc (Nat.le_refl _) _).trans (bdrew _ nq)).setCell (Nat.le_refl _) _).setCell (Nat.le_refl _) _).setCell (Nat.le_refl _) _))
    have hk3 : Blk W3 w.heap.size 171 #[.int .i64 5, .string ⟨#[]⟩, .int .i64 0] := by rw [← hW3]; exact ((((Blk.new _ _ _).drewN _).set 0 _).set 1 _).set 2 _
    have y0 : W3.cell? ⟨w.heap.size, 0, none⟩ = some (.int .i64 5) := by rw [hk3.cell]; rfl
    have y1 : W3.cell? ⟨w.heap.size, 1, none⟩ = some (.string ⟨#[]⟩) := by rw [hk3.cell]; rfl
    have y2 : W3.cell? ⟨w.heap.size, 2, none⟩ = some (.int .i64 0) := by rw [hk3.cell]; rfl
    refine bodyPost_ret (by simp [results, Tryz.results131, go_sem, y0, y1, y2]; try rfl) rfl ?_
    exact ⟨by rw [HN.out]; rfl, hb3.out⟩
/-- The panic of a parser at its first error. -/
abbrev panF : Ending := .panicked [{ v := .iface 209 (.agg #[]), recovered := false }]
theorem yfail_any (g : Nat) (w : World) : Calls Tryz.prog 132 #[.pointer (some ⟨g, 0, none⟩)] w fun e w' => e = panF ∧ w' = w := by
  go_enter Tryz.func132, Tryz.ntmps132
  go_wp2
  exact ⟨rfl, rfl, rfl⟩
set_option maxHeartbeats 400000 in
set_option maxRecDepth 100000 in
theorem yis_any (B g : Nat) (A : Option Addr) (n c : Nat) (T : List Tok) (a : Nat) (s : List UInt8) (w : World) (h : PSt w B g A n c T a) (ha : a ≤ 70000) (hs : s.length ≤ 70000) :
    Calls Tryz.prog 206 #[.pointer (some ⟨g, 0, none⟩), .string (bs s)] w fun e w' => e = .returned (.bool (isB T a s)) ∧ Below w.heap.size w w' := by
  obtain ⟨⟨k, tx, p⟩, ht⟩ : ∃ t, nx T a = t := ⟨_, rfl⟩
  have HI : isB T a s = (tx == s && (k == 4 || (k == 1 && kwB s))) := by rw [isB, ht]
  have HN := Lib.hid (ynext_any B g A n c T a w h ha)
  rw [ht] at HN
  clear ht
  have HG := Lib.hid h.glob
  by_cases e1 : (tx == s) = true
  · rw [e1, Bool.true_and] at HI
    by_cases e2 : k = 4
    · subst e2
      have HJ := Lib.hid HI; clear HI
      go_enter Tryz.func206, Tryz.ntmps206
      go_wp2_with (fail)
      refine HN.out.mono ?_
      rintro e w1 ⟨rfl, hb1⟩
      unfold tokV
      dsimp only
      go_wp2_with (fail)
      go_returns
      exact ⟨by rw [HJ.out]; rfl, (hb1.trans ((Below.refl _ _).alloc hb1.size _))⟩
    · have e3 : (k == 4) = false := by rw [beq_eq_false_iff_ne]; exact e2
      rw [e3, Bool.false_or] at HI
      by_cases e4 : k = 1
      · subst e4
        have HJ := Lib.hid (show isB T a s = kwB s by rw [HI]; rfl); clear HI
        have HX := Lib.hid (show tx = s by simpa using e1)
        obtain ⟨m, hm⟩ := HG.out
        have HM := Lib.hid hm
        clear hm e2 e3
        go_enter Tryz.func206, Tryz.ntmps206
        go_wp2_with (fail)
        refine HN.out.mono ?_
        rintro e w1 ⟨rfl, hb1'⟩
        have hb1 := Lib.hid hb1'
        clear hb1'
        unfold tokV
        dsimp only
        go_wp2_with (fail)
        first | (refine calls_named ?_; intro W hW) | (refine body_named ?_; intro W hW) | (refine wpList_named ?_; intro W hW) | (refine wp_named ?_; intro W hW)
        have hb2 := Lib.hid (show Below w.heap.size w W by rw [← hW]; exact hb1.out.alloc hb1.out.size _)
        clear hW
        refine (keyword_any s m W ((hb2.out.cell (World.block_lt_of_cell? w _ HM.out)).trans HM.out) hs).mono ?_
        rintro e w2 ⟨rfl, hb3⟩
        go_wp2_with (fail)
        go_returns
        exact ⟨by rw [HJ.out]; rfl, hb2.out.trans (hb3.mono hb2.out.size)⟩
      · have e5 : (k == 1) = false := by rw [beq_eq_false_iff_ne]; exact e4
        rw [e5, Bool.false_and] at HI
        have HJ := Lib.hid HI; clear HI
        go_enter Tryz.func206, Tryz.ntmps206
        go_wp2_with (fail)
        refine HN.out.mono ?_
        rintro e w1 ⟨rfl, hb1⟩
        unfold tokV
        dsimp only
        go_wp2_with (fail)
        go_returns
        exact ⟨by rw [HJ.out]; rfl, (hb1.trans ((Below.refl _ _).alloc hb1.size _))⟩
  · rw [Bool.not_eq_true] at e1
    rw [e1, Bool.false_and] at HI
    have HJ := Lib.hid HI; clear HI
    go_enter Tryz.func206, Tryz.ntmps206
    go_wp2_with (fail)
    refine HN.out.mono ?_
    rintro e w1 ⟨rfl, hb1⟩
    unfold tokV
    dsimp only
    go_wp2_with (fail)
    go_returns
    exact ⟨by rw [HJ.out]; rfl, (hb1.trans ((Below.refl _ _).alloc hb1.size _))⟩
theorem yskip_no (B g : Nat) (A : Option Addr) (n c : Nat) (T : List Tok) (a : Nat) (s : List UInt8) (w : World) (h : PSt w B g A n c T a) (ha : a ≤ 70000) (hs : s.length ≤ 70000) (hb : isB T a s = false) :
    Calls Tryz.prog 170 #[.pointer (some ⟨g, 0, none⟩), .string (bs s)] w fun e w' => e = .returned (.bool false) ∧ Below w.heap.size w w' := by
  have HN := Lib.hid (yis_any B g A n c T a s w h ha hs)
  rw [hb] at HN
  clear hb h
  go_enter Tryz.func170, Tryz.ntmps170
  go_wp2_with (fail)
  refine HN.out.mono ?_
  rintro e w1 ⟨rfl, hb1⟩
  go_wp2_with (fail)
  go_returns
  exact ⟨rfl, hb1⟩
set_option maxRecDepth 100000 in
theorem yskip_yes (B g : Nat) (A : Option Addr) (n c : Nat) (T : List Tok) (a : Nat) (s : List UInt8) (w : World) (h : PSt w B g A n c T a) (ha : a ≤ 70000) (hs : s.length ≤ 70000) (hb : isB T a s = true) :
    Calls Tryz.prog 170 #[.pointer (some ⟨g, 0, none⟩), .string (bs s)] w fun e w' => e = .returned (.bool true) ∧ PSt w' B g A n c T (a + 1) ∧ Only (· = g) w w' := by
  have HN := Lib.hid (yis_any B g A n c T a s w h ha hs)
  rw [hb] at HN
  clear hb
  go_enter Tryz.func170, Tryz.ntmps170
  go_wp2_with (fail)
  refine HN.out.mono ?_
  rintro e w1 ⟨rfl, hb1⟩
  have h1 := h.below hb1
  have c1 := h1.at_
  have f1 := h1.free 1
  go_wp2_with (fail)
  go_returns
  exact ⟨rfl, h1.move (a + 1), (Only.of_below hb1).trans (Only.set (S := (· = g)) _ (p := ⟨g, 1, none⟩) rfl _)⟩
/-- What a parser's function hands back. -/
def PPost {α : Type} (w : World) (B g : Nat) (A : Option Addr) (n c : Nat) (T : List Tok) (r : Res α) (V : α → World → Value → Prop) (e : Ending) (w' : World) : Prop :=
  Only (· = g) w w' ∧ match r with
    | .ok x m => (∃ v, e = .returned v ∧ V x w' v) ∧ PSt w' B g A n c T m
    | .bad m => e = panF ∧ PSt w' B g A n c T m
set_option maxHeartbeats 1000000 in
set_option maxRecDepth 100000 in
theorem ywant_any (B g : Nat) (A : Option Addr) (n c : Nat) (T : List Tok) (a : Nat) (A' : Option Addr) (m c' B' : Nat) (ws : List (List UInt8)) (w : World) (h : PSt w B g A n c T a) (ha : a ≤ 65537) (hT : T.length ≤ 65537)
    (hr : Rd w B' 1 A' m c' (ws.map fun s => .string (bs s))) (hws : ∀ s ∈ ws, s.length ≤ 70000) (hB' : B' ≤ w.heap.size) (hg : ∀ p, A' = some p → p.block ≠ g) (hm : m ≤ 100) :
    Calls Tryz.prog 137 #[.pointer (some ⟨g, 0, none⟩), .slice A' m c'] w (PPost w B g A n c T (pwant T ws a) fun _ _ v => v = .tuple #[]) := by
  have HL := Lib.hid (show ws.length = m by have := hr.len; simpa using this)
  have hcap := hr.cap
  have hbig := hr.big
  have HR := Lib.hid hr
  have HW := Lib.hid hws
  have HG := Lib.hid hg
  have H := Lib.hid h
  clear hr hws hg h
  go_enter Tryz.func137, Tryz.ntmps137
  go_wp2
  go_loopw [8] (fun i wr => ∃ k : Nat, k ≤ m ∧ i = .int .i64 k ∧ Hid (pwant T ws a = pwant T (ws.drop k) (a + k)) ∧ Hid (PSt wr B g A n c T (a + k)) ∧ Hid (Only (· = g) w wr)) (fun i _ => m - (intOf i).toNat)
  case atStart => exact ⟨0, Nat.zero_le _, rfl, rfl, H.out, Only.refl _ _⟩
  case round =>
    obtain ⟨k, hk, rfl, hp, hP, hO⟩ := hrel
    by_cases hlt : k < m
    · have hkw : k < ws.length := by have := HL.out; omega
      obtain ⟨b, off, u, hA, hb, hu, x1'⟩ := HR.out.one hlt
      have x1 : wr.cell? ⟨b, off + k, none⟩ = some u := (World.cell?_of_block (hO.out.block b (by omega) (HG.out _ hA))).trans x1'
      clear x1'
      subst hA
      obtain rfl : u = .string (bs ws[k]) := by simpa [hkw] using hu.symm
      clear hu
      have hs : (ws[k]).length ≤ 70000 := HW.out _ (List.getElem_mem hkw)
      have HD := Lib.hid (List.drop_eq_getElem_cons hkw)
      have hak : a + k ≤ 70000 := by omega
      generalize ws[k] = s at *
      cases hB : isB T (a + k) s with
      | true =>
        have HC := Lib.hid (yskip_yes B g A n c T (a + k) s wr hP.out hak hs hB)
        have HP2 := Lib.hid (show pwant T ws a = pwant T (ws.drop (k + 1)) (a + (k + 1)) by rw [hp.out, HD.out, pwant, hB]; rfl)
        clear hB
        go_wp2_with (fail)
        refine HC.out.mono ?_
        rintro e w1 ⟨rfl, hP1', hO1'⟩
        have hP1 := Lib.hid hP1'
        have hO1 := Lib.hid hO1'
        clear hP1' hO1'
        go_wp2_with (fail)
        go_roundw
        case rel => exact ⟨k + 1, by omega, by go_num, HP2.out, hP1.out, hO.out.trans hO1.out⟩
        case measure => simp [intOf]; omega
      | false =>
        have HC := Lib.hid (yskip_no B g A n c T (a + k) s wr hP.out hak hs hB)
        have HP2 := Lib.hid (show pwant T ws a = .bad (a + k) by rw [hp.out, HD.out, pwant, hB]; rfl)
        clear hB
        go_wp2_with (fail)
        refine HC.out.mono ?_
        rintro e w1 ⟨rfl, hb1'⟩
        have hb1 := Lib.hid hb1'
        clear hb1'
        go_wp2_with (fail)
        refine (yfail_any g w1).mono ?_
        rintro e w2 ⟨rfl, rfl⟩
        go_wp2
        refine ⟨rfl, ?_⟩
        unfold PPost
        rw [HP2.out]
        exact ⟨hO.out.trans (Only.of_below hb1.out), rfl, hP.out.below hb1.out⟩
    · obtain rfl : k = m := by omega
      have HP2 := Lib.hid (show pwant T ws a = .ok () (a + k) by rw [hp.out, List.drop_eq_nil_of_le (by have := HL.out; omega)]; rfl)
      go_wp2
      go_end0
      unfold PPost
      rw [HP2.out]
      exact ⟨hO.out, ⟨_, rfl, rfl⟩, hP.out⟩
set_option maxHeartbeats 1000000 in
set_option maxRecDepth 100000 in
theorem yname_any (B g : Nat) (A : Option Addr) (n c : Nat) (T : List Tok) (a : Nat) (w : World) (h : PSt w B g A n c T a) (hT : TOk T) (ha : a ≤ 65537) :
    Calls Tryz.prog 138 #[.pointer (some ⟨g, 0, none⟩)] w (PPost w B g A n c T (pname T a) fun x _ v => v = .string (bs x)) := by
  obtain ⟨⟨k, tx, p⟩, ht⟩ : ∃ t, nx T a = t := ⟨_, rfl⟩
  have HN := Lib.hid (ynext_any B g A n c T a w h (by omega))
  have HD : pname T a = if k = 1 ∧ kwB tx = false then .ok tx (a + 1) else .bad a := by rw [pname, ht]
  have htx : tx.length ≤ 70000 := by
    by_cases hk : a < T.length
    · have h1 : T[a] = ⟨k, tx, p⟩ := by rw [← ht]; simp [nx, hk]
      have := hT.text _ (List.getElem_mem hk)
      rw [h1] at this
      exact Nat.le_trans this (by omega)
    · rw [nx_out T (by omega)] at ht
      injection ht with _ h2 _
      simp [← h2]
  rw [ht] at HN
  clear ht hT
  have HS := Lib.hid h
  by_cases e1 : k = 1
  · subst e1
    obtain ⟨m, hm⟩ := h.glob
    have HM := Lib.hid hm
    clear hm h
    obtain ⟨q, hq⟩ : ∃ q, kwB tx = q := ⟨_, rfl⟩
    have HQ := Lib.hid hq
    rw [hq] at HD
    clear hq
    have HD := Lib.hid HD
    go_enter Tryz.func138, Tryz.ntmps138
    go_wp2_with (fail)
    refine HN.out.mono ?_
    rintro e w1 ⟨rfl, hb1'⟩
    have hb1 := Lib.hid hb1'
    clear hb1'
    unfold tokV
    dsimp only
    go_wp2_with (fail)
    first | (refine calls_named ?_; intro W hW) | (refine body_named ?_; intro W hW) | (refine wpList_named ?_; intro W hW) | (refine wp_named ?_; intro W hW)
    have hb2 := Lib.hid (show Below w.heap.size w W by rw [← hW]; exact hb1.out.alloc hb1.out.size _)
    have hk2 : Blk W w1.heap.size 171 #[.int .i64 1, .string (bs tx), .int .i64 p] := by rw [← hW]; exact Blk.new _ _ _
    clear hW
    refine (keyword_any tx m W ((hb2.out.cell (World.block_lt_of_cell? w _ HM.out)).trans HM.out) htx).mono ?_
    rintro e w2 ⟨rfl, hb3'⟩
    rw [HQ.out]
    have hk3 := hk2.below hb3' hk2.lt
    have hb3 := Lib.hid (hb2.out.trans (hb3'.mono hb2.out.size))
    clear hb3' hk2
    have y1 : w2.cell? ⟨w1.heap.size, 1, none⟩ = some (.string (bs tx)) := by rw [hk3.cell]; rfl
    cases q with
    | true =>
      go_wp2_with (fail)
      refine (yfail_any g w2).mono ?_
      rintro e w4 ⟨rfl, rfl⟩
      go_wp2
      refine ⟨rfl, ?_⟩
      unfold PPost
      rw [HD.out]
      exact ⟨Only.of_below hb3.out, rfl, HS.out.below hb3.out⟩
    | false =>
      have HP := Lib.hid (HS.out.below hb3.out)
      have c1 := HP.out.at_
      have f1 := HP.out.free 1
      have hne : g < w1.heap.size := Nat.lt_of_lt_of_le HS.out.lt hb1.out.size
      have y2 : (w2.setCell ⟨g, 1, none⟩ (.int .i64 ((a : Int) + 1))).cell? ⟨w1.heap.size, 1, none⟩ = some (.string (bs tx)) := by rw [← y1]; exact World.cell?_setCell_other _ _ _ _ (fun e => by injection e with e1; omega)
      go_wp2_with (fail)
      go_ret
      unfold PPost
      rw [HD.out]
      exact ⟨(Only.of_below hb3.out).trans (Only.set (S := (· = g)) _ (p := ⟨g, 1, none⟩) rfl _), ⟨_, rfl, rfl⟩, HP.out.move (a + 1)⟩
  · have HD := Lib.hid (show pname T a = .bad a by rw [HD, if_neg (fun h => e1 h.1)])
    go_enter Tryz.func138, Tryz.ntmps138
    go_wp2_with (fail)
    refine HN.out.mono ?_
    rintro e w1 ⟨rfl, hb1'⟩
    have hb1 := Lib.hid hb1'
    clear hb1'
    unfold tokV
    dsimp only
    go_wp2_with (fail)
    first | (refine calls_named ?_; intro W hW) | (refine body_named ?_; intro W hW) | (refine wpList_named ?_; intro W hW) | (refine wp_named ?_; intro W hW)
    have hb2 := Lib.hid (show Below w.heap.size w W by rw [← hW]; exact hb1.out.alloc hb1.out.size _)
    refine (yfail_any g W).mono ?_
    rintro e w4 ⟨rfl, rfl⟩
    go_wp2
    refine ⟨rfl, ?_⟩
    unfold PPost
    rw [HD.out]
    exact ⟨Only.of_below hb2.out, rfl, HS.out.below hb2.out⟩
end Go.Proofs.YticpjdjdimpglaaGreatDoor
