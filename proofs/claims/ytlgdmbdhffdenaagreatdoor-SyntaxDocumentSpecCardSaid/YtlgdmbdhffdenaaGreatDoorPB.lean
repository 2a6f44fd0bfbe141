/- The parser of chapter 13 in plain Lean: on a list of tokens and an offset. No program. -/
import Derived.Test.YtlgdmbdhffdenaaGreatDoorKeyword
import Derived.Test.YtlgdmbdhffdenaaGreatDoorPA
namespace Go.Proofs.YtlgdmbdhffdenaaGreatDoor
set_option linter.unusedVariables false
set_option linter.unusedSimpArgs false
abbrev kRules : List UInt8 := [114, 117, 108, 101, 115]
abbrev kWin : List UInt8 := [119, 105, 110]
abbrev kDraw : List UInt8 := [100, 114, 97, 119]
abbrev kLoss : List UInt8 := [108, 111, 115, 115]
abbrev kOrder : List UInt8 := [111, 114, 100, 101, 114]
abbrev kZones : List UInt8 := [122, 111, 110, 101, 115]
abbrev kTo : List UInt8 := [116, 111]
abbrev kIf : List UInt8 := [105, 102]
abbrev kElse : List UInt8 := [101, 108, 115, 101]
abbrev kAnd : List UInt8 := [97, 110, 100]
abbrev kOr : List UInt8 := [111, 114]
abbrev kNot : List UInt8 := [110, 111, 116]
abbrev kTied : List UInt8 := [116, 105, 101, 100]
abbrev kRound : List UInt8 := [114, 111, 117, 110, 100]
abbrev kFin : List UInt8 := [102, 105, 110, 105, 115, 104, 101, 100]
abbrev kClubs : List UInt8 := [99, 108, 117, 98, 115]
abbrev kPoints : List UInt8 := [112, 111, 105, 110, 116, 115]
abbrev kDiff : List UInt8 := [100, 105, 102, 102, 101, 114, 101, 110, 99, 101]
abbrev kGoals : List UInt8 := [103, 111, 97, 108, 115]
abbrev kWins : List UInt8 := [119, 105, 110, 115]
abbrev kAway : List UInt8 := [97, 119, 97, 121]
abbrev kFair : List UInt8 := [102, 97, 105, 114]
abbrev kHead : List UInt8 := [104, 101, 97, 100]
abbrev kLots : List UInt8 := [108, 111, 116, 115]
abbrev kLP : List UInt8 := [40]
abbrev kRP : List UInt8 := [41]
abbrev kLB : List UInt8 := [123]
abbrev kRB : List UInt8 := [125]
abbrev kSemi : List UInt8 := [59]
abbrev kGe : List UInt8 := [62, 61]
abbrev kGt : List UInt8 := [62]
abbrev kLt : List UInt8 := [60]
abbrev kLe : List UInt8 := [60, 61]
abbrev kEq : List UInt8 := [61]

/-- Conditions in a row (first child, next in the row); one condition; steps in a row; zones; rules: as the chapter's types have them. -/
inductive CF where
  | nil
  | cons (k v n : Int) (ps rest : CF)
deriving DecidableEq
structure CT where
  k : Int
  v : Int
  n : Int
  ps : CF
deriving DecidableEq
inductive SF where
  | nil
  | cons (k b : Int) (ck cv cn : Int) (cps : CF) (th el rest : SF)
deriving DecidableEq
structure ZT where
  name : List UInt8
  fr : Int
  to : Int
deriving DecidableEq
structure RT where
  name : List UInt8
  win : Int
  draw : Int
  loss : Int
  order : SF
  zones : List ZT
deriving DecidableEq
def CF.one (c : CT) (r : CF) : CF := .cons c.k c.v c.n c.ps r
def SF.one (k b : Int) (c : CT) (th el rest : SF) : SF := .cons k b c.k c.v c.n c.ps th el rest
def CT.zero : CT := ⟨0, 0, 0, .nil⟩
def RT.zero : RT := ⟨[], 0, 0, 0, .nil, []⟩

/-- What a parser hands back: a thing and the next offset, or the offset of the first error. -/
inductive Res (α : Type) where
  | ok (a : α) (n : Nat)
  | bad (n : Nat)
def Res.bind {α β : Type} (r : Res α) (f : α → Nat → Res β) : Res β := match r with | .ok a n => f a n | .bad n => .bad n
def Res.map {α β : Type} (f : α → β) (r : Res α) : Res β := match r with | .ok a n => .ok (f a) n | .bad n => .bad n

section
variable (T : List Tok)
/-- The next token. -/
def nx (a : Nat) : Tok := T[a]?.getD ⟨5, [], 0⟩
/-- Is the next token this keyword or sign? -/
def isB (a : Nat) (s : List UInt8) : Bool := (nx T a).text == s && ((nx T a).kind == 4 || ((nx T a).kind == 1 && kwB s))
def pwant : List (List UInt8) → Nat → Res Unit
  | [], a => .ok () a
  | s :: r, a => if isB T a s then pwant r (a + 1) else .bad a
def pname (a : Nat) : Res (List UInt8) := if (nx T a).kind = 1 ∧ kwB (nx T a).text = false then .ok (nx T a).text (a + 1) else .bad a
/-- The number of an integer's text. -/
def dig (n : Int) (c : UInt8) : Int := if c = 45 then n else 10 * n + (c.toNat - 48 : Int)
def num (s : List UInt8) : Int := if bt s 0 = 45 then -(s.foldl dig 0) else s.foldl dig 0
def pint (a : Nat) : Res Int := if (nx T a).kind = 2 then .ok (num (nx T a).text) (a + 1) else .bad a
def lkup (s : List UInt8) : List (List UInt8 × Int) → Option Int
  | [] => none
  | (k, v) :: r => if s = k then some v else lkup s r
def pchoose (ws : List (List UInt8 × Int)) (a : Nat) : Res Int := match lkup (nx T a).text ws with | some v => if isB T a (nx T a).text then .ok v (a + 1) else .bad a | none => .bad a
/-- What words stand for; the last word of the program's text first. -/
def wVars : List (List UInt8 × Int) := [(kClubs, 4), (kFin, 3), (kRound, 2), (kTied, 1)]
def wOps : List (List UInt8 × Int) := [(kEq, 5), (kLe, 4), (kLt, 3), (kGt, 2), (kGe, 1)]
def least (v n : Int) : CT := ⟨1, v, n, .nil⟩
def cnot (c : CT) : CT := ⟨4, 0, 0, .one c .nil⟩
def compare_ (v op n : Int) : CT := if op = 1 then least v n else if op = 2 then least v (n + 1) else if op = 3 then cnot (least v n) else if op = 4 then cnot (least v (n + 1)) else ⟨2, 0, 0, .one (least v n) (.one (cnot (least v (n + 1))) .nil)⟩
def pcomp (a : Nat) : Res CT := (pchoose T wVars a).bind fun v n => (pchoose T wOps n).bind fun op m => (pint T m).bind fun i k => .ok (compare_ v op i) k
/-- The further ones, with a keyword ahead of each. -/
def pmore (kw : List UInt8) (p : Nat → Res CT) : Nat → Nat → Res CF
  | 0, a => .ok .nil a
  | g + 1, a => if isB T a kw then (p (a + 1)).bind fun c n => (pmore kw p g n).map (CF.one c) else .ok .nil a
def join_ (kind : Int) (c : CT) (cs : CF) : CT := match cs with | .nil => c | .cons .. => ⟨kind, 0, 0, .one c cs⟩
def pjoined (kw : List UInt8) (kind : Int) (p : Nat → Res CT) (a : Nat) : Res CT := (p a).bind fun c n => (pmore T kw p (T.length - n) n).map (join_ kind c)
def punit : Nat → Nat → Res CT
  | 0, a => .bad a
  | f + 1, a =>
    if isB T a kNot then (punit f (a + 1)).map cnot
    else if isB T a kLP then (pjoined T kOr 3 (pjoined T kAnd 2 (punit f)) (a + 1)).bind fun c n => (pwant T [kRP] n).map fun _ => c
    else pcomp T a
def pconj (f : Nat) : Nat → Res CT := pjoined T kAnd 2 (punit T f)
def pcond (f : Nat) : Nat → Res CT := pjoined T kOr 3 (pconj T f)

def wBy : List (List UInt8 × Int) := [(kLots, 12), (kHead, -2), (kFair, 7), (kAway, -1), (kWins, 4), (kGoals, 3), (kDiff, 2), (kPoints, 1)]
def wAway : List (List UInt8 × Int) := [(kWins, 6), (kGoals, 5)]
def wHead : List (List UInt8 × Int) := [(kAway, 11), (kGoals, 10), (kDiff, 9), (kPoints, 8)]
def pcrit (a : Nat) : Res Int := (pchoose T wBy a).bind fun b n => if b = -1 then pchoose T wAway n else if b = -2 then pchoose T wHead n else .ok b n
/-- Steps up to a closing brace, and it. -/
def psteps : Nat → Nat → Res SF
  | 0, a => .bad a
  | f + 1, a =>
    if isB T a kRB then .ok .nil (a + 1)
    else if isB T a kIf then
      (pcond T T.length (a + 1)).bind fun c n => (pwant T [kLB] n).bind fun _ n => (psteps f n).bind fun t n =>
        if isB T n kElse then (pwant T [kLB] (n + 1)).bind fun _ n => (psteps f n).bind fun e n => (psteps f n).map (SF.one 2 0 c t e)
        else (psteps f n).map (SF.one 2 0 c t .nil)
    else (pcrit T a).bind fun b n => (pwant T [kSemi] n).bind fun _ n => (psteps f n).map (SF.one 1 b .zero .nil .nil)
def pzone (a : Nat) : Res ZT := (pname T a).bind fun s n => (pint T n).bind fun i n =>
  if isB T n kTo then (pint T (n + 1)).bind fun j n => (pwant T [kSemi] n).map fun _ => ⟨s, i, j⟩ else (pwant T [kSemi] n).map fun _ => ⟨s, i, i⟩
def pzones : Nat → Nat → Res (List ZT)
  | 0, a => .bad a
  | f + 1, a => if isB T a kRB then .ok [] (a + 1) else (pzone T a).bind fun z n => (pzones f n).map (z :: ·)
def prules (a : Nat) : Res RT := (pwant T [kRules] a).bind fun _ n => (pname T n).bind fun s n => (pwant T [kLB, kWin] n).bind fun _ n => (pint T n).bind fun i n =>
  (pwant T [kDraw] n).bind fun _ n => (pint T n).bind fun j n => (pwant T [kLoss] n).bind fun _ n => (pint T n).bind fun k n => (pwant T [kSemi, kOrder, kLB] n).bind fun _ n =>
  (psteps T T.length n).bind fun o n => (pwant T [kZones, kLB] n).bind fun _ n => (pzones T T.length n).bind fun z n => (pwant T [kRB] n).map fun _ => ⟨s, i, j, k, o, z⟩
/-- A text that consists of one thing. -/
def pend {α : Type} (r : Res α) : Res α := r.bind fun x n => if (nx T n).kind = 5 then .ok x n else .bad n
/-- On to the next "rules". -/
def pskip : Nat → Nat → Nat
  | 0, a => a
  | f + 1, a => if (nx T a).kind = 5 ∨ isB T a kRules = true then a else pskip f (a + 1)
def pdoc : Nat → Nat → List RT × List Int
  | 0, _ => ([], [])
  | f + 1, a =>
    if (nx T a).kind = 5 then ([], [])
    else match prules T a with
      | .ok r n => (r :: (pdoc f n).1, (pdoc f n).2)
      | .bad n => ((pdoc f (pskip T T.length (max n (a + 1)))).1, (nx T n).at_ :: (pdoc f (pskip T T.length (max n (a + 1)))).2)
end
end Go.Proofs.YtlgdmbdhffdenaaGreatDoor

/- The parser of chapter 13 in plain Lean: it goes on, and stays within the tokens. -/
namespace Go.Proofs.YtlgdmbdhffdenaaGreatDoor
set_option linter.unusedVariables false
set_option linter.unusedSimpArgs false

theorem Res.bind_ok {α β : Type} {r : Res α} {f : α → Nat → Res β} {b : β} {n : Nat} (h : r.bind f = .ok b n) : ∃ a m, r = .ok a m ∧ f a m = .ok b n := by
  cases r with
  | ok a m => exact ⟨a, m, rfl, h⟩
  | bad m => cases h
theorem Res.bind_bad {α β : Type} {r : Res α} {f : α → Nat → Res β} {n : Nat} (h : r.bind f = .bad n) : r = .bad n ∨ ∃ a m, r = .ok a m ∧ f a m = .bad n := by
  cases r with
  | ok a m => exact .inr ⟨a, m, rfl, h⟩
  | bad m => cases h; exact .inl rfl
theorem Res.map_ok {α β : Type} {r : Res α} {f : α → β} {b : β} {n : Nat} (h : r.map f = .ok b n) : ∃ a, r = .ok a n ∧ f a = b := by
  cases r with
  | ok a m => cases h; exact ⟨a, rfl, rfl⟩
  | bad m => cases h
theorem Res.map_bad {α β : Type} {r : Res α} {f : α → β} {n : Nat} (h : r.map f = .bad n) : r = .bad n := by
  cases r with
  | ok a m => cases h
  | bad m => cases h; rfl

/-- A result lies between a and the number of the tokens. -/
def Res.In {α : Type} (L a : Nat) : Res α → Prop
  | .ok _ n => a < n ∧ n ≤ L
  | .bad n => a ≤ n ∧ (n ≤ L ∨ n = a)
/-- The like for what may take no token. -/
def Res.In0 {α : Type} (L a : Nat) : Res α → Prop
  | .ok _ n => a ≤ n ∧ (n ≤ L ∨ n = a)
  | .bad n => a ≤ n ∧ (n ≤ L ∨ n = a)
theorem Res.In.in0 {α : Type} {L a : Nat} {r : Res α} (h : r.In L a) : r.In0 L a := by
  cases r <;> simp only [Res.In, Res.In0] at * <;> omega
theorem Res.In.bind {α β : Type} {L a : Nat} {r : Res α} {f : α → Nat → Res β} (h : r.In L a) (hf : ∀ x n, r = .ok x n → (f x n).In0 L n) : (r.bind f).In L a := by
  cases r with
  | ok x n =>
    have h1 := hf x n rfl
    simp only [Res.bind]
    revert h1
    cases f x n <;> simp only [Res.In, Res.In0] at * <;> omega
  | bad n => exact h
theorem Res.In0.bind {α β : Type} {L a : Nat} {r : Res α} {f : α → Nat → Res β} (h : r.In0 L a) (hf : ∀ x n, r = .ok x n → (f x n).In0 L n) : (r.bind f).In0 L a := by
  cases r with
  | ok x n =>
    have h1 := hf x n rfl
    simp only [Res.bind]
    revert h1
    cases f x n <;> simp only [Res.In0] at * <;> omega
  | bad n => exact h
theorem Res.In0.bind_in {α β : Type} {L a : Nat} {r : Res α} {f : α → Nat → Res β} (h : r.In0 L a) (hf : ∀ x n, r = .ok x n → (f x n).In L n) : (r.bind f).In L a := by
  cases r with
  | ok x n =>
    have h1 := hf x n rfl
    simp only [Res.bind]
    revert h1
    cases f x n <;> simp only [Res.In0, Res.In] at * <;> omega
  | bad n => exact h
theorem Res.In.map {α β : Type} {L a : Nat} {r : Res α} {f : α → β} (h : r.In L a) : (r.map f).In L a := by
  cases r <;> exact h
theorem Res.In0.map {α β : Type} {L a : Nat} {r : Res α} {f : α → β} (h : r.In0 L a) : (r.map f).In0 L a := by
  cases r <;> exact h
theorem Res.In.from {α : Type} {L a b : Nat} {r : Res α} (h : r.In L b) (hab : a ≤ b) (hb : b ≤ L) : r.In L a := by
  cases r <;> simp only [Res.In] at * <;> omega
theorem Res.In0.from {α : Type} {L a b : Nat} {r : Res α} (h : r.In0 L b) (hab : a < b) (hb : b ≤ L) : r.In L a := by
  cases r <;> simp only [Res.In, Res.In0] at * <;> omega
theorem Res.ok_in0 {α : Type} (x : α) (L a : Nat) : (Res.ok x a).In0 L a := ⟨Nat.le_refl _, .inr rfl⟩
theorem Res.bad_in {α : Type} (L a : Nat) : (Res.bad a : Res α).In L a := ⟨Nat.le_refl _, .inr rfl⟩

section
variable (T : List Tok)
theorem nx_out {a : Nat} (h : T.length ≤ a) : nx T a = ⟨5, [], 0⟩ := by unfold nx; rw [List.getElem?_eq_none h]; rfl
theorem nx_kind {a : Nat} (h : (nx T a).kind ≠ 5) : a < T.length := by
  rcases Nat.lt_or_ge a T.length with h1 | h1
  · exact h1
  · rw [nx_out T h1] at h; exact absurd rfl h
theorem isB_lt {a : Nat} {s : List UInt8} (h : isB T a s = true) : a < T.length := by
  refine nx_kind T fun e => ?_
  unfold isB at h
  rw [e] at h
  simp at h
theorem pwant_in0 : ∀ (ws : List (List UInt8)) (a : Nat), (pwant T ws a).In0 T.length a
  | [], a => ⟨Nat.le_refl _, .inr rfl⟩
  | s :: r, a => by
    unfold pwant
    split
    · next h =>
      have h1 := isB_lt T h
      exact ((pwant_in0 r (a + 1)).from (Nat.lt_succ_self _) h1).in0
    · exact (Res.bad_in _ _).in0
theorem pwant_in {s : List UInt8} {r : List (List UInt8)} {a : Nat} : (pwant T (s :: r) a).In T.length a := by
  unfold pwant
  split
  · next h =>
    have h1 := isB_lt T h
    exact (pwant_in0 T r (a + 1)).from (Nat.lt_succ_self _) h1
  · exact Res.bad_in _ _
theorem pname_in (a : Nat) : (pname T a).In T.length a := by
  unfold pname
  split
  · next h => exact ⟨Nat.lt_succ_self _, nx_kind T (by rw [h.1]; decide)⟩
  · exact Res.bad_in _ _
theorem pint_in (a : Nat) : (pint T a).In T.length a := by
  unfold pint
  split
  · next h => exact ⟨Nat.lt_succ_self _, nx_kind T (by rw [h]; decide)⟩
  · exact Res.bad_in _ _
theorem pchoose_in (ws : List (List UInt8 × Int)) (a : Nat) : (pchoose T ws a).In T.length a := by
  unfold pchoose
  split
  · split
    · next h => exact ⟨Nat.lt_succ_self _, isB_lt T h⟩
    · exact Res.bad_in _ _
  · exact Res.bad_in _ _
theorem pcomp_in (a : Nat) : (pcomp T a).In T.length a :=
  (pchoose_in T _ a).bind fun _ n _ => ((pchoose_in T _ n).bind fun _ m _ => ((pint_in T m).in0.bind fun _ _ _ => Res.ok_in0 _ _ _)).in0
theorem pmore_in0 (kw : List UInt8) (p : Nat → Res CT) (hp : ∀ a, (p a).In T.length a) : ∀ g a, (pmore T kw p g a).In0 T.length a
  | 0, a => ⟨Nat.le_refl _, .inr rfl⟩
  | g + 1, a => by
    unfold pmore
    split
    · next h =>
      have h1 := isB_lt T h
      exact (((hp (a + 1)).bind fun c n _ => (pmore_in0 kw p hp g n).map).from (Nat.le_succ _) h1).in0
    · exact ⟨Nat.le_refl _, .inr rfl⟩
theorem pjoined_in {kw : List UInt8} {kind : Int} {p : Nat → Res CT} (hp : ∀ a, (p a).In T.length a) (a : Nat) : (pjoined T kw kind p a).In T.length a :=
  (hp a).bind fun _ n _ => (pmore_in0 T kw p hp _ n).map
theorem punit_in : ∀ f a, (punit T f a).In T.length a
  | 0, a => Res.bad_in _ _
  | f + 1, a => by
    unfold punit
    split
    · next h => exact ((punit_in f (a + 1)).map).from (Nat.le_succ _) (isB_lt T h)
    · split
      · next h => exact ((pjoined_in T (pjoined_in T (punit_in f)) (a + 1)).bind fun _ n _ => (pwant_in0 T _ n).map).from (Nat.le_succ _) (isB_lt T h)
      · exact pcomp_in T a
theorem pconj_in (f a : Nat) : (pconj T f a).In T.length a := pjoined_in T (punit_in T f) a
theorem pcond_in (f a : Nat) : (pcond T f a).In T.length a := pjoined_in T (pconj_in T f) a
theorem pcrit_in (a : Nat) : (pcrit T a).In T.length a :=
  (pchoose_in T _ a).bind fun _ n _ => by
    split
    · exact (pchoose_in T _ n).in0
    · split
      · exact (pchoose_in T _ n).in0
      · exact ⟨Nat.le_refl _, .inr rfl⟩
theorem psteps_in : ∀ f a, (psteps T f a).In T.length a
  | 0, a => Res.bad_in _ _
  | f + 1, a => by
    unfold psteps
    split
    · next h => exact ⟨Nat.lt_succ_self _, isB_lt T h⟩
    · split
      · next h =>
        exact ((pcond_in T _ (a + 1)).bind fun c n _ => (((pwant_in0 T _ n).bind fun _ n _ => ((psteps_in f n).bind fun t n _ => by
          split
          · exact (((pwant_in0 T _ (n + 1)).bind fun _ n _ => ((psteps_in f n).bind fun e n _ => (psteps_in f n).map.in0).in0).from (Nat.lt_succ_self _) (isB_lt T ‹_›)).in0
          · exact (psteps_in f n).map.in0).in0))).from (Nat.le_succ _) (isB_lt T h)
      · exact (pcrit_in T a).bind fun b n _ => (pwant_in0 T _ n).bind fun _ n _ => (psteps_in f n).map.in0
theorem pzone_in (a : Nat) : (pzone T a).In T.length a :=
  (pname_in T a).bind fun _ n _ => ((pint_in T n).bind fun i n _ => by
    split
    · exact (((pint_in T (n + 1)).bind fun _ n _ => (pwant_in0 T _ n).map).from (Nat.le_succ _) (isB_lt T ‹_›)).in0
    · exact (pwant_in0 T _ n).map).in0
theorem pzones_in : ∀ f a, (pzones T f a).In T.length a
  | 0, a => Res.bad_in _ _
  | f + 1, a => by
    unfold pzones
    split
    · next h => exact ⟨Nat.lt_succ_self _, isB_lt T h⟩
    · exact (pzone_in T a).bind fun z n _ => (pzones_in f n).map.in0
theorem prules_in (a : Nat) : (prules T a).In T.length a :=
  (pwant_in T).bind fun _ n _ => (((pname_in T n).in0).bind fun _ n _ => (pwant_in0 T _ n).bind fun _ n _ => (pint_in T n).in0.bind fun _ n _ => (pwant_in0 T _ n).bind fun _ n _ => (pint_in T n).in0.bind fun _ n _ =>
    (pwant_in0 T _ n).bind fun _ n _ => (pint_in T n).in0.bind fun _ n _ => (pwant_in0 T _ n).bind fun _ n _ => (psteps_in T _ n).in0.bind fun _ n _ => (pwant_in0 T _ n).bind fun _ n _ => (pzones_in T _ n).in0.bind fun _ n _ => (pwant_in0 T _ n).map)
end
end Go.Proofs.YtlgdmbdhffdenaaGreatDoor

/- The parser of chapter 13 in plain Lean: it stays within the tokens ahead of the ends (printed by wip/bin/genylawsn.py). -/
namespace Go.Proofs.YtlgdmbdhffdenaaGreatDoor
set_option linter.unusedVariables false
set_option linter.unusedSimpArgs false
section
variable (T : List Tok) {L : Nat} (hL : ∀ i, L ≤ i → (nx T i).kind = 5)
include hL
theorem nx_kindN {a : Nat} (h : (nx T a).kind ≠ 5) : a < L := by
  rcases Nat.lt_or_ge a L with h1 | h1
  · exact h1
  · exact absurd (hL a h1) h
theorem isB_ltN {a : Nat} {s : List UInt8} (h : isB T a s = true) : a < L := by
  refine nx_kindN T hL fun e => ?_
  unfold isB at h
  rw [e] at h
  simp at h
theorem pwant_in0N : ∀ (ws : List (List UInt8)) (a : Nat), (pwant T ws a).In0 L a
  | [], a => ⟨Nat.le_refl _, .inr rfl⟩
  | s :: r, a => by
    unfold pwant
    split
    · next h =>
      have h1 := isB_ltN T hL h
      exact ((pwant_in0N r (a + 1)).from (Nat.lt_succ_self _) h1).in0
    · exact (Res.bad_in _ _).in0
theorem pwant_inN {s : List UInt8} {r : List (List UInt8)} {a : Nat} : (pwant T (s :: r) a).In L a := by
  unfold pwant
  split
  · next h =>
    have h1 := isB_ltN T hL h
    exact (pwant_in0N T hL r (a + 1)).from (Nat.lt_succ_self _) h1
  · exact Res.bad_in _ _
theorem pname_inN (a : Nat) : (pname T a).In L a := by
  unfold pname
  split
  · next h => exact ⟨Nat.lt_succ_self _, nx_kindN T hL (by rw [h.1]; decide)⟩
  · exact Res.bad_in _ _
theorem pint_inN (a : Nat) : (pint T a).In L a := by
  unfold pint
  split
  · next h => exact ⟨Nat.lt_succ_self _, nx_kindN T hL (by rw [h]; decide)⟩
  · exact Res.bad_in _ _
theorem pchoose_inN (ws : List (List UInt8 × Int)) (a : Nat) : (pchoose T ws a).In L a := by
  unfold pchoose
  split
  · split
    · next h => exact ⟨Nat.lt_succ_self _, isB_ltN T hL h⟩
    · exact Res.bad_in _ _
  · exact Res.bad_in _ _
theorem pcomp_inN (a : Nat) : (pcomp T a).In L a :=
  (pchoose_inN T hL _ a).bind fun _ n _ => ((pchoose_inN T hL _ n).bind fun _ m _ => ((pint_inN T hL m).in0.bind fun _ _ _ => Res.ok_in0 _ _ _)).in0
theorem pmore_in0N (kw : List UInt8) (p : Nat → Res CT) (hp : ∀ a, (p a).In L a) : ∀ g a, (pmore T kw p g a).In0 L a
  | 0, a => ⟨Nat.le_refl _, .inr rfl⟩
  | g + 1, a => by
    unfold pmore
    split
    · next h =>
      have h1 := isB_ltN T hL h
      exact (((hp (a + 1)).bind fun c n _ => (pmore_in0N kw p hp g n).map).from (Nat.le_succ _) h1).in0
    · exact ⟨Nat.le_refl _, .inr rfl⟩
theorem pjoined_inN {kw : List UInt8} {kind : Int} {p : Nat → Res CT} (hp : ∀ a, (p a).In L a) (a : Nat) : (pjoined T kw kind p a).In L a :=
  (hp a).bind fun _ n _ => (pmore_in0N T hL kw p hp _ n).map
theorem punit_inN : ∀ f a, (punit T f a).In L a
  | 0, a => Res.bad_in _ _
  | f + 1, a => by
    unfold punit
    split
    · next h => exact ((punit_inN f (a + 1)).map).from (Nat.le_succ _) (isB_ltN T hL h)
    · split
      · next h => exact ((pjoined_inN T hL (pjoined_inN T hL (punit_inN f)) (a + 1)).bind fun _ n _ => (pwant_in0N T hL _ n).map).from (Nat.le_succ _) (isB_ltN T hL h)
      · exact pcomp_inN T hL a
theorem pconj_inN (f a : Nat) : (pconj T f a).In L a := pjoined_inN T hL (punit_inN T hL f) a
theorem pcond_inN (f a : Nat) : (pcond T f a).In L a := pjoined_inN T hL (pconj_inN T hL f) a
theorem pcrit_inN (a : Nat) : (pcrit T a).In L a :=
  (pchoose_inN T hL _ a).bind fun _ n _ => by
    split
    · exact (pchoose_inN T hL _ n).in0
    · split
      · exact (pchoose_inN T hL _ n).in0
      · exact ⟨Nat.le_refl _, .inr rfl⟩
theorem psteps_inN : ∀ f a, (psteps T f a).In L a
  | 0, a => Res.bad_in _ _
  | f + 1, a => by
    unfold psteps
    split
    · next h => exact ⟨Nat.lt_succ_self _, isB_ltN T hL h⟩
    · split
      · next h =>
        exact ((pcond_inN T hL _ (a + 1)).bind fun c n _ => (((pwant_in0N T hL _ n).bind fun _ n _ => ((psteps_inN f n).bind fun t n _ => by
          split
          · exact (((pwant_in0N T hL _ (n + 1)).bind fun _ n _ => ((psteps_inN f n).bind fun e n _ => (psteps_inN f n).map.in0).in0).from (Nat.lt_succ_self _) (isB_ltN T hL ‹_›)).in0
          · exact (psteps_inN f n).map.in0).in0))).from (Nat.le_succ _) (isB_ltN T hL h)
      · exact (pcrit_inN T hL a).bind fun b n _ => (pwant_in0N T hL _ n).bind fun _ n _ => (psteps_inN f n).map.in0
theorem pzone_inN (a : Nat) : (pzone T a).In L a :=
  (pname_inN T hL a).bind fun _ n _ => ((pint_inN T hL n).bind fun i n _ => by
    split
    · exact (((pint_inN T hL (n + 1)).bind fun _ n _ => (pwant_in0N T hL _ n).map).from (Nat.le_succ _) (isB_ltN T hL ‹_›)).in0
    · exact (pwant_in0N T hL _ n).map).in0
theorem pzones_inN : ∀ f a, (pzones T f a).In L a
  | 0, a => Res.bad_in _ _
  | f + 1, a => by
    unfold pzones
    split
    · next h => exact ⟨Nat.lt_succ_self _, isB_ltN T hL h⟩
    · exact (pzone_inN T hL a).bind fun z n _ => (pzones_inN f n).map.in0
theorem prules_inN (a : Nat) : (prules T a).In L a :=
  (pwant_inN T hL).bind fun _ n _ => (((pname_inN T hL n).in0).bind fun _ n _ => (pwant_in0N T hL _ n).bind fun _ n _ => (pint_inN T hL n).in0.bind fun _ n _ => (pwant_in0N T hL _ n).bind fun _ n _ => (pint_inN T hL n).in0.bind fun _ n _ =>
    (pwant_in0N T hL _ n).bind fun _ n _ => (pint_inN T hL n).in0.bind fun _ n _ => (pwant_in0N T hL _ n).bind fun _ n _ => (psteps_inN T hL _ n).in0.bind fun _ n _ => (pwant_in0N T hL _ n).bind fun _ n _ => (pzones_inN T hL _ n).in0.bind fun _ n _ => (pwant_in0N T hL _ n).map)
end
end Go.Proofs.YtlgdmbdhffdenaaGreatDoor

/- Plain laws: the parse of tokens that stand within a longer row. No program. -/
namespace Go.Proofs.YtlgdmbdhffdenaaGreatDoor
set_option linter.unusedVariables false
set_option linter.unusedSimpArgs false

/-- T' holds at d the first N tokens of T (kinds and texts); from N on T has ends alone. -/
structure Sim (T T' : List Tok) (d N : Nat) : Prop where
  len : T.length + d ≤ T'.length
  same : ∀ i, i < N → (nx T' (i + d)).kind = (nx T i).kind ∧ (nx T' (i + d)).text = (nx T i).text
  ends : ∀ i, N ≤ i → (nx T i).kind = 5
  solid : ∀ i, i < N → (nx T i).kind ≠ 5
section
variable {T T' : List Tok} {d N : Nat}
theorem isB_same {i j : Nat} (h1 : (nx T' j).kind = (nx T i).kind) (h2 : (nx T' j).text = (nx T i).text) (s : List UInt8) : isB T' j s = isB T i s := by
  unfold isB
  rw [h1, h2]
theorem Sim.isB (h : Sim T T' d N) {i : Nat} (hi : i < N) (s : List UInt8) : isB T' (i + d) s = isB T i s := isB_same (h.same i hi).1 (h.same i hi).2 s
theorem Sim.yes (h : Sim T T' d N) {i : Nat} {s : List UInt8} (hb : Proofs.YtlgdmbdhffdenaaGreatDoor.isB T i s = true) : i < N ∧ Proofs.YtlgdmbdhffdenaaGreatDoor.isB T' (i + d) s = true := by
  have hi := isB_ltN T h.ends hb
  exact ⟨hi, (h.isB hi s).trans hb⟩
theorem pwant_sim (h : Sim T T' d N) : ∀ (ws : List (List UInt8)) {a n : Nat} {u : Unit}, pwant T ws a = .ok u n → pwant T' ws (a + d) = .ok u (n + d)
  | [], a, n, u, e => by
    unfold pwant at e ⊢
    cases e
    rfl
  | s :: r, a, n, u, e => by
    unfold pwant at e ⊢
    split at e
    · next hb =>
      rw [if_pos (h.yes hb).2]
      have := pwant_sim h r e
      rwa [show a + d + 1 = a + 1 + d by omega]
    · cases e
theorem pname_sim (h : Sim T T' d N) {a n : Nat} {x : List UInt8} (e : pname T a = .ok x n) : pname T' (a + d) = .ok x (n + d) := by
  unfold pname at e ⊢
  split at e
  · next hb =>
    have hi := nx_kindN T h.ends (a := a) (by rw [hb.1]; decide)
    rw [(h.same a hi).1, (h.same a hi).2, if_pos hb]
    cases e
    rw [show a + d + 1 = a + 1 + d by omega]
  · cases e
theorem pint_sim (h : Sim T T' d N) {a n : Nat} {x : Int} (e : pint T a = .ok x n) : pint T' (a + d) = .ok x (n + d) := by
  unfold pint at e ⊢
  split at e
  · next hb =>
    have hi := nx_kindN T h.ends (a := a) (by rw [hb]; decide)
    rw [(h.same a hi).1, (h.same a hi).2, if_pos hb]
    cases e
    rw [show a + d + 1 = a + 1 + d by omega]
  · cases e
theorem pchoose_sim (h : Sim T T' d N) {ws : List (List UInt8 × Int)} {a n : Nat} {x : Int} (e : pchoose T ws a = .ok x n) : pchoose T' ws (a + d) = .ok x (n + d) := by
  unfold pchoose at e ⊢
  split at e
  · next v hv =>
    split at e
    · next hb =>
      obtain ⟨hi, hb'⟩ := h.yes hb
      rw [(h.same a hi).2, hv]
      simp only
      rw [if_pos hb']
      cases e
      rw [show a + d + 1 = a + 1 + d by omega]
    · cases e
  · cases e
theorem pcomp_sim (h : Sim T T' d N) {a n : Nat} {x : CT} (e : pcomp T a = .ok x n) : pcomp T' (a + d) = .ok x (n + d) := by
  unfold pcomp at e ⊢
  obtain ⟨v, m, e1, e⟩ := Res.bind_ok e
  obtain ⟨op, k, e2, e⟩ := Res.bind_ok e
  obtain ⟨i, j, e3, e⟩ := Res.bind_ok e
  cases e
  rw [pchoose_sim h e1]
  show (pchoose T' wOps (m + d)).bind _ = _
  rw [pchoose_sim h e2]
  show (pint T' (k + d)).bind _ = _
  rw [pint_sim h e3]
  rfl

variable {M : Nat}
/-- Up to M what joins conditions is told alike. -/
def Told (T T' : List Tok) (d M : Nat) : Prop := ∀ i, i < M → ∀ kw, kw = kAnd ∨ kw = kOr → isB T i kw = false → isB T' (i + d) kw = false
theorem Sim.told (h : Sim T T' d N) : Told T T' d N := fun i hi kw _ e => (h.isB hi kw).trans e
theorem pmore_sim (h : Sim T T' d N) (hM : Told T T' d M) {kw : List UInt8} (hk : kw = kAnd ∨ kw = kOr) {p p' : Nat → Res CT} (hin : ∀ a, (p a).In N a)
    (hp : ∀ a x n, p a = .ok x n → n < M → p' (a + d) = .ok x (n + d)) : ∀ (g g' a : Nat) {n : Nat} {x : CF}, g ≤ g' → T.length ≤ a + g → pmore T kw p g a = .ok x n → n < M → pmore T' kw p' g' (a + d) = .ok x (n + d)
  | 0, g', a, n, x, _, hl, e, hn => by
    cases e
    cases g' with
    | zero => rfl
    | succ g' =>
      unfold pmore
      have hb : isB T a kw = false := by
        cases hq : isB T a kw
        · rfl
        · have := isB_lt T hq; omega
      rw [if_neg (by rw [hM a hn kw hk hb]; decide)]
  | g + 1, 0, a, n, x, hg, _, _, _ => absurd hg (by omega)
  | g + 1, g' + 1, a, n, x, hg, hl, e, hn => by
    unfold pmore at e ⊢
    split at e
    · next hb =>
      rw [if_pos (h.yes hb).2]
      obtain ⟨c, m, e1, e2⟩ := Res.bind_ok e
      have h1 := hin (a + 1)
      rw [e1] at h1
      obtain ⟨cs, e3, rfl⟩ := Res.map_ok e2
      have h2 := pmore_in0N T h.ends kw p hin g m
      rw [e3] at h2
      have hm : m < M := by have := h2.1; omega
      rw [show a + d + 1 = a + 1 + d by omega, hp _ _ _ e1 hm]
      show (pmore T' kw p' g' (m + d)).map _ = _
      rw [pmore_sim h hM hk hin hp g g' m (by omega) (by have := h1.1; omega) e3 hn]
      rfl
    · next hb =>
      cases e
      rw [if_neg (by rw [hM a hn kw hk (by simpa using hb)]; decide)]
theorem pjoined_sim (h : Sim T T' d N) (hM : Told T T' d M) {kw : List UInt8} (hk : kw = kAnd ∨ kw = kOr) {kind : Int} {p p' : Nat → Res CT} (hin : ∀ a, (p a).In N a)
    (hp : ∀ a x n, p a = .ok x n → n < M → p' (a + d) = .ok x (n + d)) {a n : Nat} {x : CT} (e : pjoined T kw kind p a = .ok x n) (hn : n < M) : pjoined T' kw kind p' (a + d) = .ok x (n + d) := by
  unfold pjoined at e ⊢
  obtain ⟨c, m, e1, e2⟩ := Res.bind_ok e
  obtain ⟨cs, e3, rfl⟩ := Res.map_ok e2
  have h2 := pmore_in0N T h.ends kw p hin (T.length - m) m
  rw [e3] at h2
  have hl := h.len
  rw [hp _ _ _ e1 (by have := h2.1; omega)]
  show (pmore T' kw p' (T'.length - (m + d)) (m + d)).map _ = _
  rw [pmore_sim h hM hk hin hp _ _ m (by omega) (by omega) e3 hn]
  rfl
theorem punit_sim (h : Sim T T' d N) (hM : Told T T' d M) : ∀ (f f' a : Nat) {n : Nat} {x : CT}, f ≤ f' → punit T f a = .ok x n → n < M → punit T' f' (a + d) = .ok x (n + d)
  | 0, _, a, n, x, _, e, _ => by cases e
  | f + 1, 0, a, n, x, hf, _, _ => absurd hf (by omega)
  | f + 1, f' + 1, a, n, x, hf, e, hn => by
    have hp : ∀ a x n, punit T f a = .ok x n → n < M → punit T' f' (a + d) = .ok x (n + d) := fun a x n e hn => punit_sim h hM f f' a (by omega) e hn
    have hin := punit_inN T h.ends (f + 1) a
    rw [e] at hin
    have ha : a < N := by
      have h1 := hin.1
      have h2 := hin.2
      omega
    unfold punit at e ⊢
    rw [h.isB ha, h.isB ha]
    split at e
    · next hb =>
      obtain ⟨c, e1, rfl⟩ := Res.map_ok e
      rw [if_pos hb, show a + d + 1 = a + 1 + d by omega, hp _ _ _ e1 hn]
      rfl
    · next hb =>
      rw [if_neg hb]
      split at e
      · next hb2 =>
        rw [if_pos hb2]
        obtain ⟨c, m, e1, e2⟩ := Res.bind_ok e
        obtain ⟨_, e3, rfl⟩ := Res.map_ok e2
        have h3 := pwant_inN T h.ends (s := kRP) (r := []) (a := m)
        rw [e3] at h3
        have hm : m < M := by have := h3.1; omega
        rw [show a + d + 1 = a + 1 + d by omega, pjoined_sim h hM (.inr rfl) (pjoined_inN T h.ends (punit_inN T h.ends f)) (fun a x n e hn => pjoined_sim h hM (.inl rfl) (punit_inN T h.ends f) hp e hn) e1 hm]
        show (pwant T' [kRP] (m + d)).map _ = _
        rw [pwant_sim h _ e3]
        rfl
      · next hb2 =>
        rw [if_neg hb2]
        exact pcomp_sim h e
theorem pconj_sim (h : Sim T T' d N) (hM : Told T T' d M) {f f' a n : Nat} {x : CT} (hf : f ≤ f') (e : pconj T f a = .ok x n) (hn : n < M) : pconj T' f' (a + d) = .ok x (n + d) :=
  pjoined_sim h hM (.inl rfl) (punit_inN T h.ends f) (fun a _ _ e hn => punit_sim h hM f f' a hf e hn) e hn
theorem pcond_sim (h : Sim T T' d N) (hM : Told T T' d M) {f f' a n : Nat} {x : CT} (hf : f ≤ f') (e : pcond T f a = .ok x n) (hn : n < M) : pcond T' f' (a + d) = .ok x (n + d) :=
  pjoined_sim h hM (.inr rfl) (pconj_inN T h.ends f) (fun _ _ _ e hn => pconj_sim h hM hf e hn) e hn
theorem pcrit_sim (h : Sim T T' d N) {a n : Nat} {x : Int} (e : pcrit T a = .ok x n) : pcrit T' (a + d) = .ok x (n + d) := by
  unfold pcrit at e ⊢
  obtain ⟨b, m, e1, e⟩ := Res.bind_ok e
  rw [pchoose_sim h e1]
  simp only [Res.bind]
  split at e
  · next h1 => rw [if_pos h1]; exact pchoose_sim h e
  · next h1 =>
    rw [if_neg h1]
    split at e
    · next h2 => rw [if_pos h2]; exact pchoose_sim h e
    · next h2 =>
      rw [if_neg h2]
      cases e
      rfl
theorem psteps_sim (h : Sim T T' d N) : ∀ (f f' a : Nat) {n : Nat} {x : SF}, f ≤ f' → psteps T f a = .ok x n → psteps T' f' (a + d) = .ok x (n + d)
  | 0, _, a, n, x, _, e => by cases e
  | f + 1, 0, a, n, x, hf, _ => absurd hf (by omega)
  | f + 1, f' + 1, a, n, x, hf, e => by
    have ih : ∀ {a n : Nat} {x : SF}, psteps T f a = .ok x n → psteps T' f' (a + d) = .ok x (n + d) := fun {a n x} e => psteps_sim h f f' a (by omega) e
    have hlt : ∀ {f a n : Nat} {x : SF}, psteps T f a = .ok x n → a < N := fun {f a n x} e => by
      have hin := psteps_inN T h.ends f a
      rw [e] at hin
      have h1 := hin.1
      have h2 := hin.2
      omega
    have ha := hlt e
    have hl := h.len
    unfold psteps at e ⊢
    rw [h.isB ha, h.isB ha]
    split at e
    · next hb =>
      rw [if_pos hb]
      cases e
      rw [show a + d + 1 = a + 1 + d by omega]
    · next hb =>
      rw [if_neg hb]
      split at e
      · next hb2 =>
        rw [if_pos hb2]
        obtain ⟨c, m, e1, e⟩ := Res.bind_ok e
        obtain ⟨_, m2, e2, e⟩ := Res.bind_ok e
        obtain ⟨t, m3, e3, e⟩ := Res.bind_ok e
        have h3 := pwant_inN T h.ends (s := kLB) (r := []) (a := m)
        rw [e2] at h3
        have hm : m < N := by have := h3.1; have := h3.2; omega
        rw [show a + d + 1 = a + 1 + d by omega, pcond_sim h h.told (show T.length ≤ T'.length by omega) e1 hm]
        show (pwant T' [kLB] (m + d)).bind _ = _
        rw [pwant_sim h _ e2]
        show (psteps T' f' (m2 + d)).bind _ = _
        rw [ih e3]
        simp only [Res.bind]
        have hm3 : m3 < N := by
          split at e
          · next hb3 => exact (h.yes hb3).1
          · next hb3 =>
            obtain ⟨r, e4, rfl⟩ := Res.map_ok e
            exact hlt e4
        rw [h.isB hm3]
        split at e
        · next hb3 =>
          rw [if_pos hb3]
          obtain ⟨_, m4, e4, e⟩ := Res.bind_ok e
          obtain ⟨el, m5, e5, e⟩ := Res.bind_ok e
          obtain ⟨r, e6, rfl⟩ := Res.map_ok e
          rw [show m3 + d + 1 = m3 + 1 + d by omega, pwant_sim h _ e4]
          simp only
          rw [ih e5]
          simp only
          rw [ih e6]
          rfl
        · next hb3 =>
          rw [if_neg hb3]
          obtain ⟨r, e6, rfl⟩ := Res.map_ok e
          rw [ih e6]
          rfl
      · next hb2 =>
        rw [if_neg hb2]
        obtain ⟨b, m, e1, e⟩ := Res.bind_ok e
        obtain ⟨_, m2, e2, e⟩ := Res.bind_ok e
        obtain ⟨r, e3, rfl⟩ := Res.map_ok e
        rw [pcrit_sim h e1]
        simp only [Res.bind]
        rw [pwant_sim h _ e2]
        simp only
        rw [ih e3]
        rfl
theorem pzone_sim (h : Sim T T' d N) {a n : Nat} {x : ZT} (e : pzone T a = .ok x n) : pzone T' (a + d) = .ok x (n + d) := by
  unfold pzone at e ⊢
  obtain ⟨s, m, e1, e⟩ := Res.bind_ok e
  obtain ⟨i, m2, e2, e⟩ := Res.bind_ok e
  rw [pname_sim h e1]
  simp only [Res.bind]
  rw [pint_sim h e2]
  simp only
  have hm2 : m2 < N := by
    split at e
    · next hb => exact (h.yes hb).1
    · obtain ⟨_, e3, _⟩ := Res.map_ok e
      have h3 := pwant_inN T h.ends (s := kSemi) (r := []) (a := m2)
      rw [e3] at h3
      have h4 := h3.1
      have h5 := h3.2
      omega
  rw [h.isB hm2]
  split at e
  · next hb =>
    rw [if_pos hb]
    obtain ⟨j, m3, e3, e⟩ := Res.bind_ok e
    obtain ⟨_, e4, rfl⟩ := Res.map_ok e
    rw [show m2 + d + 1 = m2 + 1 + d by omega, pint_sim h e3]
    simp only
    rw [pwant_sim h _ e4]
    rfl
  · next hb =>
    rw [if_neg hb]
    obtain ⟨_, e4, rfl⟩ := Res.map_ok e
    rw [pwant_sim h _ e4]
    rfl
theorem pzones_sim (h : Sim T T' d N) : ∀ (f f' a : Nat) {n : Nat} {x : List ZT}, f ≤ f' → pzones T f a = .ok x n → pzones T' f' (a + d) = .ok x (n + d)
  | 0, _, a, n, x, _, e => by cases e
  | f + 1, 0, a, n, x, hf, _ => absurd hf (by omega)
  | f + 1, f' + 1, a, n, x, hf, e => by
    have hin := pzones_inN T h.ends (f + 1) a
    rw [e] at hin
    have ha : a < N := by
      have h1 := hin.1
      have h2 := hin.2
      omega
    unfold pzones at e ⊢
    rw [h.isB ha]
    split at e
    · next hb =>
      rw [if_pos hb]
      cases e
      rw [show a + d + 1 = a + 1 + d by omega]
    · next hb =>
      rw [if_neg hb]
      obtain ⟨z, m, e1, e⟩ := Res.bind_ok e
      obtain ⟨r, e2, rfl⟩ := Res.map_ok e
      rw [pzone_sim h e1]
      simp only [Res.bind]
      rw [pzones_sim h f f' m (by omega) e2]
      rfl
theorem prules_sim (h : Sim T T' d N) {a n : Nat} {x : RT} (e : prules T a = .ok x n) : prules T' (a + d) = .ok x (n + d) := by
  have hl := h.len
  have hl' : T.length ≤ T'.length := by omega
  unfold prules at e ⊢
  obtain ⟨_, m1, e1, e⟩ := Res.bind_ok e
  obtain ⟨_, m2, e2, e⟩ := Res.bind_ok e
  obtain ⟨_, m3, e3, e⟩ := Res.bind_ok e
  obtain ⟨_, m4, e4, e⟩ := Res.bind_ok e
  obtain ⟨_, m5, e5, e⟩ := Res.bind_ok e
  obtain ⟨_, m6, e6, e⟩ := Res.bind_ok e
  obtain ⟨_, m7, e7, e⟩ := Res.bind_ok e
  obtain ⟨_, m8, e8, e⟩ := Res.bind_ok e
  obtain ⟨_, m9, e9, e⟩ := Res.bind_ok e
  obtain ⟨_, m10, e10, e⟩ := Res.bind_ok e
  obtain ⟨_, m11, e11, e⟩ := Res.bind_ok e
  obtain ⟨_, m12, e12, e⟩ := Res.bind_ok e
  obtain ⟨_, e13, rfl⟩ := Res.map_ok e
  rw [pwant_sim h _ e1]; simp only [Res.bind]
  rw [pname_sim h e2]; simp only
  rw [pwant_sim h _ e3]; simp only
  rw [pint_sim h e4]; simp only
  rw [pwant_sim h _ e5]; simp only
  rw [pint_sim h e6]; simp only
  rw [pwant_sim h _ e7]; simp only
  rw [pint_sim h e8]; simp only
  rw [pwant_sim h _ e9]; simp only
  rw [psteps_sim h _ _ _ hl' e10]; simp only
  rw [pwant_sim h _ e11]; simp only
  rw [pzones_sim h _ _ _ hl' e12]; simp only
  rw [pwant_sim h _ e13]; rfl
theorem pdoc_succ (T : List Tok) (f a : Nat) : pdoc T (f + 1) a = if (nx T a).kind = 5 then ([], [])
    else match prules T a with
      | .ok r n => (r :: (pdoc T f n).1, (pdoc T f n).2)
      | .bad n => ((pdoc T f (pskip T T.length (max n (a + 1)))).1, (nx T n).at_ :: (pdoc T f (pskip T T.length (max n (a + 1)))).2) := rfl
/-- Documents without problems. -/
theorem pdoc_sim (h : Sim T T' d N) (hN : N ≤ T.length) : ∀ (f a : Nat) (l : List RT), a ≤ N → T.length ≤ a + f → pdoc T f a = (l, []) → ∀ f', T'.length ≤ a + d + f' →
    ∃ f'', T'.length ≤ N + d + f'' ∧ pdoc T' f' (a + d) = (l ++ (pdoc T' f'' (N + d)).1, (pdoc T' f'' (N + d)).2)
  | 0, a, l, ha, hf, e, f', hf' => by
    cases e
    have : a = N := by omega
    subst this
    exact ⟨f', hf', rfl⟩
  | f + 1, a, l, ha, hf, e, f', hf' => by
    unfold pdoc at e
    split at e
    · next hk =>
      cases e
      have : a = N := by
        rcases Nat.lt_or_ge a N with h1 | h1
        · exact absurd hk (h.solid a h1)
        · omega
      subst this
      exact ⟨f', hf', rfl⟩
    · next hk =>
      have hlt := nx_kindN T h.ends hk
      cases hr : prules T a with
      | ok r n =>
        rw [hr] at e
        simp only [Prod.mk.injEq] at e
        have hin := prules_inN T h.ends a
        rw [hr] at hin
        have h1 := hin.1
        have h2 := hin.2
        have hl := h.len
        obtain ⟨f', rfl⟩ : ∃ q, f' = q + 1 := ⟨f' - 1, by omega⟩
        obtain ⟨f'', g1, g2⟩ := pdoc_sim h hN f n (pdoc T f n).1 h2 (by omega) (by rw [← e.2]) f' (by omega)
        refine ⟨f'', g1, ?_⟩
        rw [pdoc_succ, if_neg (by rw [(h.same a hlt).1]; exact hk), prules_sim h hr]
        simp only
        rw [g2, ← e.1]
        rfl
      | bad n =>
        rw [hr] at e
        simp at e
end
end Go.Proofs.YtlgdmbdhffdenaaGreatDoor
