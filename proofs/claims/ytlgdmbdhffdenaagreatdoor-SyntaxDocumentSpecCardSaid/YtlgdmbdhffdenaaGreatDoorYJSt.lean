/- A row of conditions that is being made, beside a struct's box. -/
import Derived.Test.YtlgdmbdhffdenaaGreatDoorYLeast
import Derived.Test.YtlgdmbdhffdenaaGreatDoorPD
import Derived.Test.YtlgdmbdhffdenaaGreatDoorPE
namespace Go.Proofs.YtlgdmbdhffdenaaGreatDoor
set_option linter.unusedVariables false
set_option linter.unusedSimpArgs false
open Go.RowKit

theorem elemCond : Elem Tryz.prog 33 35 4 48 := Elem.mk' Tryz.underlying33 (z := .agg #[.int .i64 0, .int .i64 0, .int .i64 0, .slice none 0 0]) (by kernel_rfl) rfl (by omega)
/-- One thing, or the things of a kind. -/
def joinAll (kind : Int) : CF → CT
  | .nil => .zero
  | .cons k v n ps r => match r with | .nil => ⟨k, v, n, ps⟩ | .cons .. => ⟨kind, 0, 0, .cons k v n ps r⟩
theorem joinAll_join (kind : Int) (c : CT) (cs : CF) : join_ kind c cs = joinAll kind ((CF.one c .nil).app cs) := by
  cases cs <;> rfl
theorem CF.one_app (c : CT) (x : CF) : (CF.one c .nil).app x = .one c x := rfl
/-- A block of one's own, as a row. -/
theorem own_of_blk {w : World} {b : Nat} {t : TypeId} {xs : List Value} {base size m : Nat} (h : Blk w b t xs.toArray) (hl : xs.length = m * size) (hb : base ≤ b) (hm : m ≤ 1000000) : w.ownsRow base t size (.slice (some ⟨b, 0, none⟩) m m) m xs :=
  ⟨hl, .inr ⟨b, m, xs.toArray, rfl, hb, h, Nat.le_refl _, by unfold maxLen; omega, by simpa using hl, by rw [← hl]; simp⟩⟩
theorem RepF.one {S : Nat → Prop} {w : World} {c : CT} {A : Option Addr} {m cc : Nat} (h : RepH S w c.ps A m cc) : RepF S w (.one c .nil) [vi c.k, vi c.v, vi c.n, .slice A m cc] := RepF.cons h rfl

/-- The state of a row that is being made, in a call that began in w0 with a struct's box. -/
structure JSt (w0 wr : World) (B g : Nat) (A : Option Addr) (n c : Nat) (T : List Tok) (b : Nat) (F : CF) (A' : Option Addr) (c' : Nat) : Prop where
  st : PSt wr B g A n c T b
  only : Only (· = g) w0 wr
  glt : g < w0.heap.size
  box : Blk wr w0.heap.size 35 #[.int .i64 0, .int .i64 0, .int .i64 0, .slice none 0 0]
  row : ∃ xs, wr.ownsRow (w0.heap.size + 1) 35 4 (.slice A' F.len c') F.len xs ∧ RepF (fun k => k ≤ w0.heap.size ∨ (Value.slice A' F.len c').ownBlock = some k) wr F xs
section
variable {w0 wr W w1 : World} {B g n c b b' c' : Nat} {A A' : Option Addr} {T : List Tok} {F : CF}
theorem JSt.go (h : JSt w0 wr B g A n c T b F A' c') (hp : PSt W B g A n c T b') (ho : Only (· = g) wr W) : JSt w0 W B g A n c T b' F A' c' := by
  obtain ⟨xs, h1, h2⟩ := h.row
  refine ⟨hp, h.only.trans ho, h.glt, h.box.only ho (by have := h.glt; omega), xs, own_only h1 ho (fun k hk => ?_), h2.only ho (fun k hk => .inl (by have := h.glt; omega))⟩
  have := (h1.lt k hk).1
  have := h.glt
  omega
theorem JSt.below (h : JSt w0 wr B g A n c T b F A' c') (hb : Below wr.heap.size wr W) : JSt w0 W B g A n c T b F A' c' := h.go (h.st.below hb) (Only.of_below hb)
theorem JSt.push (h : JSt w0 W B g A n c T b F A' c') {xs news : List Value} {c2 : CT} {A2 : Option Addr} {m cc : Nat} (hm : m = F.len + 1) (h2 : RepF (fun k => k ≤ w0.heap.size ∨ (Value.slice A' F.len c').ownBlock = some k) W F xs)
    (hn : RepF (fun k => k ≤ w0.heap.size ∨ (Value.slice A' F.len c').ownBlock = some k) W (.one c2 .nil) news) (hl : ∀ k, (Value.slice A' F.len c').ownBlock = some k → w0.heap.size + 1 ≤ k)
    (hg : W.grownBy w1 (Value.slice A' F.len c').ownBlock) (hown : w1.ownsRow (w0.heap.size + 1) 35 4 (.slice A2 m cc) m (xs ++ news))
    (hap : ∀ k, (Value.slice A2 m cc).ownBlock = some k → (Value.slice A' F.len c').ownBlock = some k ∨ W.heap.size ≤ k) : JSt w0 w1 B g A n c T b (F.app (.one c2 .nil)) A2 cc := by
  have ho : Only (fun k => (Value.slice A' F.len c').ownBlock = some k) W w1 := Only.of_grown hg (fun k hk => hk)
  have hlen : (F.app (.one c2 .nil)).len = m := by rw [CF.len_app, hm]; rfl
  have hsz := h.only.size
  refine ⟨h.st.only ho (fun e => by have := hl _ e; have := h.glt; omega) (fun k hk => by have := hl k hk; have := h.glt; have := h.st.lb; omega), h.only.new ho (fun k hk => by have := hl k hk; omega), h.glt,
    h.box.only ho (fun e => by have := hl _ e; omega), xs ++ news, by rw [hlen]; exact hown, ?_⟩
  rw [hlen]
  have hrep := RepF.app h2 hn
  have hr2 := (hrep.new).only ho (fun k hk => .inl (.inr hk))
  refine hr2.sub fun k hk => ?_
  rcases hk with hk | hk
  · exact .inl (.inl hk)
  · rcases hap k hk with e | e
    · exact .inl (.inr e)
    · exact .inr e
end
end Go.Proofs.YtlgdmbdhffdenaaGreatDoor
