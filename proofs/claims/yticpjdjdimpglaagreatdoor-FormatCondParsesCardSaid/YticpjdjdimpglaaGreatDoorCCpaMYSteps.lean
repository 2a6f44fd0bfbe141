/- The parser's steps by their contract. -/
import Derived.Test.YticpjdjdimpglaaGreatDoorCCpaMYZones
import Derived.Test.YticpjdjdimpglaaGreatDoorCCpaMYCrit
namespace Go.Proofs.YticpjdjdimpglaaGreatDoor
set_option linter.unusedVariables false
set_option linter.unusedSimpArgs false
open Go.RowKit
/-- What steps hand back: a row of their own. -/
def SV (w : World) (F : SF) (w' : World) (v : Value) : Prop := ∃ A m c, v = .slice A m c ∧ RepT (fun k => k < w.heap.size) w' F A m c
theorem RepS.cons {S : Nat → Prop} {w : World} {k b ck cv cn : Int} {cps : CF} {th el r : SF} {A A1 A2 : Option Addr} {m c m1 c1 m2 c2 : Nat} {zs : List Value} (h : RepH S w cps A m c) (h1 : RepT S w th A1 m1 c1) (h2 : RepT S w el A2 m2 c2) (hr : RepS S w r zs) :
    RepS S w (.cons k b ck cv cn cps th el r) (vi k :: vi b :: vi ck :: vi cv :: vi cn :: .slice A m c :: .slice A1 m1 c1 :: .slice A2 m2 c2 :: zs) := ⟨A, m, c, A1, m1, c1, A2, m2, c2, zs, rfl, h, h1, h2, hr⟩
/-- The row of steps that is being made. -/
structure YSSt (w0 wr : World) (B g : Nat) (A : Option Addr) (n c : Nat) (T : List Tok) (b : Nat) (F : SF) (A' : Option Addr) (c' : Nat) : Prop where
  st : PSt wr B g A n c T b
  only : Only (· = g) w0 wr
  glt : g < w0.heap.size
  row : ∃ xs, wr.ownsRow w0.heap.size 56 8 (.slice A' F.len c') F.len xs ∧ RepS (fun k => k < w0.heap.size ∨ (Value.slice A' F.len c').ownBlock = some k) wr F xs
section
variable {w0 wr W w1 : World} {B g n c b b' c' : Nat} {A A' : Option Addr} {T : List Tok} {F : SF}
theorem YSSt.own (h : YSSt w0 wr B g A n c T b F A' c') : ∀ k, (Value.slice A' F.len c').ownBlock = some k → w0.heap.size ≤ k ∧ k < wr.heap.size := by
  obtain ⟨xs, h1, _⟩ := h.row
  exact fun k hk => h1.lt k hk
theorem YSSt.go (h : YSSt w0 wr B g A n c T b F A' c') (hp : PSt W B g A n c T b') (ho : Only (· = g) wr W) : YSSt w0 W B g A n c T b' F A' c' := by
  obtain ⟨xs, h1, h2⟩ := h.row
  refine ⟨hp, h.only.trans ho, h.glt, xs, own_only h1 ho (fun k hk => by have := (h1.lt k hk).1; have := h.glt; omega), h2.only ho (fun k hk => .inl (by have := h.glt; omega))⟩
theorem YSSt.below (h : YSSt w0 wr B g A n c T b F A' c') (hb : Below wr.heap.size wr W) : YSSt w0 W B g A n c T b F A' c' := h.go (h.st.below hb) (Only.of_below hb)
/-- A step's box, made behind the row, is written. -/
theorem YSSt.box (h : YSSt w0 wr B g A n c T b F A' c') {zb : Nat} (hn : ∃ wz, YSSt w0 wz B g A n c T b' F A' c' ∧ zb = wz.heap.size ∧ Only (fun k => k = g ∨ zb ≤ k) wz wr) (ho : Only (· = zb) wr W) : YSSt w0 W B g A n c T b F A' c' := by
  obtain ⟨wz, hz, rfl, hoz⟩ := hn
  obtain ⟨xs, h1, h2⟩ := hz.row
  have hgl := h.glt
  have hsz := hz.only.size
  have ho2 : Only (fun k => k = g ∨ wz.heap.size ≤ k) wz W := hoz.trans ⟨ho.os, ho.tape, ho.output, ho.size, fun k hk hn => ho.block k hk (fun e => hn (.inr (by rw [e]; exact Nat.le_refl _)))⟩
  refine ⟨h.st.only ho (by omega) (fun k hk => by have := h.st.lb; omega), h.only.new ho (fun k hk => by omega), hgl, xs, own_only h1 ho2 (fun k hk hS => ?_), ?_⟩
  · have := h1.lt k hk
    rcases hS with e | e <;> omega
  · refine ((h2.new).only ho2 (fun k hk => ?_)).sub (fun k hk => .inl hk)
    rcases hk with e | e
    · exact .inl (.inl (by omega))
    · exact .inr e
theorem YSSt.push (h : YSSt w0 W B g A n c T b F A' c') {xs news : List Value} {k2 b2 ck cv cn : Int} {cps : CF} {th el : SF} {A2 : Option Addr} {m cc : Nat} (hm : m = F.len + 1) (h2 : RepS (fun k => k < w0.heap.size ∨ (Value.slice A' F.len c').ownBlock = some k) W F xs)
    (hn : RepS (fun k => k < w0.heap.size ∨ (Value.slice A' F.len c').ownBlock = some k) W (.cons k2 b2 ck cv cn cps th el .nil) news)
    (hg : W.grownBy w1 (Value.slice A' F.len c').ownBlock) (hown : w1.ownsRow w0.heap.size 56 8 (.slice A2 m cc) m (xs ++ news))
    (hap : ∀ k, (Value.slice A2 m cc).ownBlock = some k → (Value.slice A' F.len c').ownBlock = some k ∨ W.heap.size ≤ k) : YSSt w0 w1 B g A n c T b (F.app (.cons k2 b2 ck cv cn cps th el .nil)) A2 cc := by
  have ho : Only (fun k => (Value.slice A' F.len c').ownBlock = some k) W w1 := Only.of_grown hg (fun k hk => hk)
  have hlen : (F.app (.cons k2 b2 ck cv cn cps th el .nil)).len = m := by rw [SF.len_app, hm]; rfl
  have hl := fun k hk => (h.own k hk).1
  have hgl := h.glt
  refine ⟨h.st.only ho (fun e => by have := hl _ e; omega) (fun k hk => by have := hl k hk; have := h.st.lb; omega), h.only.new ho (fun k hk => hl k hk), hgl, xs ++ news, by rw [hlen]; exact hown, ?_⟩
  rw [hlen]
  have hr2 := ((RepS.app h2 hn).new).only ho (fun k hk => .inl (.inr hk))
  refine hr2.sub fun k hk => ?_
  rcases hk with hk | hk
  · exact .inl (.inl hk)
  · rcases hap k hk with e | e
    · exact .inl (.inr e)
    · exact .inr e
theorem YSSt.sv (h : YSSt w0 wr B g A n c T b F A' c') : SV w0 F wr (.slice A' F.len c') := by
  obtain ⟨xs, h1, h2⟩ := h.row
  exact ⟨_, _, _, rfl, xs, own_rd h1, fun _ p hp hS => by subst hp; have := (h1.lt p.block rfl).1; omega, h2.sub fun k hk => .inl hk⟩
end
end Go.Proofs.YticpjdjdimpglaaGreatDoor
