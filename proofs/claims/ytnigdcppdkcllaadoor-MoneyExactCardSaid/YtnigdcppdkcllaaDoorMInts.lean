/- Slices of numbers: words of my own. No program. -/
import Derived.Test.YtnigdcppdkcllaaDoorWords
import Derived.Test.YtnigdcppdkcllaaDoorMPlain
namespace Go.Proofs.YtnigdcppdkcllaaDoor
set_option linter.unusedVariables false
set_option linter.unusedSimpArgs false
open Go.RowKit

/-- A number as a value. -/
def vi (x : Int) : Value := .int .i64 x
/-- All numbers are of 64 bits. -/
def okI (l : List Int) : Prop := ∀ i, -9223372036854775808 ≤ gi l i ∧ gi l i ≤ 9223372036854775807
section
variable {w w' : World} {B n c : Nat} {A : Option Addr} {l : List Int}
theorem Rd.int {k : Nat} (h : Rd w B 1 A n c (l.map vi)) (hk : k < n) : ∃ b off, A = some ⟨b, off, none⟩ ∧ b < B ∧ w.cell? ⟨b, off + k, none⟩ = some (.int .i64 (gi l k)) := by
  obtain ⟨b, off, u, e, hb, hu, hc⟩ := h.one hk
  refine ⟨b, off, e, hb, ?_⟩
  have hl : k < l.length := by have := h.len; simp at this; omega
  rw [hc]
  simp [hl, vi] at hu
  rw [← hu, gi_get l k hl]
theorem Rd.ilen (h : Rd w B 1 A n c (l.map vi)) : l.length = n := by have := h.len; simpa using this
/-- A slice of numbers, cell by cell. -/
theorem Rd.of_cells {b off : Nat} (hl : l.length = n) (hc : n ≤ c) (hbig : c ≤ 9223372036854775807) (hb : b < B) (h : ∀ j, j < n → w.cell? ⟨b, off + j, none⟩ = some (.int .i64 (gi l j))) : Rd w B 1 (some ⟨b, off, none⟩) n c (l.map vi) :=
  ⟨by simp [hl], hc, hbig, fun _ => ⟨b, off, rfl, hb, fun j u hu => by
    have hj : j < l.length := by
      rcases Nat.lt_or_ge j l.length with h1 | h1
      · exact h1
      · rw [List.getElem?_eq_none (by simpa using h1)] at hu; cases hu
    rw [h j (by omega)]
    simp [hj, vi] at hu
    rw [gi_get l j hj, ← hu]⟩⟩
theorem Rd.unique {l' : List Int} (h : Rd w B 1 A n c (l.map vi)) (h' : Rd w B 1 A n c (l'.map vi)) : l = l' := by
  refine gi_ext (by rw [h.ilen, h'.ilen]) (fun i hi => ?_)
  have hn := h.ilen
  obtain ⟨b, off, e, _, h1⟩ := h.int (k := i) (by omega)
  obtain ⟨b', off', e', _, h2⟩ := h'.int (k := i) (by omega)
  rw [e] at e'
  injection e' with e'
  injection e' with e1 e2
  subst e1 e2
  rw [h1] at h2
  simpa using h2
end
theorem ret_ii {a b c d : Int} (h : a = c) (h' : b = d) : Ending.returned (.tuple #[.int .i64 a, .int .i64 b]) = .returned (.tuple #[.int .i64 c, .int .i64 d]) := by rw [h, h']
theorem ret_si {a c : ByteArray} {b d : Int} (h : a = c) (h' : b = d) : Ending.returned (.tuple #[.string a, .int .i64 b]) = .returned (.tuple #[.string c, .int .i64 d]) := by rw [h, h']
theorem bdrew {B : Nat} (w : World) : ∀ n, Below B w (w.drewN n)
  | 0 => Below.refl _ w
  | n + 1 => (bdrew w n).drew
end Go.Proofs.YtnigdcppdkcllaaDoor
