/- Words of my own for memory: a slice that reads as a list of cells; bytes as values; small lemmas. No program. -/
import Derived.WalkKit
import Derived.WalkSpells
import Derived.WalkLawsBesides
import Derived.Lib.Hide
import Derived.Lib.Strings
import Derived.Handy
namespace Go.Proofs.YtnigdcppdkcllaaDoor
set_option linter.unusedVariables false
set_option linter.unusedSimpArgs false
open Go.RowKit

/-- A byte as a value. -/
def vb (b : UInt8) : Value := .int .u8 (b.toNat : Int)

/-- The slice value '.slice A n c' holds the cells xs ('size' cells an element), in a block below B. -/
structure Rd (w : World) (B size : Nat) (A : Option Addr) (n c : Nat) (xs : List Value) : Prop where
  len : xs.length = n * size
  cap : n ≤ c
  big : c ≤ 9223372036854775807
  cells : 0 < n → ∃ b off, A = some ⟨b, off, none⟩ ∧ b < B ∧ ∀ j u, xs[j]? = some u → w.cell? ⟨b, off + j, none⟩ = some u

section
variable {w w' : World} {B B' size n c : Nat} {A : Option Addr} {xs : List Value}

theorem Rd.keep (h : Rd w B size A n c xs) (hk : ∀ p : Addr, p.block < B → w'.cell? p = w.cell? p) : Rd w' B size A n c xs :=
  ⟨h.len, h.cap, h.big, fun hn => by
    obtain ⟨b, off, e, hb, hc⟩ := h.cells hn
    exact ⟨b, off, e, hb, fun j u hu => (hk _ hb).trans (hc j u hu)⟩⟩
theorem Rd.more (h : Rd w B size A n c xs) (hB : B ≤ B') : Rd w B' size A n c xs :=
  ⟨h.len, h.cap, h.big, fun hn => by
    obtain ⟨b, off, e, hb, hc⟩ := h.cells hn
    exact ⟨b, off, e, by omega, hc⟩⟩
theorem Rd.below (h : Rd w B size A n c xs) (hb : Below B w w') : Rd w' B size A n c xs := h.keep fun _ hp => hb.cell hp
theorem Rd.nil : Rd w B size none 0 0 [] := ⟨by simp, by omega, by omega, fun h => absurd h (by omega)⟩

/-- Element k of a slice of one-cell elements. -/
theorem Rd.one {k : Nat} (h : Rd w B 1 A n c xs) (hk : k < n) : ∃ b off u, A = some ⟨b, off, none⟩ ∧ b < B ∧ xs[k]? = some u ∧ w.cell? ⟨b, off + k, none⟩ = some u := by
  obtain ⟨b, off, e, hb, hc⟩ := h.cells (by omega)
  have hl : k < xs.length := by have := h.len; omega
  exact ⟨b, off, xs[k], e, hb, List.getElem?_eq_getElem hl, hc k _ (List.getElem?_eq_getElem hl)⟩

/-- Byte k of a list of bytes, as a number (a plain definition: the walk leaves it as it stands). -/
def bt (l : List UInt8) (k : Nat) : Nat := (l.getD k 0).toNat
theorem bt_lt (l : List UInt8) (k : Nat) : bt l k < 256 := UInt8.toNat_lt _
theorem bt_get (l : List UInt8) (k : Nat) (h : k < l.length) : bt l k = l[k].toNat := by simp [bt, h]
theorem bt_cons_zero (a : UInt8) (l : List UInt8) : bt (a :: l) 0 = a.toNat := rfl
theorem bt_cons_succ (a : UInt8) (l : List UInt8) (k : Nat) : bt (a :: l) (k + 1) = bt l k := by simp [bt]
theorem bt_drop (l : List UInt8) (i k : Nat) : bt (l.drop i) k = bt l (i + k) := by simp [bt]
theorem bt_out (l : List UInt8) (k : Nat) (h : l.length ≤ k) : bt l k = 0 := by simp [bt, h]
theorem take_bt (l : List UInt8) (k : Nat) (h : k < l.length) : l.take (k + 1) = l.take k ++ [UInt8.ofNat (bt l k)] := by
  rw [List.take_succ_eq_append_getElem h, bt_get l k h]
  simp

/-- Byte k of a slice. -/
theorem Rd.byte {l : List UInt8} {k : Nat} (h : Rd w B 1 A n c (l.map vb)) (hk : k < n) : ∃ b off, A = some ⟨b, off, none⟩ ∧ b < B ∧ w.cell? ⟨b, off + k, none⟩ = some (.int .u8 (bt l k : Int)) := by
  obtain ⟨b, off, u, e, hb, hu, hc⟩ := h.one hk
  refine ⟨b, off, e, hb, ?_⟩
  have hl : k < l.length := by have := h.len; simp at this; omega
  rw [hc]
  simp [hl, vb] at hu
  simp [bt, hl, ← hu]
theorem Rd.blen {l : List UInt8} (h : Rd w B 1 A n c (l.map vb)) : l.length = n := by have := h.len; simpa using this
end

/-- A block that is known whole, none of it frozen. -/
def Blk (w : World) (g : Nat) (t : TypeId) (cs : Array Value) : Prop := w.heap[g]? = some (.cells cs t (0, 0))

section
variable {w w' : World} {g : Nat} {t : TypeId} {cs : Array Value}
theorem Blk.lt (h : Blk w g t cs) : g < w.heap.size := by
  rcases Nat.lt_or_ge g w.heap.size with hlt | hge
  · exact hlt
  · unfold Blk at h; rw [Array.getElem?_eq_none hge] at h; cases h
theorem Blk.cell (h : Blk w g t cs) (i : Nat) : w.cell? ⟨g, i, none⟩ = cs[i]? := cell_of_row w g i cs t (0, 0) h
theorem Blk.frozen (h : Blk w g t cs) (i : Nat) : w.frozen? ⟨g, i, none⟩ = false := by
  unfold Blk at h
  simp [World.frozen?, h]
theorem Blk.new (w : World) (t : TypeId) (cs : Array Value) : Blk (w.alloc (.cells cs t)) w.heap.size t cs := heap_alloc_new w _
theorem Blk.drewN (h : Blk w g t cs) (n : Nat) : Blk (w.drewN n) g t cs := h
theorem Blk.alloc (h : Blk w g t cs) (o : Obj) : Blk (w.alloc o) g t cs := (Below.heap_alloc w o g h.lt).trans h
theorem Blk.set (h : Blk w g t cs) (i : Nat) (u : Value) : Blk (w.setCell ⟨g, i, none⟩ u) g t (cs.setIfInBounds i u) := by
  unfold Blk at h ⊢
  simp [World.setCell, Array.getElem?_modify, h]
theorem Blk.far (h : Blk w g t cs) {p : Addr} (hp : g ≠ p.block) (u : Value) : Blk (w.setCell p u) g t cs := (Below.heap_setCell w p u g hp).trans h
theorem Blk.below {B : Nat} (h : Blk w g t cs) (hb : Below B w w') (hg : g < B) : Blk w' g t cs := (hb.block g hg).trans h
theorem Blk.grown {row : Option Nat} (h : Blk w g t cs) (hb : w.grownBy w' row) (hg : some g ≠ row) : Blk w' g t cs := (hb.block g h.lt hg).trans h
theorem Blk.ne {g' : Nat} {t' : TypeId} {cs' : Array Value} (h : Blk w g t cs) (h' : Blk w g' t' cs') (hne : t ≠ t') : g ≠ g' := by
  rintro rfl
  unfold Blk at h h'
  rw [h] at h'
  injection h' with h'
  injection h' with _ ht
  exact hne ht
end

/-- A string out of bytes. -/
def bs (l : List UInt8) : ByteArray := ⟨l.toArray⟩
theorem bs_data (l : List UInt8) : (bs l).data.toList = l := rfl
theorem bs_size (l : List UInt8) : (bs l).size = l.length := rfl
@[go_sem] theorem bs_toList (l : List UInt8) : (bs l).toList = l := by
  rw [Lib.toList_data]
  rfl
@[go_sem] theorem bs_size_sem (l : List UInt8) : (bs l).size = l.length := rfl
@[go_sem] theorem bs_get (l : List UInt8) (k : Nat) (h : k < (bs l).size) : ((bs l)[k]'h).toNat = bt l k := by
  rw [bt_get l k h]
  rfl
theorem bs_of (s : ByteArray) : bs s.data.toList = s := rfl
theorem bs_inj {a b : List UInt8} (h : bs a = bs b) : a = b := by have := congrArg (fun s : ByteArray => s.data.toList) h; simpa [bs] using this

section
variable {w w' : World} {B size n c : Nat} {A : Option Addr} {xs : List Value}
theorem Rd.drewN (h : Rd w B size A n c xs) (k : Nat) : Rd (w.drewN k) B size A n c xs := h.keep fun _ _ => rfl
theorem Rd.drew (h : Rd w B size A n c xs) : Rd w.drew B size A n c xs := h.keep fun _ _ => rfl
theorem Rd.alloc (h : Rd w B size A n c xs) (hB : B ≤ w.heap.size) (o : Obj) : Rd (w.alloc o) B size A n c xs := h.keep fun p hp => World.cell?_alloc_lt w o p (by omega)
theorem Rd.setCell (h : Rd w B size A n c xs) {p : Addr} (hB : B ≤ p.block) (u : Value) : Rd (w.setCell p u) B size A n c xs :=
  h.keep fun q hq => World.cell?_setCell_other w p q u (fun e => by subst e; omega)
/-- A piece of a slice of bytes. -/
theorem Rd.sub {l : List UInt8} {b off lo hi : Nat} (h : Rd w B 1 (some ⟨b, off, none⟩) n c (l.map vb)) (h1 : lo ≤ hi) (h2 : hi ≤ n) :
    Rd w B 1 (some ⟨b, off + lo, none⟩) (hi - lo) (c - lo) (((l.drop lo).take (hi - lo)).map vb) := by
  have hl := h.blen
  refine ⟨by simp; omega, by have := h.cap; omega, by have := h.big; omega, fun hn => ?_⟩
  obtain ⟨b', off', e, hb, hc⟩ := h.cells (by omega)
  injection e with e
  injection e with e1 e2
  subst e1 e2
  refine ⟨b, off + lo, rfl, hb, fun j u hj => ?_⟩
  rw [Nat.add_assoc]
  apply hc
  have hj2 : j < hi - lo := by
    rcases Nat.lt_or_ge j (hi - lo) with h3 | h3
    · exact h3
    · rw [List.getElem?_eq_none (by simp; omega)] at hj; cases hj
  simpa [List.getElem?_map, List.getElem?_take, hj2, List.getElem?_drop] using hj
theorem vb_get (l : List UInt8) (i : Nat) (h : i < l.length) : (l.map vb)[i]? = some (.int .u8 ((l.map fun c => (c.toNat : Int)).getD i 0)) := by
  simp [h, vb]
/-- string(b). -/
theorem Rd.conv {P : Program} {l : List UInt8} {src dst e : TypeId} (h : Rd w B 1 A n c (l.map vb)) (hs : P.underlying src = some (.slice e)) (he : P.underlying e = some (.int .u8)) (hd : P.underlying dst = some .string) (cap : Nat) :
    (convert src dst (.slice A n cap)).run P w = .ok (.string (bs l)) w := by
  have hl := h.blen
  rcases Nat.eq_zero_or_pos n with h0 | h0
  · have hl0 : l = [] := List.eq_nil_of_length_eq_zero (by omega)
    subst hl0 h0
    rcases A with _ | ⟨b, off, spot⟩
    · exact run_convert_bytes_nil w src e hs he _ _ dst hd
    · rw [run_convert_bytes_string w src dst e _ 0 cap hs he hd]
      simp [Conv.bytesToString, loadCells, loadCellsFrom, bs]
      rfl
  · obtain ⟨b, off, rfl, hb, hc⟩ := h.cells h0
    have := run_convert_bytes_arg (P := P) w src e hs he b off n cap (l.map fun c => (c.toNat : Int)) (by simpa using hl) (fun i hi => by
      apply hc
      rw [vb_get l i (by omega)]) dst hd
    rw [this]
    congr 1
    congr 1
    simp [strOfNums, bs]
    apply List.map_id''
    intro c
    simp
end

/-- A test's outcome, as the walk spells it. -/
theorem nb {a : Nat} {m : Int} (h : ¬ (a : Int) = m) : ((a : Int) == m) = false := by simpa using h
theorem yb {a : Nat} {m : Int} (h : (a : Int) = m) : ((a : Int) == m) = true := by simpa using h
theorem nnb {a : Nat} {m : Int} (h : ¬ (a : Int) = m) : ((a : Int) != m) = true := by simpa using h
theorem ynb {a : Nat} {m : Int} (h : (a : Int) = m) : ((a : Int) != m) = false := by simpa using h
theorem int_eq {k : IntKind} {a b : Int} (h : a = b) : Value.int k a = .int k b := by rw [h]
theorem ret_int {k : IntKind} {a b : Int} (h : a = b) : Ending.returned (.int k a) = .returned (.int k b) := by rw [h]
theorem ret_bool {a b : Bool} (h : a = b) : Ending.returned (.bool a) = .returned (.bool b) := by rw [h]
end Go.Proofs.YtnigdcppdkcllaaDoor
