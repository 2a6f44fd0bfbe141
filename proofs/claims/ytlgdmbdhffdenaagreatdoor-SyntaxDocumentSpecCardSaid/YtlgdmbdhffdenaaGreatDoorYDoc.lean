/- The parser's Document by its contract, over a contract of the sort. -/
import Derived.Test.YtlgdmbdhffdenaaGreatDoorYDocSt
import Derived.Test.YtlgdmbdhffdenaaGreatDoorYWhole
import Derived.Test.YtlgdmbdhffdenaaGreatDoorPC
namespace Go.Proofs.YtlgdmbdhffdenaaGreatDoor
set_option linter.unusedVariables false
set_option linter.unusedSimpArgs false
open Go.RowKit

/-- The sort's contract for lists of at most N problems. -/
def SortC (N : Nat) : Prop := ∀ (base base2 : Nat) (A : Option Addr) (n c : Nat) (P : List Prob) (w : World), BRow w base base2 A n c P → P.length ≤ N →
  Calls Tryz.prog 38 #[.slice A n c, .func (.func 39) #[] #[]] w fun e w' => e = .returned (.tuple #[]) ∧ Only (fun k => (Value.slice A n c).ownBlock = some k) w w' ∧ ∃ R : List Prob, R.Perm P ∧ Sorted R ∧ BRow w' base base2 A n c R
/-- What Document hands back. -/
def DocPost (l : List UInt8) (w : World) (e : Ending) (w' : World) : Prop := ∃ (A : Option Addr) (m c : Nat) (A' : Option Addr) (n' c' : Nat) (R : List Prob) (xs : List Value),
  e = .returned (.tuple #[.slice A m c, .slice A' n' c', .int .i64 0]) ∧ m = (docR l).length ∧ Rd w' w'.heap.size 6 A m c xs ∧ RepL (fun k => k < w.heap.size) w' (docR l) xs ∧
  R.Perm ((lex l).2 ++ synP l) ∧ Sorted R ∧ n' = min R.length 64 ∧ Rd w' w'.heap.size 2 A' n' c' ((R.take 64).flatMap probCells) ∧ Below w.heap.size w w'
theorem pskip_stop {T : List Tok} {a : Nat} (h : (nx T a).kind = 5 ∨ isB T a kRules = true) (f : Nat) : pskip T f a = a := by
  cases f with
  | zero => rfl
  | succ f => unfold pskip; rw [if_pos h]
theorem pskip_on {T : List Tok} {a : Nat} (h : ¬ (nx T a).kind = 5) (hB : isB T a kRules = false) (f : Nat) : pskip T (f + 1) a = pskip T f (a + 1) := by
  rw [show pskip T (f + 1) a = if (nx T a).kind = 5 ∨ isB T a kRules = true then a else pskip T f (a + 1) from rfl, if_neg]
  rintro (e | e)
  · exact h e
  · rw [hB] at e; cases e
theorem rd_take {w : World} {B size n c k : Nat} {A : Option Addr} {xs : List Value} (h : Rd w B size A n c xs) (hk : k ≤ n) : Rd w B size A k c (xs.take (k * size)) := by
  have hm : k * size ≤ n * size := Nat.mul_le_mul_right _ hk
  refine ⟨by rw [List.length_take, h.len]; omega, Nat.le_trans hk h.cap, h.big, fun h0 => ?_⟩
  obtain ⟨b, off, e, hb, hc⟩ := h.cells (by omega)
  refine ⟨b, off, e, hb, fun j u hj => hc j u ?_⟩
  rw [List.getElem?_take] at hj
  split at hj
  · exact hj
  · cases hj
theorem take_flat : ∀ (R : List Prob) (k : Nat), (R.take k).flatMap probCells = (R.flatMap probCells).take (k * 2)
  | [], k => by simp
  | p :: r, 0 => by simp
  | p :: r, k + 1 => by
    rw [List.take_succ_cons, List.flatMap_cons, List.flatMap_cons, take_flat r k, show (k + 1) * 2 = (probCells p).length + k * 2 by rw [prob_len]; omega, List.take_length_add_append]
theorem lex_plen (l : List UInt8) : (lex l).2.length ≤ 64 := by
  obtain ⟨T, P, e, h⟩ := lex_inv l
  rw [e]
  exact h.pl
/-- The state between two rounds: the parser at block g, rules and problems in rows. -/
structure DSt (w0 wr : World) (g : Nat) (A : Option Addr) (n c : Nat) (T : List Tok) (b : Nat) (l : List RT) (AL : Option Addr) (cL : Nat) (P : List Prob) (AP : Option Addr) (cP : Nat) : Prop where
  st : PSt wr g g A n c T b
  bel : Below w0.heap.size w0 wr
  hg : w0.heap.size ≤ g
  row : ∃ xs, wr.ownsRow g 28 6 (.slice AL l.length cL) l.length xs ∧ RepL (fun k => k ≤ g ∨ (Value.slice AL l.length cL).ownBlock = some k ∨ (Value.slice AP P.length cP).ownBlock = some k) wr l xs
  bad : BRow wr w0.heap.size g AP P.length cP P
section
variable {w0 wr W w1 : World} {g n c b b' cL cP : Nat} {A AL AP : Option Addr} {T : List Tok} {l : List RT} {P : List Prob}
theorem own_bad {base base2 base3 m c' : Nat} {A' : Option Addr} {v : Value} {k : Nat} {xs : List Value} {n' : Nat} (h : wr.ownsRow base3 28 6 v n' xs) (hb : BRow wr base base2 A' m c' P) (h1 : v.ownBlock = some k) (h2 : (Value.slice A' m c').ownBlock = some k) : False := by
  rcases h.2 with ⟨rfl, _⟩ | ⟨g', cap, cur, rfl, hg, hgg, rest⟩
  · simp [Value.ownBlock] at h1
  · have : g' = k := by simpa [Value.ownBlock] using h1
    subst this
    exact hb.ne (t := 28) (cs := cur) hgg (by decide) g' h2 rfl
theorem DSt.gne (h : DSt w0 wr g A n c T b l AL cL P AP cP) : (∀ k, (Value.slice AL l.length cL).ownBlock = some k → g ≤ k ∧ k ≠ g ∧ k < wr.heap.size) ∧ ∀ k, (Value.slice AP P.length cP).ownBlock = some k → w0.heap.size ≤ k ∧ k ≠ g ∧ k < wr.heap.size := by
  obtain ⟨xs, h1, _⟩ := h.row
  refine ⟨fun k hk => ⟨(h1.lt k hk).1, own_ne h1 h.st.blk (by decide) k hk, (h1.lt k hk).2⟩, fun k hk => ⟨(h.bad.lt h.hg k hk).1, h.bad.ne h.st.blk (by decide) k hk, (h.bad.lt h.hg k hk).2⟩⟩
theorem DSt.go (h : DSt w0 wr g A n c T b l AL cL P AP cP) (hp : PSt W g g A n c T b') (ho : Only (· = g) wr W) : DSt w0 W g A n c T b' l AL cL P AP cP := by
  obtain ⟨xs, h1, h2⟩ := h.row
  have hg := h.hg
  have hgn := h.gne
  exact ⟨hp, ho.below h.bel h.bel.size (fun k hk => by rw [hk]; exact hg), hg, ⟨xs, own_only h1 ho (fun k hk => (hgn.1 k hk).2.1), h2.only ho (fun k hk => .inl (by rw [hk]; exact Nat.le_refl _))⟩, h.bad.only ho (fun k hk => (hgn.2 k hk).2.1)⟩
theorem DSt.below (h : DSt w0 wr g A n c T b l AL cL P AP cP) (hb : Below wr.heap.size wr W) : DSt w0 W g A n c T b l AL cL P AP cP := h.go (h.st.below hb) (Only.of_below hb)
theorem DSt.pushL (h : DSt w0 W g A n c T b l AL cL P AP cP) {xs news : List Value} {r : RT} {A2 : Option Addr} {m cc : Nat} (hm : m = l.length + 1) (h1 : W.ownsRow g 28 6 (.slice AL l.length cL) l.length xs)
    (h2 : RepL (fun k => k ≤ g ∨ (Value.slice AL l.length cL).ownBlock = some k ∨ (Value.slice AP P.length cP).ownBlock = some k) W l xs) (hn : RepL (fun k => k ≤ g ∨ (Value.slice AL l.length cL).ownBlock = some k ∨ (Value.slice AP P.length cP).ownBlock = some k) W [r] news)
    (hgr : W.grownBy w1 (Value.slice AL l.length cL).ownBlock) (hown : w1.ownsRow g 28 6 (.slice A2 m cc) m (xs ++ news))
    (hap : ∀ k, (Value.slice A2 m cc).ownBlock = some k → (Value.slice AL l.length cL).ownBlock = some k ∨ W.heap.size ≤ k) : DSt w0 w1 g A n c T b (l ++ [r]) A2 cc P AP cP := by
  have ho : Only (fun k => (Value.slice AL l.length cL).ownBlock = some k) W w1 := Only.of_grown hgr (fun k hk => hk)
  have hgn := h.gne
  have hg := h.hg
  subst hm
  refine ⟨h.st.only ho (fun e => (hgn.1 _ e).2.1 rfl) (fun k hk => (hgn.1 k hk).1), ho.below h.bel h.bel.size (fun k hk => Nat.le_trans hg (hgn.1 k hk).1), hg, ⟨xs ++ news, ?_, ?_⟩, h.bad.only ho (fun k hk hS => own_bad h1 h.bad hS hk)⟩
  · rw [List.length_append]; exact hown
  · rw [List.length_append]
    have hr2 := ((RepL.app h2 hn).new).only ho (fun k hk => .inl (.inr (.inl hk)))
    refine hr2.sub fun k hk => ?_
    rcases hk with hk | hk | hk
    · exact .inl (.inl hk)
    · rcases hap k hk with e | e
      · exact .inl (.inr (.inl e))
      · exact .inr e
    · exact .inl (.inr (.inr hk))
theorem DSt.pushP (h : DSt w0 W g A n c T b l AL cL P AP cP) {p : Prob} {A2 : Option Addr} {m cc : Nat} (hm : m = P.length + 1) (hb : BRow w1 w0.heap.size g A2 m cc (P ++ [p]))
    (ho : Only (fun k => (Value.slice AP P.length cP).ownBlock = some k ∧ g ≤ k) W w1)
    (hap : ∀ k, (Value.slice A2 m cc).ownBlock = some k → (Value.slice AP P.length cP).ownBlock = some k ∨ W.heap.size ≤ k) : DSt w0 w1 g A n c T b l AL cL (P ++ [p]) A2 cc := by
  have hgn := h.gne
  have hg := h.hg
  obtain ⟨xs, h1, h2⟩ := h.row
  subst hm
  refine ⟨h.st.only ho (fun e => (hgn.2 _ e.1).2.1 rfl) (fun k hk => hk.2), ho.below h.bel h.bel.size (fun k hk => Nat.le_trans hg hk.2), hg, ⟨xs, own_only h1 ho (fun k hk hS => own_bad h1 h.bad hk hS.1), ?_⟩, ?_⟩
  · rw [List.length_append]
    have hr2 := (h2.new).only ho (fun k hk => .inl (.inr (.inr hk.1)))
    refine hr2.sub fun k hk => ?_
    rcases hk with hk | hk | hk
    · exact .inl (.inl hk)
    · exact .inl (.inr (.inl hk))
    · rcases hap k hk with e | e
      · exact .inl (.inr (.inr e))
      · exact .inr e
  · rw [List.length_append]; exact hb
end
set_option maxHeartbeats 8000000 in
set_option maxRecDepth 100000 in
theorem ydoc_any (N : Nat) (hsort : SortC N) (A : Option Addr) (n c : Nat) (l : List UInt8) (w : World) (h : Rd w w.heap.size 1 A n c (l.map vb)) (hn : n ≤ 30000) (hG : Gb w.heap.size w) (hN : ((lex l).2 ++ synP l).length ≤ N) :
    Calls Tryz.prog 19 #[.slice A n c] w (DocPost l w) := by
  have hmf := hmfP
  have hlen := h.blen
  subst hlen
  have HSRT := Lib.hid hsort
  have HN' := Lib.hid hN
  have HG := Lib.hid hG
  have HH := Lib.hid h
  clear hsort hN hG h
  go_enter Tryz.func19, Tryz.ntmps19
  go_wp2_with (fail)
  refine (tokens_own A l.length c l w HH.out (by omega)).mono ?_
  have HK := Lib.hid (tok_ok hn)
  rintro e w1 ⟨A1, A2, c1, c2, rfl, h1', h2', hb1⟩
  have HT1 := Lib.hid h1'
  have HP1 := Lib.hid h2'
  have HB1 := Lib.hid hb1
  have h1 := own_rd h1'
  have h2 := own_rd h2'
  have hcap1 := h1.cap
  have hbig1 := h1.big
  have hcap2 := h2.cap
  have hbig2 := h2.big
  clear h1' h2' hb1 h1 h2
  have hpl : (lex l).2.length ≤ 1000000 := Nat.le_trans (lex_plen l) (by omega)
  have HBC := Lib.hid (own_clip (base2 := w1.heap.size) HP1.out hpl)
  have hnil : A2 = none → c2 = 0 := by
    intro e
    rcases HP1.out.2 with ⟨e2, _⟩ | ⟨g', cap, cur, e2, _⟩
    · injection e2
    · injection e2 with e3
      rw [e] at e3
      cases e3
  go_wp2_with (fail)
  refine (yclip_any A2 (lex l).2.length c2 hcap2 hbig2 hnil w1).mono ?_
  rintro e w1' ⟨rfl, rfl⟩
  go_wp2_with (fail)
  first | (refine calls_named ?_; intro W2 hW2) | (refine body_named ?_; intro W2 hW2) | (refine wpList_named ?_; intro W2 hW2) | (refine wp_named ?_; intro W2 hW2)
  have hb2 : Below w1'.heap.size w1' W2 := by rw [← hW2]; exact (Below.refl _ _).alloc (Nat.le_refl _) _
  have hg2 : Blk W2 w1'.heap.size 72 #[.slice A1 (lex l).1.length c1, vi (0 : Nat)] := by rw [← hW2]; exact Blk.new w1' _ _
  have hz1 := HB1.out.size
  have hB2 := HB1.out.trans (hb2.mono hz1)
  have HD := Lib.hid (show DSt w W2 w1'.heap.size A1 (lex l).1.length c1 (lex l).1 0 [] none 0 (lex l).2 A2 (lex l).2.length from
    ⟨⟨hg2, (own_rd HT1.out).below hb2, Nat.le_refl _, (HG.out.below hB2).more hz1⟩, hB2, hz1, ⟨[], World.ownsRow_nil _ _ _ _, rfl⟩, HBC.out.below hb2⟩)
  clear hW2 hb2 hg2 hB2
  have hfld0 : ∀ (x y z : Value) (w : World), Sem.run Tryz.prog (Instr.field 53 (.agg #[x, y, z]) 0) w = .ok x w := fun _ _ _ _ => rfl
  have hfld2 : ∀ (x y z : Value) (w : World), Sem.run Tryz.prog (Instr.field 53 (.agg #[x, y, z]) 2) w = .ok z w := fun _ _ _ _ => rfl
  have HDR := Lib.hid (show docR l = [] ++ (pdoc (lex l).1 (lex l).1.length 0).1 ∧ (lex l).2 ++ synP l = (lex l).2 ++ (pdoc (lex l).1 (lex l).1.length 0).2.map (fun a => (⟨a, 130⟩ : Prob)) from ⟨rfl, rfl⟩)
  have hTl := HK.out.len
  have hpl64 := lex_plen l
  have HTk := HK
  clear HP1 HBC hnil HT1 hcap2 hbig2
  generalize hPl : (lex l).2.length = pl at HD ⊢
  rw [← hPl] at HD ⊢
  clear hPl pl
  generalize hTT : (lex l).1 = T at *
  generalize hPP : (lex l).2 = P0 at *
  generalize hRR : docR l = DR at *
  generalize hSS : synP l = SP at *
  generalize w1'.heap.size = g at *
  have HTT := Lib.hid hTT
  have HPP := Lib.hid hPP
  have HRR := Lib.hid hRR
  have HSS := Lib.hid hSS
  clear hTT hPP hRR hSS
  go_loopg [2, 3] T.length (fun gk s1 s2 wr => ∃ (b : Nat) (L : List RT) (AL : Option Addr) (cL : Nat) (P : List Prob) (AP : Option Addr) (cP : Nat), T.length ≤ gk + b ∧ b ≤ 65537 ∧ L.length ≤ b ∧ P.length ≤ 64 + b ∧ s1 = .slice AL L.length cL ∧ s2 = .slice AP P.length cP ∧
    Hid (DSt w wr g A1 T.length c1 T b L AL cL P AP cP) ∧ Hid (DR = L ++ (pdoc T gk b).1 ∧ P0 ++ SP = P ++ (pdoc T gk b).2.map (fun a => (⟨a, 130⟩ : Prob))))
  case atStart => exact ⟨0, [], none, 0, P0, A2, P0.length, by omega, by omega, Nat.le_refl _, by omega, rfl, rfl, HD.out, HDR.out⟩
  case round =>
    obtain ⟨b, L, AL, cL, P, AP, cP, hgk, hb, hLb, hPb, rfl, rfl, HD2, HDR2⟩ := hrel
    obtain ⟨⟨kk, tx, pa⟩, ht⟩ : ∃ t, nx T b = t := ⟨_, rfl⟩
    have HN := Lib.hid (ynext_any g g A1 T.length c1 T b wr HD2.out.st (by omega))
    rw [ht] at HN
    have Hgk := Lib.hid hgk
    by_cases hk : kk = 5
    · subst hk
      have HEND := Lib.hid (show pdoc T gk b = ([], []) from pdoc_end (by rw [ht]) gk)
      clear ht hgk HD
      go_wp2_with (fail)
      refine HN.out.mono ?_
      rintro e w2 ⟨rfl, hb2⟩
      have HD3 := Lib.hid (HD2.out.below hb2)
      clear hb2
      unfold tokV
      dsimp only
      go_wp2_with (fail)
      have HPN := Lib.hid (show P.length ≤ N by
        have h1 := HN'.out
        have h2 := HDR2.out.2
        rw [HEND.out] at h2
        simp only [List.map_nil, List.append_nil] at h2
        rw [← h2]; exact h1)
      refine (HSRT.out w.heap.size g AP P.length cP P w2 HD3.out.bad HPN.out).mono ?_
      rintro e w3 ⟨rfl, hO3, R, hR1, hR2, hR3⟩
      have hrdR := hR3.rd
      have hlenR := Lib.hid hR3.len
      have hcapR := hrdR.cap
      have hbigR := hrdR.big
      have HO3 := Lib.hid hO3
      have HRD := Lib.hid hrdR
      have HRP := Lib.hid (And.intro hR1 hR2)
      clear hO3 hR1 hR2 hR3 hrdR
      go_wp2_with (fail)
      go_quiet (fail)
      go_wp2
      refine bodyPost_ret (v := .tuple #[.slice AL L.length cL, .slice AP (min (P.length : Int) 64).toNat cP, .int .i64 0]) (by simp [results, Tryz.results19, go_sem]; try rfl) rfl ?_
      have hdr := bdrew (B := w3.heap.size) w3 nq
      obtain ⟨xs, hx1, hx2⟩ := HD3.out.row
      have hx3 := own_only hx1 HO3.out (fun k hk hS => own_bad hx1 HD3.out.bad hk hS)
      have hx4 := hx2.only HO3.out (fun k hk => .inr (.inr hk))
      have hD := HDR2.out
      rw [HEND.out] at hD
      simp only [List.map_nil, List.append_nil] at hD
      have hg := HD3.out.hg
      refine ⟨AL, L.length, cL, AP, (min (P.length : Int) 64).toNat, cP, R, xs, rfl, ?_, (own_rd (own_below_all hx3 hdr)), ?_, ?_, HRP.out.2, ?_, ?_, ?_⟩
      · rw [HRR.out, hD.1]
      · rw [HRR.out, hD.1]
        exact (hx4.only (S' := fun _ => False) (Only.of_below hdr) (fun _ h => h.elim)).sub (fun k hk => .inl (by omega))
      · rw [HPP.out, HSS.out, hD.2]; exact HRP.out.1
      · have := hlenR.out; omega
      · have h1 := rd_take HRD.out (k := (min (P.length : Int) 64).toNat) (by omega)
        have h2 : (R.take 64).flatMap probCells = (R.flatMap probCells).take ((min (P.length : Int) 64).toNat * 2) := by
          rw [show R.take 64 = R.take (min (P.length : Int) 64).toNat by
            have h3 := hlenR.out
            by_cases h64 : 64 ≤ P.length
            · congr 1; omega
            · rw [List.take_of_length_le (by omega), List.take_of_length_le (by omega)]]
          exact take_flat R _
        rw [h2]
        exact (h1.below hdr).more hdr.size
      · exact (HO3.out.below HD3.out.bel HD3.out.bel.size (fun k hk => (HD3.out.gne.2 k hk).1)).trans (bdrew w3 nq)
    · have hlt := nx_kind T (a := b) (by rw [ht]; exact hk)
      have e1 : (kk != 5) = true := by rw [bne_iff_ne]; exact hk
      have HKK := Lib.hid (show ¬ (nx T b).kind = 5 by rw [ht]; exact hk)
      clear ht hk HD
      go_wp2_with (fail)
      refine HN.out.mono ?_
      rintro e w2 ⟨rfl, hb2⟩
      have HD3 := Lib.hid (HD2.out.below hb2)
      clear hb2
      unfold tokV
      dsimp only
      have xat := HD3.out.st.at_
      go_wp2_with (fail)
      refine (yattR_bound 25 (prules T b) g g A1 T.length c1 T w2 HD3.out.st.lt (fun _ => rfl) (fun w' hb' => yrules_any g g A1 T.length c1 T b w' (HD3.out.st.below hb') HTk.out hb)).mono ?_
      rintro e w3 ⟨hO3, hp3⟩
      obtain ⟨q, rfl⟩ : ∃ q, gk = q + 1 := ⟨gk - 1, by have := Hgk.out; omega⟩
      have hin := prules_in T b
      have hgt : g < w2.heap.size := HD3.out.st.lt
      have hgneq := Lib.hid HD3.out.gne
      cases hv : prules T b with
      | ok r m =>
        rw [hv] at hp3 hin
        obtain ⟨⟨_, rfl, B1, m1, d1, B2, m2, d2, rfl, hr1, hr2⟩, hP⟩ := hp3
        have HDR3 := Lib.hid (show DR = (L ++ [r]) ++ (pdoc T q m).1 ∧ P0 ++ SP = P ++ (pdoc T q m).2.map (fun a => (⟨a, 130⟩ : Prob)) by
          have h1 := HDR2.out
          rw [pdoc_succ, if_neg HKK.out, hv] at h1
          exact ⟨by rw [h1.1]; simp, h1.2⟩)
        have hmL : m ≤ T.length := hin.2
        have hbm : b < m := hin.1
        have HD4 := Lib.hid (HD3.out.go hP hO3)
        have HRL := Lib.hid (show RepL (fun k => k ≤ g ∨ (Value.slice AL L.length cL).ownBlock = some k ∨ (Value.slice AP P.length cP).ownBlock = some k) w3 [r] [.string (bs r.name), .int .i64 r.win, .int .i64 r.draw, .int .i64 r.loss, .slice B1 m1 d1, .slice B2 m2 d2] from by
          have hs : ∀ k, (k ≤ g ∨ (Value.slice AL L.length cL).ownBlock = some k ∨ (Value.slice AP P.length cP).ownBlock = some k) → k < w2.heap.size := fun k hk => by
            rcases hk with hk | hk | hk
            · omega
            · exact (hgneq.out.1 k hk).2.2
            · exact (hgneq.out.2 k hk).2.2
          exact ⟨_, _, _, _, _, _, [], rfl, hr1.sub hs, hr2.sub hs, rfl⟩)
        clear hv hP hO3 hin hr1 hr2 xat
        go_wp2_with (at_builtin; refine Hid.out ?_)
        refine Lib.hid ?_
        have hbb : Below w3.heap.size w3 ((w3.alloc (.cells #[.string (bs r.name), .int .i64 r.win, .int .i64 r.draw, .int .i64 r.loss, .slice B1 m1 d1, .slice B2 m2 d2] 28)).alloc (.cells #[.string (bs r.name), .int .i64 r.win, .int .i64 r.draw, .int .i64 r.loss, .slice B1 m1 d1, .slice B2 m2 d2] 28)) := ((Below.refl _ _).alloc (Nat.le_refl _) _).alloc (by simp) _
        obtain ⟨xs, hrow, hrep⟩ := HD4.out.row
        have hg3 := HD4.out.st.lt
        refine wpList_push_apart elemRules rfl (.tmp 40) (.tmp 42) rfl g AL L.length cL xs rfl (own_below_all hrow hbb) (w3.heap.size + 1) rfl [.string (bs r.name), .int .i64 r.win, .int .i64 r.draw, .int .i64 r.loss, .slice B1 m1 d1, .slice B2 m2 d2] rfl (new_cellsY _ _ _ (by simp)) (by intro u hu; simp at hu; rcases hu with rfl | rfl | rfl | rfl | rfl | rfl <;> rfl) (by omega) (by omega) (by simp only [World.size_alloc]; omega) ?_
        intro AX cX wX hownX hbX hgX hapX
        have HX := Lib.hid (DSt.pushL (HD4.out.below hbb) rfl (own_below_all hrow hbb) (hrep.only (S' := fun _ => False) (Only.of_below hbb) (fun _ h => h.elim)) (HRL.out.only (S' := fun _ => False) (Only.of_below hbb) (fun _ h => h.elim)) hgX hownX hapX)
        clear hrow hrep hbb hownX hbX hgX hapX
        go_wp2_with (fail)
        go_roundg q
        case measure => omega
        case rel => exact ⟨m, L ++ [r], AX, cX, P, AP, cP, by have := Hgk.out; omega, by omega, by rw [List.length_append]; show L.length + 1 ≤ m; omega, by omega, slice_eq (by rw [List.length_append]; rfl), rfl, HX.out, HDR3.out⟩
      | bad m =>
        rw [hv] at hp3 hin
        obtain ⟨rfl, hP⟩ := hp3
        have HDR3 := Lib.hid (show DR = L ++ (pdoc T q (pskip T T.length (max m (b + 1)))).1 ∧ P0 ++ SP = (P ++ [⟨(nx T m).at_, 130⟩]) ++ (pdoc T q (pskip T T.length (max m (b + 1)))).2.map (fun a => (⟨a, 130⟩ : Prob)) by
          have h1 := HDR2.out
          rw [pdoc_succ, if_neg HKK.out, hv] at h1
          exact ⟨h1.1, by rw [h1.2]; simp⟩)
        have hmL : m ≤ T.length := by have := hin.2; omega
        have HD4 := Lib.hid (HD3.out.go hP hO3)
        clear hv hP hO3 hin xat
        go_wp2_with (fail)
        first | (refine calls_named ?_; intro W3 hW3) | (refine body_named ?_; intro W3 hW3) | (refine wpList_named ?_; intro W3 hW3) | (refine wp_named ?_; intro W3 hW3)
        have HD5 := Lib.hid (show DSt w W3 g A1 T.length c1 T m L AL cL P AP cP by rw [← hW3]; exact HD4.out.below ((Below.refl _ _).alloc (Nat.le_refl _) _))
        clear hW3
        refine (ynext_any g g A1 T.length c1 T m W3 HD5.out.st (by omega)).mono ?_
        rintro e w4 ⟨rfl, hb4⟩
        have HD6 := Lib.hid (HD5.out.below hb4)
        clear hb4
        obtain ⟨⟨k4, t4, p4⟩, ht⟩ : ∃ t, nx T m = t := ⟨_, rfl⟩
        rw [ht] at HDR3
        rw [ht]
        clear ht
        unfold tokV
        dsimp only
        go_wp2_with (at_builtin; refine Hid.out ?_)
        refine Lib.hid ?_
        have hbb : Below w4.heap.size w4 (w4.alloc (.cells #[.int .i64 p4, .int .i64 130] 49)) := (Below.refl _ _).alloc (Nat.le_refl _) _
        have HD7 := Lib.hid (HD6.out.below hbb)
        have hg4 := HD6.out.st.lt
        refine wpList_push_bad elemProb rfl (.tmp 44) (.tmp 49) rfl rfl HD7.out.bad w4.heap.size rfl ⟨p4, 130⟩ (new_cells _ _ _) (by omega) (by simp only [World.size_alloc]; omega) ?_
        intro AX cX wX hownX hoX hapX
        have HX := Lib.hid (DSt.pushP HD7.out rfl hownX hoX hapX)
        clear hbb hownX hoX hapX
        have xat := HX.out.st.at_
        have fat := HX.out.st.free 1
        have gat := HX.out.st.lt
        go_wp2_with (fail)
        have emax : max (m : Int) ((b : Int) + 1) = ((max m (b + 1) : Nat) : Int) := by omega
        first | (refine calls_named ?_; intro W5 hW5) | (refine body_named ?_; intro W5 hW5) | (refine wpList_named ?_; intro W5 hW5) | (refine wp_named ?_; intro W5 hW5)
        have HY := Lib.hid (show DSt w W5 g A1 T.length c1 T (max m (b + 1)) L AL cL (P ++ [⟨p4, 130⟩]) AX cX by
          rw [← hW5, emax]
          exact HX.out.go (HX.out.st.move _) (Only.set (S := (· = g)) wX (p := ⟨g, 1, none⟩) rfl _))
        clear hW5 emax xat fat gat HX HD7
        have hx0 : max m (b + 1) ≤ T.length ∧ b + 1 ≤ max m (b + 1) := by omega
        generalize max m (b + 1) = x0 at *
        go_loopg [] T.length (fun gk2 wi => ∃ x : Nat, T.length ≤ gk2 + x ∧ x0 ≤ x ∧ x ≤ T.length ∧ Hid (DSt w wi g A1 T.length c1 T x L AL cL (P ++ [⟨p4, 130⟩]) AX cX) ∧ Hid (pskip T T.length x0 = pskip T gk2 x))
        case atStart => exact ⟨x0, by omega, Nat.le_refl _, hx0.1, HY.out, rfl⟩
        case round =>
          obtain ⟨x, hgx, hxx, hxT, HDx, HSx⟩ := hrel
          have Hgx := Lib.hid hgx
          have HDR4 := Lib.hid (show pskip T T.length x0 = x → DR = L ++ (pdoc T q x).1 ∧ P0 ++ SP = (P ++ [⟨p4, 130⟩]) ++ (pdoc T q x).2.map (fun a => (⟨a, 130⟩ : Prob)) from fun e => by have h1 := HDR3.out; rw [e] at h1; exact h1)
          have hxb : b + 1 ≤ x := Nat.le_trans hx0.2 hxx
          obtain ⟨⟨k5, t5, p5⟩, ht⟩ : ∃ t, nx T x = t := ⟨_, rfl⟩
          have HN5 := Lib.hid (ynext_any g g A1 T.length c1 T x wr HDx.out.st (by omega))
          rw [ht] at HN5
          by_cases h5 : k5 = 5
          · subst h5
            have HDR5 := Lib.hid (HDR4.out (by rw [HSx.out]; exact pskip_stop (.inl (by rw [ht])) _))
            clear ht hgx HDR4 HSx
            go_wp2_with (fail)
            refine HN5.out.mono ?_
            rintro e w6 ⟨rfl, hb6⟩
            have HDy := Lib.hid (HDx.out.below hb6)
            clear hb6
            unfold tokV
            dsimp only
            go_wp2_with (fail)
            go_roundg q
            case measure => omega
            case rel => exact ⟨x, L, AL, cL, P ++ [(⟨p4, 130⟩ : Prob)], AX, cX, by have := Hgk.out; omega, by omega, by omega, by rw [List.length_append]; show P.length + 1 ≤ 64 + x; omega, rfl, slice_eq (by rw [List.length_append]; rfl), HDy.out, HDR5.out⟩
          · have hlt5 := nx_kind T (a := x) (by rw [ht]; exact h5)
            have e5 : (k5 != 5) = true := by rw [bne_iff_ne]; exact h5
            have HK5 := Lib.hid (show ¬ (nx T x).kind = 5 by rw [ht]; exact h5)
            clear ht h5
            obtain ⟨q2, rfl⟩ : ∃ q2, gk = q2 + 1 := ⟨gk - 1, by omega⟩
            cases hB : isB T x kRules with
            | true =>
              have HDR5 := Lib.hid (HDR4.out (by rw [HSx.out]; exact pskip_stop (.inr hB) _))
              have HI5 := Lib.hid (fun (w6 : World) (h6 : PSt w6 g g A1 T.length c1 T x) => yis_any g g A1 T.length c1 T x kRules w6 h6 (by omega) (by decide))
              rw [hB] at HI5
              clear hB hgx HDR4 HSx
              go_wp2_with (fail)
              refine HN5.out.mono ?_
              rintro e w6 ⟨rfl, hb6⟩
              have HDy := Lib.hid (HDx.out.below hb6)
              clear hb6
              unfold tokV
              dsimp only
              go_wp2_with (fail)
              refine (HI5.out w6 HDy.out.st).mono ?_
              rintro e w7 ⟨rfl, hb7⟩
              have HDz := Lib.hid (HDy.out.below hb7)
              clear hb7
              go_wp2_with (fail)
              go_roundg q
              case measure => omega
              case rel => exact ⟨x, L, AL, cL, P ++ [(⟨p4, 130⟩ : Prob)], AX, cX, by have := Hgk.out; omega, by omega, by omega, by rw [List.length_append]; show P.length + 1 ≤ 64 + x; omega, rfl, slice_eq (by rw [List.length_append]; rfl), HDz.out, HDR5.out⟩
            | false =>
              have HS6 := Lib.hid (show pskip T T.length x0 = pskip T q2 (x + 1) by rw [HSx.out]; exact pskip_on HK5.out hB q2)
              have HI5 := Lib.hid (fun (w6 : World) (h6 : PSt w6 g g A1 T.length c1 T x) => yis_any g g A1 T.length c1 T x kRules w6 h6 (by omega) (by decide))
              rw [hB] at HI5
              clear hB hgx HDR4 HSx
              go_wp2_with (fail)
              refine HN5.out.mono ?_
              rintro e w6 ⟨rfl, hb6⟩
              have HDy := Lib.hid (HDx.out.below hb6)
              clear hb6
              unfold tokV
              dsimp only
              go_wp2_with (fail)
              refine (HI5.out w6 HDy.out.st).mono ?_
              rintro e w7 ⟨rfl, hb7⟩
              have HDz := Lib.hid (HDy.out.below hb7)
              clear hb7
              have xat := HDz.out.st.at_
              have fat := HDz.out.st.free 1
              go_wp2_with (fail)
              go_roundg q2
              case measure => omega
              case rel => exact ⟨x + 1, by have := Hgx.out; omega, by omega, by omega, HDz.out.go (HDz.out.st.move (x + 1)) (Only.set (S := (· = g)) w7 (p := ⟨g, 1, none⟩) rfl _), HS6.out⟩
end Go.Proofs.YtlgdmbdhffdenaaGreatDoor
