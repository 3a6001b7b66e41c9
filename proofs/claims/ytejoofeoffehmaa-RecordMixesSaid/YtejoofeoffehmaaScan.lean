/- Contracts: Scan, the reference's Scan. -/
import Derived.Test.YtejoofeoffehmaaLR2
import Derived.Test.YtejoofeoffehmaaCut
namespace Go.Proofs.Ytejoofeoffehmaa
open Go.RowKit

/-- A record: kind, number, payload. -/
structure Rc where
  k : Int
  q : Int
  p : List UInt8
/-- The cells of a list of records, for the slices of their payloads. -/
def rcCells (r : Rc) (P : Option Addr × Nat) : List Value := [.int .i64 r.k, .int .i64 r.q, .slice P.1 r.p.length P.2]
def rcsCells (rs : List Rc) (Ps : List (Option Addr × Nat)) : List Value := (List.zipWith rcCells rs Ps).flatten
theorem rcsCells_length (rs : List Rc) (Ps : List (Option Addr × Nat)) (h : Ps.length = rs.length) : (rcsCells rs Ps).length = 3 * rs.length := by
  induction rs generalizing Ps with
  | nil => rfl
  | cons r rs ih =>
    cases Ps with
    | nil => simp at h
    | cons P Ps => simp only [rcsCells, List.zipWith_cons_cons, List.flatten_cons, List.length_append, rcCells, List.length_cons, List.length_nil] at ih ⊢; rw [ih Ps (by simpa using h)]; omega
theorem rcsCells_snoc (rs : List Rc) (Ps : List (Option Addr × Nat)) (r : Rc) (P : Option Addr × Nat) (h : Ps.length = rs.length) : rcsCells (rs ++ [r]) (Ps ++ [P]) = rcsCells rs Ps ++ rcCells r P := by
  unfold rcsCells
  rw [List.zipWith_append h.symm]
  simp
theorem rcsCells_at (rs : List Rc) (Ps : List (Option Addr × Nat)) (h : Ps.length = rs.length) (i : Nat) (hi : i < rs.length) : ((rcsCells rs Ps).drop (i * 3)).take 3 = rcCells rs[i] (Ps[i]'(by omega)) := by
  induction rs generalizing Ps i with
  | nil => simp at hi
  | cons r rs ih =>
    cases Ps with
    | nil => simp at h
    | cons P Ps =>
      cases i with
      | zero => simp [rcsCells, rcCells]
      | succ i =>
        have := ih Ps (by simpa using h) i (by simpa using hi)
        simp only [List.getElem_cons_succ]
        rw [← this]
        show ((rcCells r P ++ rcsCells rs Ps).drop ((i + 1) * 3)).take 3 = _
        rw [List.drop_append, List.drop_of_length_le (by simp [rcCells]; omega), List.nil_append]
        simp only [rcCells, List.length_cons, List.length_nil]
        rw [show (i + 1) * 3 - (0 + 1 + 1 + 1) = i * 3 by omega]
/-- The slice at A reads as these records, all of it below block B. -/
def RR (w : World) (B : Nat) (A : Option Addr) (rs : List Rc) : Prop := ∃ Ps : List (Option Addr × Nat), Ps.length = rs.length ∧ Reads w B 3 A rs.length (rcsCells rs Ps) ∧ ∀ i (h : i < rs.length) (h' : i < Ps.length), RB w B Ps[i].1 rs[i].p
theorem RR.below {w w' : World} {B : Nat} {A : Option Addr} {rs : List Rc} (h : RR w B A rs) (hb : Below B w w') : RR w' B A rs := by
  obtain ⟨Ps, h1, h2, h3⟩ := h
  exact ⟨Ps, h1, h2.below hb, fun i h h' => (h3 i h h').below hb⟩
theorem RR.more {w : World} {B B' : Nat} {A : Option Addr} {rs : List Rc} (h : RR w B A rs) (hB : B ≤ B') : RR w B' A rs := by
  obtain ⟨Ps, h1, h2, h3⟩ := h
  exact ⟨Ps, h1, h2.more hB, fun i h h' => (h3 i h h').more hB⟩
theorem RR.nil_ {w : World} {B : Nat} {A : Option Addr} : RR w B A [] := ⟨[], rfl, ⟨rfl, fun h => absurd h (by simp)⟩, fun i h => by simp at h⟩
/-- Record i lies there as three cells. -/
theorem RR.at_ {w : World} {B : Nat} {A : Option Addr} {rs : List Rc} (h : RR w B A rs) {i : Nat} (hi : i < rs.length) :
    ∃ b o P c, A = some ⟨b, o, none⟩ ∧ b < B ∧ w.rangeAt b (o + i * 3) [.int .i64 rs[i].k, .int .i64 rs[i].q, .slice P rs[i].p.length c] ∧ RB w B P rs[i].p := by
  obtain ⟨Ps, h1, h2, h3⟩ := h
  obtain ⟨b, o, hA, hb, hc⟩ := h2.2 (by omega)
  refine ⟨b, o, (Ps[i]'(by omega)).1, (Ps[i]'(by omega)).2, hA, hb, ?_, h3 i hi (by omega)⟩
  have h4 := rangeAt_take (rangeAt_drop hc (i * 3)) 3
  rw [rcsCells_at rs Ps h1 i hi] at h4
  exact h4

/-- What Scan gives: the records, and the number of sectors. -/
def scanF : Nat → List Sec → Int → List Rc × Nat
  | 0, _, _ => ([], 0)
  | f + 1, ss, q => if q < 1 then ([], 0) else if (dec ss).err ≠ 0 ∨ ((dec ss).seq : Int) ≠ q then ([], 0) else (⟨(dec ss).kind, q, (dec ss).payload⟩ :: (scanF f (ss.drop (dec ss).n) (q + 1)).1, (dec ss).n + (scanF f (ss.drop (dec ss).n) (q + 1)).2)

theorem dec_n {ss : List Sec} (h : (dec ss).err = 0) : 2 ≤ (dec ss).n ∧ (dec ss).n ≤ ss.length ∧ (dec ss).seq < 4294967296 ∧ 1 ≤ (dec ss).seq := by
  by_cases hb : begErr ss = 0
  · cases ss with
    | nil => simp [begErr] at hb
    | cons s rest =>
      obtain ⟨z1, z2, z3, z4⟩ := begErr_zero hb
      have hd := dec_def s rest hb _ rfl
      have hp := sizeOfRec_pos (recLen s)
      have hl := secNum_lt s
      rw [hd] at h ⊢
      split at h
      · simp at h
      · split at h
        · simp at h
        · rename_i h1 h2
          rw [if_neg h1, if_neg h2]
          simp only
          omega
  · rw [dec_beg hb] at h
    exact absurd h hb
theorem RB.grown {w w' : World} {B : Nat} {A : Option Addr} {xs : List UInt8} {row : Option Nat} (h : RB w B A xs) (hg : w.grownBy w' row) (hB : B ≤ w.heap.size) (hne : ∀ j, A.map (·.block) = some j → xs = [] ∨ row ≠ some j) : RB w' w'.heap.size A xs := by
  refine ⟨h.1, fun hn => ?_⟩
  obtain ⟨b, o, rfl, hb, hc⟩ := h.2 hn
  have hbw : b < w.heap.size := Nat.lt_of_lt_of_le hb hB
  refine ⟨b, o, rfl, Nat.lt_of_lt_of_le hbw hg.size, fun j v hv => ?_⟩
  have h1 : w'.heap[b]? = w.heap[b]? := hg.block b hbw (fun e => by
    rcases hne b rfl with h2 | h2
    · subst h2; simp at hn
    · exact h2 e.symm)
  rw [World.cell?_of_block (w := w) (a := ⟨b, o + j, none⟩) h1]
  exact hc j v hv
theorem elemRec : ElemT Try.prog 50 27 3 40 := ElemT.mk_ (z := .agg #[.int .i64 0, .int .i64 0, .slice none 0 0]) (by kernel_rfl) (by kernel_rfl) rfl (by decide)
theorem reads_new (w : World) (vs : List Value) (t : TypeId) (size : Nat) (hs : vs.length = size) : Reads (w.alloc (.cells vs.toArray t)) (w.heap.size + 1) size (some ⟨w.heap.size, 0, none⟩) 1 vs := by
  refine ⟨by omega, fun _ => ⟨w.heap.size, 0, rfl, by omega, fun j v hv => ?_⟩⟩
  rw [(Blk.new w t vs.toArray).cell]
  simpa using hv
theorem rb_block {w : World} {B : Nat} {A : Option Addr} {xs : List UInt8} (h : RB w B A xs) (hx : xs ≠ []) (j : Nat) (hj : A.map (·.block) = some j) : j < B := by
  obtain ⟨b, o, rfl, hb, _⟩ := h.2 (by cases xs with | nil => exact absurd rfl hx | cons x xs => simp)
  simp at hj
  omega

def ScanPost (ss : List Sec) (q : Int) (w : World) (e : Ending) (w' : World) : Prop :=
  ∃ A c, e = .returned (.tuple #[.slice A (scanF (ss.length + 1) ss q).1.length c, .int .i64 ((scanF (ss.length + 1) ss q).2 : Nat)]) ∧ RR w' w'.heap.size A (scanF (ss.length + 1) ss q).1 ∧ (scanF (ss.length + 1) ss q).1.length ≤ 1000000 ∧ Below w.heap.size w w'
/-- The records' payloads lie elsewhere than the list. -/
def Apart (wr : World) (B : Option Addr) (acc : List Rc) (Ps : List (Option Addr × Nat)) : Prop :=
  ∀ i (h : i < acc.length) (h' : i < Ps.length), RB wr wr.heap.size Ps[i].1 acc[i].p ∧ ∀ j, Ps[i].1.map (·.block) = some j → acc[i].p = [] ∨ B.map (·.block) ≠ some j
theorem Apart.below {w w' : World} {B : Option Addr} {acc : List Rc} {Ps : List (Option Addr × Nat)} (h : Apart w B acc Ps) (hb : Below w.heap.size w w') : Apart w' B acc Ps := fun i h1 h2 =>
  ⟨((h i h1 h2).1.below hb).more hb.size, (h i h1 h2).2⟩
theorem Apart.app {w w' : World} {B B' : Option Addr} {acc : List Rc} {Ps : List (Option Addr × Nat)} (h : Apart w B acc Ps) (hp : Ps.length = acc.length) (hg : w.grownBy w' (B.map (·.block))) (hl : Lies w.heap.size B B') (r : Rc) (P : Option Addr × Nat)
    (hr : RB w w.heap.size P.1 r.p) (hne : ∀ j, P.1.map (·.block) = some j → r.p = [] ∨ B.map (·.block) ≠ some j) : Apart w' B' (acc ++ [r]) (Ps ++ [P]) := by
  have key : ∀ (p : List UInt8) (X : Option Addr), RB w w.heap.size X p → (∀ j, X.map (·.block) = some j → p = [] ∨ B.map (·.block) ≠ some j) → RB w' w'.heap.size X p ∧ ∀ j, X.map (·.block) = some j → p = [] ∨ B'.map (·.block) ≠ some j := by
    intro p X h1 h2
    refine ⟨h1.grown hg (Nat.le_refl _) h2, fun j hj => ?_⟩
    by_cases hp0 : p = []
    · exact .inl hp0
    · right
      have hlt := rb_block h1 hp0 j hj
      rcases hl with h3 | h3
      · rw [h3]; exact (h2 j hj).resolve_left hp0
      · rw [h3]; intro e; injection e with e; omega
  intro i h1 h2
  by_cases hi : i < acc.length
  · have := h i hi (by omega)
    rw [List.getElem_append_left hi, List.getElem_append_left (by omega)]
    exact key _ _ this.1 this.2
  · have hi2 : i = acc.length := by simp at h1; omega
    subst hi2
    rw [List.getElem_append_right (by omega), List.getElem_append_right (by omega)]
    simp only [Nat.sub_self, List.getElem_cons_zero, hp]
    exact key _ _ hr hne
theorem scanF_stop (f : Nat) (ss : List Sec) (q : Int) (h : q < 1 ∨ (dec ss).err ≠ 0 ∨ ((dec ss).seq : Int) ≠ q) : scanF f ss q = ([], 0) := by
  cases f with
  | zero => rfl
  | succ f =>
    unfold scanF
    by_cases h1 : q < 1
    · rw [if_pos h1]
    · rw [if_neg h1, if_pos (h.resolve_left h1)]
theorem scanF_step (f : Nat) (ss : List Sec) (q : Int) (h1 : ¬ q < 1) (h2 : (dec ss).err = 0) (h3 : ((dec ss).seq : Int) = q) :
    scanF (f + 1) ss q = (⟨(dec ss).kind, q, (dec ss).payload⟩ :: (scanF f (ss.drop (dec ss).n) (q + 1)).1, (dec ss).n + (scanF f (ss.drop (dec ss).n) (q + 1)).2) := by
  conv => lhs; unfold scanF
  rw [if_neg h1, if_neg (by rintro (h | h) <;> exact absurd (by assumption) h)]

attribute [local irreducible] Blk str
set_option maxRecDepth 100000 in
set_option maxHeartbeats 400000 in
theorem scan_any (A : Option Addr) (L c : Nat) (ss : List Sec) (hn : ss.length = L) (hc : L ≤ c) (h64 : c ≤ 9223372036854775807) (hL : L ≤ 1000000) (q : Int) (hq : -9223372036854775808 ≤ q ∧ q ≤ 9223372036854775807) (w : World) (hR : RS w w.heap.size A ss) :
    Calls Try.prog 21 #[.slice A L c, .int .i64 q] w (ScanPost ss q w) := by
  obtain ⟨Tot, hTot⟩ : ∃ Tot, Tot = scanF (ss.length + 1) ss q := ⟨_, rfl⟩
  unfold ScanPost
  rw [← hTot]
  have HT := Lib.hid hTot
  have HN := Lib.hid hn
  have HR := Lib.hid hR
  have hz := zeroRecE
  clear hTot hn hR
  go_enter Try.func21, Try.ntmps21
  go_wp2_with fail
  go_loopw [1, 6, 7] (fun vq vo vn wr => ∃ (Q : Int) (m f : Nat) (acc : List Rc) (Ps : List (Option Addr × Nat)) (B : Option Addr) (d : Nat), vq = .int .i64 Q ∧ (-9223372036854775808 ≤ Q ∧ Q ≤ 9223372036854775807) ∧ vn = .int .i64 m ∧ m ≤ L ∧ vo = .slice B acc.length d ∧ acc.length ≤ m ∧ L - m < f ∧
      Tot = (acc ++ (scanF f (ss.drop m) Q).1, m + (scanF f (ss.drop m) Q).2) ∧ Ps.length = acc.length ∧ Own wr w.heap.size 27 3 B acc.length d (rcsCells acc Ps) ∧ Apart wr B acc Ps ∧ Below w.heap.size w wr)
    (fun _ _ vn _ => L - (intOf vn).toNat)
  case atStart => exact ⟨q, 0, L + 1, [], [], none, 0, rfl, hq, rfl, Nat.zero_le _, rfl, Nat.zero_le _, by omega, by rw [HT.out, HN.out]; simp, rfl, Own.nil_ _ _ _ _, fun i h => by simp at h, Below.refl _ _⟩
  case round =>
    obtain ⟨Q, m, f, acc, Ps, B, d, rfl, hQ, rfl, hm, rfl, hacc, hf, htot, hps, ho, hap, hB⟩ := hrel
    have HTT := Lib.hid htot
    have HPS := Lib.hid hps
    have HO := Lib.hid ho
    have HAP := Lib.hid hap
    clear htot hps ho hap
    have hstop : ∀ W' : World, (Q < 1 ∨ (dec (ss.drop m)).err ≠ 0 ∨ ((dec (ss.drop m)).seq : Int) ≠ Q) → Below wr.heap.size wr W' → ∃ A c, Ending.returned (.tuple #[.slice B acc.length d, .int .i64 m]) = .returned (.tuple #[.slice A Tot.1.length c, .int .i64 (Tot.2 : Nat)]) ∧ RR W' W'.heap.size A Tot.1 ∧ Tot.1.length ≤ 1000000 ∧ Below w.heap.size w W' := by
      intro W' h hBW
      have h1 := HTT.out
      rw [scanF_stop f _ _ h] at h1
      simp only [List.append_nil, Nat.add_zero] at h1
      refine ⟨B, d, by rw [h1], ?_, by rw [h1]; simp only; omega, hB.trans (hBW.mono hB.size)⟩
      rw [h1]
      exact ⟨Ps, HPS.out, (HO.out.below hBW).reads, fun i h h' => ((HAP.out.below hBW) i h h').1⟩
    have HSTOP := Lib.hid hstop
    clear hstop
    by_cases hlt : Q < 1
    · have hd1 : ¬ (1 : Int) ≤ Q := by omega
      go_wp2_with fail
      go_ret2
      obtain ⟨A', c', h1, h2⟩ := HSTOP.out wr (.inl hlt) (Below.refl _ _)
      first | exact ⟨A', ⟨c', h1⟩, h2⟩ | exact ⟨A', c', h1, h2⟩
    · have hd1 : (1 : Int) ≤ Q := by omega
      go_wp2_with (first
        | ((with_reducible show Go.wpList _ _ _ (Go.Oper.mk _ (Go.Op.slice _ _ _ _ _) _ _ _ _ :: _) _ _); refine wpList_cut _ rfl (.tmp 14) (.tmp 15) 28 rfl A L c m rfl rfl hm (by kernel_rfl) 8 (by kernel_rfl) ?_))
      have hRm : RS wr wr.heap.size (cutAt A c m 8) (ss.drop m) := ((HR.out.below hB).more hB.size).cut (by rw [HN.out]; exact hm) (by rw [HN.out]; exact hc)
      refine (decode_any _ (L - m) (c - m) (ss.drop m) (by rw [List.length_drop, HN.out]) (by omega) (by omega) wr hRm).mono ?_
      rintro e w1 ⟨P1, c1, rfl, ho1, hB1⟩
      have hdn := dec_n (ss := ss.drop m)
      rw [List.length_drop, HN.out] at hdn
      have hstep := scanF_step (f - 1) (ss.drop m) Q (by omega)
      have hss := HSTOP.out
      obtain ⟨k, hk⟩ : ∃ k, k = (dec (ss.drop m)).kind := ⟨_, rfl⟩
      obtain ⟨sq, hsq⟩ : ∃ sq, sq = (dec (ss.drop m)).seq := ⟨_, rfl⟩
      obtain ⟨mm, hmm⟩ : ∃ mm, mm = (dec (ss.drop m)).n := ⟨_, rfl⟩
      obtain ⟨er, her⟩ : ∃ er, er = (dec (ss.drop m)).err := ⟨_, rfl⟩
      obtain ⟨xs, hxs⟩ : ∃ xs, xs = (dec (ss.drop m)).payload := ⟨_, rfl⟩
      rw [← hk, ← hsq, ← hmm, ← her, ← hxs]
      rw [← hxs] at ho1
      rw [← hsq, ← hmm, ← her] at hdn
      rw [← hk, ← hsq, ← hmm, ← her, ← hxs] at hstep
      rw [← hsq, ← her] at hss
      clear hk hsq hmm her hxs hRm HSTOP
      obtain ⟨W1, hW1⟩ : ∃ W1, w1.alloc (.cells #[.int .i64 k, .int .i64 sq, .slice P1 xs.length c1] 27) = W1 := ⟨_, rfl⟩
      have hB1' : Below w1.heap.size w1 W1 := by rw [← hW1]; exact (Below.refl _ w1).alloc (Nat.le_refl _) _
      have hb1 : Blk W1 w1.heap.size 27 #[.int .i64 k, .int .i64 sq, .slice P1 xs.length c1] := by rw [← hW1]; exact Blk.new _ _ _
      have a0 : W1.cell? ⟨w1.heap.size, 0, none⟩ = some (.int .i64 k) := hb1.cell_of (i := 0) rfl
      have a1 : W1.cell? ⟨w1.heap.size, 1, none⟩ = some (.int .i64 sq) := hb1.cell_of (i := 1) rfl
      have a2 : W1.cell? ⟨w1.heap.size, 2, none⟩ = some (.slice P1 xs.length c1) := hb1.cell_of (i := 2) rfl
      have hBW1 := hB1.trans (hB1'.mono hB1.size)
      have hoW := HO.out.below hBW1
      have hapW := HAP.out.below hBW1
      have hpb : ∀ j, P1.map (·.block) = some j → xs = [] ∨ B.map (·.block) ≠ some j := by
        intro j hj
        right
        intro e
        have h1 := (ho1.block j hj).1
        have h2 := (HO.out.block j e).2
        omega
      have hrb1 : RB W1 W1.heap.size P1 xs := Reads.more (Reads.below (show RB w1 w1.heap.size P1 xs from ho1.reads) hB1') hB1'.size
      have HSS := Lib.hid hss
      have HSTEP := Lib.hid hstep
      have HOW := Lib.hid hoW
      have HAPW := Lib.hid hapW
      have HPB := Lib.hid hpb
      have HRB1 := Lib.hid hrb1
      have HDN := Lib.hid hdn
      clear hss hstep hoW hapW hpb hrb1 ho1 hb1 hdn
      by_cases he : er = 0
      · have he1 : ((er : Int) == 0) = true := by simp [he]
        by_cases hqq : (sq : Int) = Q
        · have hq1 : ((sq : Int) == Q) = true := by simp [hqq]
          obtain ⟨n1, n2, n3, n4⟩ := HDN.out he
          have hrec := HSTEP.out he hqq
          have HREC := Lib.hid hrec
          have hQ2 : Q < 4294967296 := by omega
          have HQQ := Lib.hid hqq
          subst he
          clear hrec hqq
          have hBe : Below wr.heap.size wr (W1.alloc (.cells #[.int .i64 k, .int .i64 sq, .slice P1 xs.length c1] 27)) := hBW1.trans (((Below.refl _ W1).alloc (Nat.le_refl _) _).mono hBW1.size)
          have hBew := hB.trans (hBe.mono hB.size)
          have HOE := Lib.hid (HOW.out.alloc (.cells #[.int .i64 k, .int .i64 sq, .slice P1 xs.length c1] 27))
          have HAPE := Lib.hid (HAPW.out.below ((Below.refl _ W1).alloc (Nat.le_refl _) (.cells #[.int .i64 k, .int .i64 sq, .slice P1 xs.length c1] 27)))
          have HRBE := Lib.hid (Reads.more (Reads.below HRB1.out ((Below.refl _ W1).alloc (Nat.le_refl _) (.cells #[.int .i64 k, .int .i64 sq, .slice P1 xs.length c1] 27))) (by simp : W1.heap.size ≤ (W1.alloc (.cells #[.int .i64 k, .int .i64 sq, .slice P1 xs.length c1] 27)).heap.size))
          go_wp2_with (first
            | ((with_reducible show Go.wpList _ _ _ (Go.Oper.mk _ (Go.Op.call { callee := Go.Callee.builtin Go.Builtin.append, args := _, argTypes := _ }) _ _ _ _ :: _) _ _)
               refine wpList_app _ rfl (.tmp 29) (.tmp 31) 50 rfl 27 3 40 elemRec w.heap.size B acc.length d (rcsCells acc Ps) rfl HOE.out (W1.heap.size + 1) (some ⟨W1.heap.size, 0, none⟩) 1 1 [.int .i64 k, .int .i64 sq, .slice P1 xs.length c1] rfl (reads_new W1 _ _ 3 rfl) (by simp [Value.oneCell']) (acc.length + 1) rfl (rcsCells (acc ++ [⟨k, sq, xs⟩]) (Ps ++ [(P1, c1)])) (by rw [rcsCells_snoc _ _ _ _ HPS.out]; rfl) (by simp only [maxLen]; omega) (by omega) hBew.size ?_
               intro A7 c7 w7 ho7 hg7 hl7
               have hap7 := HAPE.out.app HPS.out hg7 hl7 ⟨k, sq, xs⟩ (P1, c1) HRBE.out HPB.out
               have hB7 : Below w.heap.size w w7 := below_app hBew hBew.size (fun j hj => (HO.out.block j hj).1) hg7
               have HO7 := Lib.hid ho7
               have HAP7 := Lib.hid hap7
               clear ho7 hg7 hl7 hap7))
          go_roundw
          case rel =>
            refine ⟨Q + 1, m + mm, f - 1, acc ++ [⟨k, sq, xs⟩], Ps ++ [(P1, c1)], A7, c7, ?_, by omega, ?_, by omega, ?_, by rw [List.length_append]; simp only [List.length_cons, List.length_nil]; omega, by omega, ?_, by simp [HPS.out], ?_, HAP7.out, hB7⟩
            · go_num
            · go_num
            · rw [List.length_append]; rfl
            · have h1 := HTT.out
              rw [show f = f - 1 + 1 by omega, HREC.out, List.drop_drop] at h1
              rw [h1, ← HQQ.out]
              simp [Nat.add_assoc]
            · rw [List.length_append]; exact HO7.out
          case measure => simp [intOf]; omega
        · have hq1 : ((sq : Int) == Q) = false := by simpa using hqq
          subst he
          have HQQ := Lib.hid hqq
          clear hqq
          go_wp2_with fail
          go_ret2
          obtain ⟨A', c', h1, h2⟩ := HSS.out W1 (.inr (.inr HQQ.out)) hBW1
          first | exact ⟨A', ⟨c', h1⟩, h2⟩ | exact ⟨A', c', h1, h2⟩
      · have he1 : ((er : Int) == 0) = false := by simpa using he
        have HE := Lib.hid he
        clear he
        go_wp2_with fail
        go_ret2
        obtain ⟨A', c', h1, h2⟩ := HSS.out W1 (.inr (.inl HE.out)) hBW1
        first | exact ⟨A', ⟨c', h1⟩, h2⟩ | exact ⟨A', c', h1, h2⟩
set_option maxRecDepth 100000 in
set_option maxHeartbeats 400000 in
theorem refscan_any (A : Option Addr) (L c : Nat) (ss : List Sec) (hn : ss.length = L) (hc : L ≤ c) (h64 : c ≤ 9223372036854775807) (hL : L ≤ 1000000) (q : Int) (hq : -9223372036854775808 ≤ q ∧ q ≤ 9223372036854775807) (w : World) (hR : RS w w.heap.size A ss) :
    Calls Try.prog 22 #[.slice A L c, .int .i64 q] w (ScanPost ss q w) := by
  obtain ⟨Tot, hTot⟩ : ∃ Tot, Tot = scanF (ss.length + 1) ss q := ⟨_, rfl⟩
  unfold ScanPost
  rw [← hTot]
  have HT := Lib.hid hTot
  have HN := Lib.hid hn
  have HR := Lib.hid hR
  have hz := zeroRecE
  clear hTot hn hR
  go_enter Try.func22, Try.ntmps22
  go_wp2_with fail
  go_loopw [1, 6, 7] (fun vq vo vn wr => ∃ (Q : Int) (m f : Nat) (acc : List Rc) (Ps : List (Option Addr × Nat)) (B : Option Addr) (d : Nat), vq = .int .i64 Q ∧ (-9223372036854775808 ≤ Q ∧ Q ≤ 9223372036854775807) ∧ vn = .int .i64 m ∧ m ≤ L ∧ vo = .slice B acc.length d ∧ acc.length ≤ m ∧ L - m < f ∧
      Tot = (acc ++ (scanF f (ss.drop m) Q).1, m + (scanF f (ss.drop m) Q).2) ∧ Ps.length = acc.length ∧ Own wr w.heap.size 27 3 B acc.length d (rcsCells acc Ps) ∧ Apart wr B acc Ps ∧ Below w.heap.size w wr)
    (fun _ _ vn _ => L - (intOf vn).toNat)
  case atStart => exact ⟨q, 0, L + 1, [], [], none, 0, rfl, hq, rfl, Nat.zero_le _, rfl, Nat.zero_le _, by omega, by rw [HT.out, HN.out]; simp, rfl, Own.nil_ _ _ _ _, fun i h => by simp at h, Below.refl _ _⟩
  case round =>
    obtain ⟨Q, m, f, acc, Ps, B, d, rfl, hQ, rfl, hm, rfl, hacc, hf, htot, hps, ho, hap, hB⟩ := hrel
    have HTT := Lib.hid htot
    have HPS := Lib.hid hps
    have HO := Lib.hid ho
    have HAP := Lib.hid hap
    clear htot hps ho hap
    have hstop : ∀ W' : World, (Q < 1 ∨ (dec (ss.drop m)).err ≠ 0 ∨ ((dec (ss.drop m)).seq : Int) ≠ Q) → Below wr.heap.size wr W' → ∃ A c, Ending.returned (.tuple #[.slice B acc.length d, .int .i64 m]) = .returned (.tuple #[.slice A Tot.1.length c, .int .i64 (Tot.2 : Nat)]) ∧ RR W' W'.heap.size A Tot.1 ∧ Tot.1.length ≤ 1000000 ∧ Below w.heap.size w W' := by
      intro W' h hBW
      have h1 := HTT.out
      rw [scanF_stop f _ _ h] at h1
      simp only [List.append_nil, Nat.add_zero] at h1
      refine ⟨B, d, by rw [h1], ?_, by rw [h1]; simp only; omega, hB.trans (hBW.mono hB.size)⟩
      rw [h1]
      exact ⟨Ps, HPS.out, (HO.out.below hBW).reads, fun i h h' => ((HAP.out.below hBW) i h h').1⟩
    have HSTOP := Lib.hid hstop
    clear hstop
    by_cases hlt : Q < 1
    · have hd1 : ¬ (1 : Int) ≤ Q := by omega
      go_wp2_with fail
      go_ret2
      obtain ⟨A', c', h1, h2⟩ := HSTOP.out wr (.inl hlt) (Below.refl _ _)
      first | exact ⟨A', ⟨c', h1⟩, h2⟩ | exact ⟨A', c', h1, h2⟩
    · have hd1 : (1 : Int) ≤ Q := by omega
      go_wp2_with (first
        | ((with_reducible show Go.wpList _ _ _ (Go.Oper.mk _ (Go.Op.slice _ _ _ _ _) _ _ _ _ :: _) _ _); refine wpList_cut _ rfl (.tmp 14) (.tmp 15) 28 rfl A L c m rfl rfl hm (by kernel_rfl) 8 (by kernel_rfl) ?_))
      have hRm : RS wr wr.heap.size (cutAt A c m 8) (ss.drop m) := ((HR.out.below hB).more hB.size).cut (by rw [HN.out]; exact hm) (by rw [HN.out]; exact hc)
      refine (refdecode_any _ (L - m) (c - m) (ss.drop m) (by rw [List.length_drop, HN.out]) (by omega) (by omega) wr hRm).mono ?_
      rintro e w1 ⟨P1, c1, rfl, ho1, hB1⟩
      have hdn := dec_n (ss := ss.drop m)
      rw [List.length_drop, HN.out] at hdn
      have hstep := scanF_step (f - 1) (ss.drop m) Q (by omega)
      have hss := HSTOP.out
      obtain ⟨k, hk⟩ : ∃ k, k = (dec (ss.drop m)).kind := ⟨_, rfl⟩
      obtain ⟨sq, hsq⟩ : ∃ sq, sq = (dec (ss.drop m)).seq := ⟨_, rfl⟩
      obtain ⟨mm, hmm⟩ : ∃ mm, mm = (dec (ss.drop m)).n := ⟨_, rfl⟩
      obtain ⟨er, her⟩ : ∃ er, er = (dec (ss.drop m)).err := ⟨_, rfl⟩
      obtain ⟨xs, hxs⟩ : ∃ xs, xs = (dec (ss.drop m)).payload := ⟨_, rfl⟩
      rw [← hk, ← hsq, ← hmm, ← her, ← hxs]
      rw [← hxs] at ho1
      rw [← hsq, ← hmm, ← her] at hdn
      rw [← hk, ← hsq, ← hmm, ← her, ← hxs] at hstep
      rw [← hsq, ← her] at hss
      clear hk hsq hmm her hxs hRm HSTOP
      obtain ⟨W1, hW1⟩ : ∃ W1, w1.alloc (.cells #[.int .i64 k, .int .i64 sq, .slice P1 xs.length c1] 27) = W1 := ⟨_, rfl⟩
      have hB1' : Below w1.heap.size w1 W1 := by rw [← hW1]; exact (Below.refl _ w1).alloc (Nat.le_refl _) _
      have hb1 : Blk W1 w1.heap.size 27 #[.int .i64 k, .int .i64 sq, .slice P1 xs.length c1] := by rw [← hW1]; exact Blk.new _ _ _
      have a0 : W1.cell? ⟨w1.heap.size, 0, none⟩ = some (.int .i64 k) := hb1.cell_of (i := 0) rfl
      have a1 : W1.cell? ⟨w1.heap.size, 1, none⟩ = some (.int .i64 sq) := hb1.cell_of (i := 1) rfl
      have a2 : W1.cell? ⟨w1.heap.size, 2, none⟩ = some (.slice P1 xs.length c1) := hb1.cell_of (i := 2) rfl
      have hBW1 := hB1.trans (hB1'.mono hB1.size)
      have hoW := HO.out.below hBW1
      have hapW := HAP.out.below hBW1
      have hpb : ∀ j, P1.map (·.block) = some j → xs = [] ∨ B.map (·.block) ≠ some j := by
        intro j hj
        right
        intro e
        have h1 := (ho1.block j hj).1
        have h2 := (HO.out.block j e).2
        omega
      have hrb1 : RB W1 W1.heap.size P1 xs := Reads.more (Reads.below (show RB w1 w1.heap.size P1 xs from ho1.reads) hB1') hB1'.size
      have HSS := Lib.hid hss
      have HSTEP := Lib.hid hstep
      have HOW := Lib.hid hoW
      have HAPW := Lib.hid hapW
      have HPB := Lib.hid hpb
      have HRB1 := Lib.hid hrb1
      have HDN := Lib.hid hdn
      clear hss hstep hoW hapW hpb hrb1 ho1 hb1 hdn
      by_cases he : er = 0
      · have he1 : ((er : Int) == 0) = true := by simp [he]
        by_cases hqq : (sq : Int) = Q
        · have hq1 : ((sq : Int) == Q) = true := by simp [hqq]
          obtain ⟨n1, n2, n3, n4⟩ := HDN.out he
          have hrec := HSTEP.out he hqq
          have HREC := Lib.hid hrec
          have hQ2 : Q < 4294967296 := by omega
          have HQQ := Lib.hid hqq
          subst he
          clear hrec hqq
          have hBe : Below wr.heap.size wr (W1.alloc (.cells #[.int .i64 k, .int .i64 sq, .slice P1 xs.length c1] 27)) := hBW1.trans (((Below.refl _ W1).alloc (Nat.le_refl _) _).mono hBW1.size)
          have hBew := hB.trans (hBe.mono hB.size)
          have HOE := Lib.hid (HOW.out.alloc (.cells #[.int .i64 k, .int .i64 sq, .slice P1 xs.length c1] 27))
          have HAPE := Lib.hid (HAPW.out.below ((Below.refl _ W1).alloc (Nat.le_refl _) (.cells #[.int .i64 k, .int .i64 sq, .slice P1 xs.length c1] 27)))
          have HRBE := Lib.hid (Reads.more (Reads.below HRB1.out ((Below.refl _ W1).alloc (Nat.le_refl _) (.cells #[.int .i64 k, .int .i64 sq, .slice P1 xs.length c1] 27))) (by simp : W1.heap.size ≤ (W1.alloc (.cells #[.int .i64 k, .int .i64 sq, .slice P1 xs.length c1] 27)).heap.size))
          go_wp2_with (first
            | ((with_reducible show Go.wpList _ _ _ (Go.Oper.mk _ (Go.Op.call { callee := Go.Callee.builtin Go.Builtin.append, args := _, argTypes := _ }) _ _ _ _ :: _) _ _)
               refine wpList_app _ rfl (.tmp 29) (.tmp 31) 50 rfl 27 3 40 elemRec w.heap.size B acc.length d (rcsCells acc Ps) rfl HOE.out (W1.heap.size + 1) (some ⟨W1.heap.size, 0, none⟩) 1 1 [.int .i64 k, .int .i64 sq, .slice P1 xs.length c1] rfl (reads_new W1 _ _ 3 rfl) (by simp [Value.oneCell']) (acc.length + 1) rfl (rcsCells (acc ++ [⟨k, sq, xs⟩]) (Ps ++ [(P1, c1)])) (by rw [rcsCells_snoc _ _ _ _ HPS.out]; rfl) (by simp only [maxLen]; omega) (by omega) hBew.size ?_
               intro A7 c7 w7 ho7 hg7 hl7
               have hap7 := HAPE.out.app HPS.out hg7 hl7 ⟨k, sq, xs⟩ (P1, c1) HRBE.out HPB.out
               have hB7 : Below w.heap.size w w7 := below_app hBew hBew.size (fun j hj => (HO.out.block j hj).1) hg7
               have HO7 := Lib.hid ho7
               have HAP7 := Lib.hid hap7
               clear ho7 hg7 hl7 hap7))
          go_roundw
          case rel =>
            refine ⟨Q + 1, m + mm, f - 1, acc ++ [⟨k, sq, xs⟩], Ps ++ [(P1, c1)], A7, c7, ?_, by omega, ?_, by omega, ?_, by rw [List.length_append]; simp only [List.length_cons, List.length_nil]; omega, by omega, ?_, by simp [HPS.out], ?_, HAP7.out, hB7⟩
            · go_num
            · go_num
            · rw [List.length_append]; rfl
            · have h1 := HTT.out
              rw [show f = f - 1 + 1 by omega, HREC.out, List.drop_drop] at h1
              rw [h1, ← HQQ.out]
              simp [Nat.add_assoc]
            · rw [List.length_append]; exact HO7.out
          case measure => simp [intOf]; omega
        · have hq1 : ((sq : Int) == Q) = false := by simpa using hqq
          subst he
          have HQQ := Lib.hid hqq
          clear hqq
          go_wp2_with fail
          go_ret2
          obtain ⟨A', c', h1, h2⟩ := HSS.out W1 (.inr (.inr HQQ.out)) hBW1
          first | exact ⟨A', ⟨c', h1⟩, h2⟩ | exact ⟨A', c', h1, h2⟩
      · have he1 : ((er : Int) == 0) = false := by simpa using he
        have HE := Lib.hid he
        clear he
        go_wp2_with fail
        go_ret2
        obtain ⟨A', c', h1, h2⟩ := HSS.out W1 (.inr (.inl HE.out)) hBW1
        first | exact ⟨A', ⟨c', h1⟩, h2⟩ | exact ⟨A', c', h1, h2⟩
end Go.Proofs.Ytejoofeoffehmaa
