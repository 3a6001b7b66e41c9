/- RecordFinds: the walk. -/
import Derived.Test.YtejoofeoffehmaaLR5
import Derived.Test.YtejoofeoffehmaaRt4
namespace Go.Proofs.Ytejoofeoffehmaa
open Go.RowKit

theorem Behind.more {tail : List Sec} {q k n : Nat} {p : List UInt8} (h : Behind tail q) (h1 : 1 ≤ k) (h2 : k ≤ 255) (h3 : q < n) (h4 : n ≤ 4294967295) (h5 : p.length ≤ 4096) : Behind (tail ++ encSecs k n p) q := by
  rcases h with rfl | ⟨k', q', p', m', g1, g2, g3, g4, g5, rfl⟩
  · exact .inr ⟨k, n, p, [], h1, h2, h3, h4, h5, by simp⟩
  · exact .inr ⟨k', q', p', m' ++ encSecs k n p, g1, g2, g3, g4, g5, by simp⟩
theorem Fit.snoc {l : List (Nat × List UInt8)} (h : Fit l) {k : Nat} {p : List UInt8} (h1 : 1 ≤ k) (h2 : k ≤ 255) (h3 : p.length ≤ 4096) : Fit (l ++ [(k, p)]) := by
  intro x hx
  rcases List.mem_append.1 hx with h4 | h4
  · exact h x h4
  · rw [List.mem_singleton] at h4; subst h4; exact ⟨h1, h2, h3⟩
/-- An append to another list leaves this one. -/
theorem apart_kept {w w' : World} {B : Option Addr} {acc : List Rc} {Ps : List (Option Addr × Nat)} {X : Option Addr} (h : Apart w B acc Ps) (hg : w.grownBy w' (X.map (·.block)))
    (hX : ∀ i (h : i < acc.length) (h' : i < Ps.length) j, Ps[i].1.map (·.block) = some j → acc[i].p = [] ∨ X.map (·.block) ≠ some j) : Apart w' B acc Ps := fun i h1 h2 =>
  ⟨(h i h1 h2).1.grown hg (Nat.le_refl _) (hX i h1 h2), (h i h1 h2).2⟩
/-- The payloads lie below a block. -/
def Under (m : Nat) (acc : List Rc) (Ps : List (Option Addr × Nat)) : Prop := ∀ i (h : i < acc.length) (h' : i < Ps.length) j, Ps[i].1.map (·.block) = some j → acc[i].p = [] ∨ j < m
theorem Under.snoc {m : Nat} {acc : List Rc} {Ps : List (Option Addr × Nat)} (h : Under m acc Ps) (hp : Ps.length = acc.length) (r : Rc) (P : Option Addr × Nat) (hr : ∀ j, P.1.map (·.block) = some j → r.p = [] ∨ j < m) : Under m (acc ++ [r]) (Ps ++ [P]) := by
  intro i h1 h2
  by_cases hi : i < acc.length
  · rw [List.getElem_append_left hi, List.getElem_append_left (by omega)]
    exact h i hi (by omega)
  · have hi2 : i = acc.length := by simp at h1; omega
    subst hi2
    rw [List.getElem_append_right (by omega), List.getElem_append_right (by omega)]
    simp only [Nat.sub_self, List.getElem_cons_zero, hp]
    exact hr

attribute [local irreducible] Blk str
set_option maxRecDepth 100000 in
set_option maxHeartbeats 600000 in
theorem law_RecordFinds {w : World} (A : Option Addr) (c : Nat) (rs : List Rc) (hl : rs.length ≤ c) (hc : c ≤ maxLen) (hR : RR w w.heap.size A rs) (gap skip : UInt8) :
    Calls Try.prog 10 #[.slice A rs.length c, .int .u8 gap.toNat, .int .u8 skip.toNat] w fun e w' => e = .returned (.bool true) ∧ Below w.heap.size w w' := by
  have hl63 : rs.length ≤ 9223372036854775807 := by simp only [maxLen] at hc; omega
  have hz := zeroRecE
  have HR := Lib.hid hR
  clear hR hc hl
  generalize hL : rs.length = L at *
  have HN := Lib.hid hL
  clear hL
  have hG := gap.toNat_lt
  have hS := skip.toNat_lt
  generalize gap.toNat = G at *
  generalize skip.toNat = S at *
  go_enter Try.func10, Try.ntmps10
  by_cases hbig : 8 < L
  · go_wp2_with fail
    refine (awake_any _).mono ?_
    rintro e w1 ⟨rfl, hB1⟩
    go_wp2_with fail
    go_ret
    exact ⟨rfl, hB1⟩
  · go_wp2_with fail
    go_loopw [7, 8, 9, 10, 11] (fun va vw vn vu vi wr => ∃ (i : Nat) (l : List (Nat × List UInt8)) (tail : List Sec) (n : Nat) (X : Option Addr) (c1 : Nat) (Y : Option Addr) (c2 : Nat) (Ps : List (Option Addr × Nat)), i ≤ L ∧ vi = .int .i64 i ∧ vn = .int .i64 n ∧
        va = .slice X ((encAll 5 l).length + tail.length) c1 ∧ vw = .slice Y l.length c2 ∧ vu = .int .i64 ((encAll 5 l).length : Nat) ∧ (Fit l ∧ Behind tail (5 + l.length)) ∧ (n ≤ 300 + i ∧ l.length ≤ i ∧ (encAll 5 l).length + tail.length ≤ 20 * i) ∧
        ((i ≤ G ∧ l.length = i ∧ n = 5 + i) ∨ (G < i ∧ 5 + l.length < n)) ∧
        Own wr w.heap.size 47 8 X ((encAll 5 l).length + tail.length) c1 (secsCells (encAll 5 l ++ tail)) ∧ Ps.length = l.length ∧ Own wr w.heap.size 27 3 Y l.length c2 (rcsCells (recsOf 5 l) Ps) ∧
        Apart wr Y (recsOf 5 l) Ps ∧ Under w.heap.size (recsOf 5 l) Ps ∧ (∀ j, X.map (·.block) = some j → Y.map (·.block) ≠ some j) ∧ Below w.heap.size w wr ∧ (G < i ∨ tail = []))
      (fun _ _ _ _ vi _ => L - (intOf vi).toNat)
    case atStart => exact ⟨0, [], [], 5, none, 0, none, 0, [], Nat.zero_le _, rfl, rfl, rfl, rfl, rfl, ⟨fun x hx => (by cases hx), .inl rfl⟩, ⟨by omega, Nat.zero_le _, by simp [encAll]⟩, .inl ⟨Nat.zero_le _, rfl, rfl⟩, Own.nil_ _ _ _ _, rfl, Own.nil_ _ _ _ _, fun i h => (by simp [recsOf] at h), fun i h => (by simp [recsOf] at h), fun j h => (by cases h), Below.refl _ _, .inr rfl⟩
    case round =>
      obtain ⟨i, l, tail, n, X, c1, Y, c2, Ps, hi, rfl, rfl, rfl, rfl, rfl, ⟨hfit, hbeh⟩, ⟨hn3, hli, hsz⟩, hph, hox, hps, hoy, hap, hun, hxy, hB, htl⟩ := hrel
      obtain ⟨E, hE⟩ : ∃ E, E = (encAll 5 l).length := ⟨_, rfl⟩
      obtain ⟨T, hT⟩ : ∃ T, T = tail.length := ⟨_, rfl⟩
      obtain ⟨m, hm⟩ : ∃ m, m = l.length := ⟨_, rfl⟩
      rw [← hE, ← hT] at hox hsz
      rw [← hm] at hoy hps hli hbeh hph
      rw [← hE, ← hT, ← hm]
      have HE := Lib.hid hE
      have HT := Lib.hid hT
      have HM := Lib.hid hm
      have HFIT := Lib.hid hfit
      have HBEH := Lib.hid hbeh
      have HPH := Lib.hid hph
      have HOX := Lib.hid hox
      have HPS := Lib.hid hps
      have HOY := Lib.hid hoy
      have HAP := Lib.hid hap
      have HUN := Lib.hid hun
      have HXY := Lib.hid hxy
      have HTL := Lib.hid htl
      clear hE hT hm hfit hbeh hph hox hps hoy hap hun hxy htl
      by_cases hlt : i < L
      · obtain ⟨b, o, P, cP, hA, hb, hcc, hrb⟩ := HR.out.at_ (i := i) (by rw [HN.out]; exact hlt)
        subst hA
        have hcw : wr.rangeAt b (o + i * 3) _ := fun j v hv => (hB.cell (p := ⟨b, o + i * 3 + j, none⟩) hb).trans (hcc j v hv)
        obtain ⟨q0, q1, q2⟩ := range3 hcw
        generalize hr9 : rs[i]'(by rw [HN.out]; exact hlt) = r at q0 q1 q2 hrb
        obtain ⟨k, s, p⟩ := r
        generalize hpl : p.length = pl at q0 q1 q2
        have HPL := Lib.hid hpl
        have HRB := Lib.hid hrb
        have hk0 : (0 : Int) ≤ (i : Int) := by omega
        have hkL : (i : Int) < (L : Int) := by omega
        clear hr9 hcc hcw hrb hpl
        by_cases h60 : 60 < pl
        · go_wp2_with fail
          refine (awake_any _).mono ?_
          rintro e w1 ⟨rfl, hB1⟩
          go_wp2_with fail
          go_ret
          exact ⟨rfl, hB.trans (hB1.mono hB.size)⟩
        · go_wp2_with fail
          refine (fit_any k s P pl cP wr).mono ?_
          rintro e w1 ⟨rfl, hB1⟩
          obtain ⟨hK1, hK2⟩ := fitK_in k
          generalize fitK k = K at hK1 hK2 ⊢
          generalize fitS s = q
          obtain ⟨W1, hW1⟩ : ∃ W1, w1.alloc (.cells #[.int .i64 K, .int .i64 q, .slice P pl cP] 27) = W1 := ⟨_, rfl⟩
          have hB1' : Below w1.heap.size w1 W1 := by rw [← hW1]; exact (Below.refl _ w1).alloc (Nat.le_refl _) _
          have hb1 : Blk W1 w1.heap.size 27 #[.int .i64 K, .int .i64 q, .slice P pl cP] := by rw [← hW1]; exact Blk.new _ _ _
          have a0 : W1.cell? ⟨w1.heap.size, 0, none⟩ = some (.int .i64 K) := hb1.cell_of (i := 0) rfl
          have a2 : W1.cell? ⟨w1.heap.size, 2, none⟩ = some (.slice P pl cP) := hb1.cell_of (i := 2) rfl
          have a1 : W1.cell? ⟨w1.heap.size, 1, none⟩ = some (.int .i64 q) := hb1.cell_of (i := 1) rfl
          have f1 := hb1.frozen 1
          have hBW1 := hB1.trans (hB1'.mono hB1.size)
          have HB1 := Lib.hid hb1
          have hg1 := HB1.out.lt
          have hs1 := hB1.size
          clear hb1 q0 q1 q2
          rcases Nat.lt_trichotomy i G with hc1' | hc1' | hc1'
          · have hi1 : ¬ (i : Int) = (G : Int) := by omega
            have hi2 : ((i : Int) == (G : Int)) = false := by simpa using hi1
            have hi3 : (i : Int) < (G : Int) := by omega
            have hn1 : 1 ≤ n := by have := HPH.out; omega
            obtain ⟨n', hn'⟩ : ∃ n', n' = n := ⟨_, rfl⟩
            have hnc : (n' : Int) = (n : Int) := by omega
            have hn4 : n' ≤ 700 + i := by have := HPH.out; omega
            have hn5 : 1 ≤ n' := by omega
            clear hi1
            go_wp2_with fail
            rw [← hnc]
            have hb2 : Blk (W1.setCell ⟨w1.heap.size, 1, none⟩ (.int .i64 n')) w1.heap.size 27 #[.int .i64 K, .int .i64 n', .slice P pl cP] := HB1.out.set_ 1 _
            have hBW2 : Below wr.heap.size wr (W1.setCell ⟨w1.heap.size, 1, none⟩ (.int .i64 n')) := hBW1.setCell (p := ⟨w1.heap.size, 1, none⟩) hs1 _
            generalize W1.setCell ⟨w1.heap.size, 1, none⟩ (.int .i64 n') = W2 at hb2 hBW2 ⊢
            have HB2 := Lib.hid hb2
            have hBw2 := hB.trans (hBW2.mono hB.size)
            have HNN := Lib.hid hn'
            clear hb2 a0 a1 a2 f1 hnc hn'
            refine (encode_fit K n' P pl cP p HPL.out hK1 hK2 hn5 (by omega) (by omega) W2 (Reads.more (Reads.below HRB.out hBw2) hBw2.size)).mono ?_
            rintro e w3 ⟨Z, cZ, rfl, hoZ, hB3⟩
            obtain ⟨N, hN⟩ : ∃ N, N = sizeOfRec pl := ⟨_, rfl⟩
            have hN2 := sizeOfRec_pos pl
            rw [← hN] at hoZ hN2 ⊢
            have hBW3 := hBW2.trans (hB3.mono hBW2.size)
            have hBw3 := hB.trans (hBW3.mono hB.size)
            have hb3 := HB2.out.below hB3 HB2.out.lt
            have hgB3 := HB2.out.lt
            have HB3 := Lib.hid hb3
            have HOZ := Lib.hid hoZ
            have HNS := Lib.hid hN
            have HOX3 := Lib.hid (HOX.out.below hBW3)
            have HOY3 := Lib.hid (HOY.out.below hBW3)
            have HAP3 := Lib.hid (HAP.out.below hBW3)
            clear hb3 hoZ hN
            go_wp2_with (first
              | ((with_reducible show Go.wpList _ _ _ (Go.Oper.mk _ (Go.Op.call { callee := Go.Callee.builtin Go.Builtin.append, args := #[.tmp 62, .tmp 63], argTypes := _ }) _ _ _ _ :: _) _ _)
                 refine wpList_app _ rfl (.tmp 62) (.tmp 63) 28 rfl 47 8 8 elemSec w.heap.size X (E + T) c1 (secsCells (encAll 5 l ++ tail)) rfl HOX3.out _ Z N cZ (secsCells (encSecs K n' p)) rfl HOZ.out.reads (secsCells_one _) (E + T + N) rfl (secsCells (encAll 5 l ++ tail ++ encSecs K n' p)) (by simp [secsCells]) (by simp only [maxLen]; omega) (by omega) hBw3.size ?_
                 intro A7 c7 w7 ho7 hg7 hl7
                 have hB7 : Below w.heap.size w w7 := below_app hBw3 hBw3.size (fun j hj => (HOX.out.block j hj).1) hg7
                 have hs7 : w3.heap.size ≤ w7.heap.size := hg7.size
                 have hoy7 : Own w7 w.heap.size 27 3 Y m c2 (rcsCells (recsOf 5 l) Ps) := HOY3.out.kept hg7 (by
                   cases hY : Y with
                   | none => exact .inl rfl
                   | some y => exact .inr (fun e => by
                       have := HXY.out y.block e.symm
                       rw [hY] at this
                       exact this rfl))
                 have hap7 := apart_kept HAP3.out hg7 (fun i' h1 h2 j hj => by
                   rcases HUN.out i' h1 h2 j hj with h9 | h9
                   · exact .inl h9
                   · exact .inr (fun e => by have := (HOX.out.block j e).1; omega))
                 have hxy7 : ∀ j, A7.map (·.block) = some j → Y.map (·.block) ≠ some j := by
                   intro j hj e
                   rcases hl7 with h9 | h9
                   · rw [h9] at hj; exact HXY.out j hj e
                   · rw [h9] at hj
                     injection hj with hj
                     have := (HOY3.out.block j e).2
                     omega
                 have hb7 := HB3.out.grown hg7 (fun e => by have := (HOX.out.block _ e.symm).2; omega)
                 have d0 : w7.cell? ⟨w1.heap.size, 0, none⟩ = some (.int .i64 K) := hb7.cell_of (i := 0) rfl
                 have d1 : w7.cell? ⟨w1.heap.size, 1, none⟩ = some (.int .i64 n') := hb7.cell_of (i := 1) rfl
                 have d2 : w7.cell? ⟨w1.heap.size, 2, none⟩ = some (.slice P pl cP) := hb7.cell_of (i := 2) rfl
                 have HO7 := Lib.hid ho7
                 have HOY7 := Lib.hid hoy7
                 have HAP7 := Lib.hid hap7
                 have HXY7 := Lib.hid hxy7
                 have hYn : ∀ j, Y.map (·.block) = some j → j < w7.heap.size := fun j hj => by have := (HOY3.out.block j hj).2; omega
                 have HYN := Lib.hid hYn
                 clear ho7 hg7 hl7 hoy7 hap7 hxy7 hb7 hYn)
              | ((with_reducible show Go.wpList _ _ _ (Go.Oper.mk _ (Go.Op.call { callee := Go.Callee.builtin Go.Builtin.append, args := #[.tmp 69, .tmp 71], argTypes := _ }) _ _ _ _ :: _) _ _)
                 go_loud (refine wpList_app _ rfl (.tmp 69) (.tmp 71) 50 rfl 27 3 40 elemRec w.heap.size Y m c2 (rcsCells (recsOf 5 l) Ps) rfl (HOY7.out.alloc _) (w7.heap.size + 1) (some ⟨w7.heap.size, 0, none⟩) 1 1 [.int .i64 K, .int .i64 n', .slice P pl cP] rfl (reads_new w7 _ _ 3 rfl) (by simp [Value.oneCell']) (m + 1) rfl (rcsCells (recsOf 5 (l ++ [(K, p)])) (Ps ++ [(P, cP)])) (by
                   rw [recsOf_snoc, rcsCells_snoc _ _ _ _ (by rw [recsOf_length, HPS.out, HM.out]), ← HM.out]
                   have := HPH.out
                   simp only [rcCells, HPL.out]
                   rw [show 5 + m = n' by have hnn := HNN.out; omega]) (by simp only [maxLen]; omega) (by omega) (by have := hB7.size; simp; omega) ?_)
                 intro A9 c9 w9 ho9 hg9 hl9
                 have hB9 : Below w.heap.size w w9 := below_app (hB7.alloc hB7.size _) (by have := hB7.size; simp; omega) (fun j hj => (HOY.out.block j hj).1) hg9
                 have hox9 : Own w9 w.heap.size 47 8 A7 (E + T + N) c7 (secsCells (encAll 5 l ++ tail ++ encSecs K n' p)) := (HO7.out.alloc _).kept hg9 (by
                   cases hY : A7 with
                   | none => exact .inl rfl
                   | some y => exact .inr (fun e => by
                       have := HXY7.out y.block (by rw [hY]; rfl)
                       exact this e.symm))
                 have hxy9 : ∀ j, A7.map (·.block) = some j → A9.map (·.block) ≠ some j := by
                   intro j hj e
                   rcases hl9 with h9 | h9
                   · rw [h9] at e; exact HXY7.out j hj e
                   · rw [h9] at e
                     injection e with e
                     have := (HO7.out.block j hj).2
                     simp at e
                     omega
                 have hap9 := (HAP7.out.below ((Below.refl _ w7).alloc (Nat.le_refl _) (.cells [.int .i64 K, .int .i64 n', .slice P pl cP].toArray 27))).app (by rw [recsOf_length, HPS.out, HM.out]) hg9 hl9 ⟨K, n', p⟩ (P, cP) (Reads.more (Reads.below HRB.out (hB7.alloc hB7.size _)) (by have := hB7.size; simp; omega)) (fun j hj => by
                   by_cases hp0 : p = []
                   · exact .inl hp0
                   · exact .inr (fun e => by have := (HOY.out.block j e).1; have := rb_block HRB.out hp0 j hj; omega))
                 have HO9 := Lib.hid ho9
                 have HOX9 := Lib.hid hox9
                 have HAP9 := Lib.hid hap9
                 have HXY9 := Lib.hid hxy9
                 clear ho9 hg9 hl9 hox9 hap9 hxy9))
            go_roundw
            case rel =>
              have hnn := HNN.out
              have htl0 : tail = [] := HTL.out.resolve_left (by omega)
              have hT0 : T = 0 := by rw [HT.out, htl0]; rfl
              have hmi : m = i ∧ n' = 5 + i := by have := HPH.out; omega
              have hE' : (encAll 5 (l ++ [(K, p)])).length = E + N := by rw [encAll_snoc, List.length_append, ← HE.out, encSecs_len, HPL.out, ← HNS.out]
              refine ⟨i + 1, l ++ [(K, p)], [], n' + 1, A7, c7, A9, c9, Ps ++ [(P, cP)], by omega, by go_num, by go_num, ?_, ?_, ?_, ⟨HFIT.out.snoc hK1 hK2 (by rw [HPL.out]; omega), .inl rfl⟩, ⟨by omega, ?_, ?_⟩, ?_, ?_, ?_, ?_, ?_, ?_, HXY9.out, hB9, .inr rfl⟩
              · rw [hE', List.length_nil, hT0]; rfl
              · rw [List.length_append, ← HM.out]; rfl
              · rw [hE', hT0]; go_num
              · rw [List.length_append, ← HM.out]; simp only [List.length_cons, List.length_nil]; omega
              · rw [hE', List.length_nil]; omega
              · left; rw [List.length_append, ← HM.out]; simp only [List.length_cons, List.length_nil]; omega
              · rw [hE', List.length_nil, List.append_nil, encAll_snoc, ← HM.out, show 5 + m = n' by omega]
                have h9 := HOX9.out
                rw [htl0, List.append_nil, hT0] at h9
                exact h9
              · simp [HPS.out, HM.out]
              · rw [List.length_append, ← HM.out]; exact HO9.out
              · rw [recsOf_snoc, ← HM.out, show 5 + m = n' by omega]; exact HAP9.out
              · rw [recsOf_snoc, ← HM.out]
                exact HUN.out.snoc (by rw [recsOf_length, HPS.out, HM.out]) _ _ (fun j hj => by
                  by_cases hp0 : p = []
                  · exact .inl hp0
                  · exact .inr (rb_block HRB.out hp0 j hj))
            case measure => simp [intOf]; omega

          · have hi1 : (i : Int) = (G : Int) := by omega
            have hi2 : ((i : Int) == (G : Int)) = true := by simpa using hi1
            have hi3 : ¬ (i : Int) < (G : Int) := by omega
            have hn1 : 1 ≤ n := by have := HPH.out; omega
            obtain ⟨n', hn'⟩ : ∃ n', n' = n + (1 + S) := ⟨_, rfl⟩
            have hnc : (n' : Int) = (n : Int) + (1 + (S : Int)) := by omega
            have hn4 : n' ≤ 700 + i := by have := HPH.out; omega
            have hn5 : 1 ≤ n' := by omega
            clear hi1
            go_wp2_with fail
            rw [← hnc]
            have hb2 : Blk (W1.setCell ⟨w1.heap.size, 1, none⟩ (.int .i64 n')) w1.heap.size 27 #[.int .i64 K, .int .i64 n', .slice P pl cP] := HB1.out.set_ 1 _
            have hBW2 : Below wr.heap.size wr (W1.setCell ⟨w1.heap.size, 1, none⟩ (.int .i64 n')) := hBW1.setCell (p := ⟨w1.heap.size, 1, none⟩) hs1 _
            generalize W1.setCell ⟨w1.heap.size, 1, none⟩ (.int .i64 n') = W2 at hb2 hBW2 ⊢
            have HB2 := Lib.hid hb2
            have hBw2 := hB.trans (hBW2.mono hB.size)
            have HNN := Lib.hid hn'
            clear hb2 a0 a1 a2 f1 hnc hn'
            refine (encode_fit K n' P pl cP p HPL.out hK1 hK2 hn5 (by omega) (by omega) W2 (Reads.more (Reads.below HRB.out hBw2) hBw2.size)).mono ?_
            rintro e w3 ⟨Z, cZ, rfl, hoZ, hB3⟩
            obtain ⟨N, hN⟩ : ∃ N, N = sizeOfRec pl := ⟨_, rfl⟩
            have hN2 := sizeOfRec_pos pl
            rw [← hN] at hoZ hN2 ⊢
            have hBW3 := hBW2.trans (hB3.mono hBW2.size)
            have hBw3 := hB.trans (hBW3.mono hB.size)
            have hb3 := HB2.out.below hB3 HB2.out.lt
            have hgB3 := HB2.out.lt
            have HB3 := Lib.hid hb3
            have HOZ := Lib.hid hoZ
            have HNS := Lib.hid hN
            have HOX3 := Lib.hid (HOX.out.below hBW3)
            have HOY3 := Lib.hid (HOY.out.below hBW3)
            have HAP3 := Lib.hid (HAP.out.below hBW3)
            clear hb3 hoZ hN
            go_wp2_with (first
              | ((with_reducible show Go.wpList _ _ _ (Go.Oper.mk _ (Go.Op.call { callee := Go.Callee.builtin Go.Builtin.append, args := #[.tmp 62, .tmp 63], argTypes := _ }) _ _ _ _ :: _) _ _)
                 refine wpList_app _ rfl (.tmp 62) (.tmp 63) 28 rfl 47 8 8 elemSec w.heap.size X (E + T) c1 (secsCells (encAll 5 l ++ tail)) rfl HOX3.out _ Z N cZ (secsCells (encSecs K n' p)) rfl HOZ.out.reads (secsCells_one _) (E + T + N) rfl (secsCells (encAll 5 l ++ tail ++ encSecs K n' p)) (by simp [secsCells]) (by simp only [maxLen]; omega) (by omega) hBw3.size ?_
                 intro A7 c7 w7 ho7 hg7 hl7
                 have hB7 : Below w.heap.size w w7 := below_app hBw3 hBw3.size (fun j hj => (HOX.out.block j hj).1) hg7
                 have hs7 : w3.heap.size ≤ w7.heap.size := hg7.size
                 have hoy7 : Own w7 w.heap.size 27 3 Y m c2 (rcsCells (recsOf 5 l) Ps) := HOY3.out.kept hg7 (by
                   cases hY : Y with
                   | none => exact .inl rfl
                   | some y => exact .inr (fun e => by
                       have := HXY.out y.block e.symm
                       rw [hY] at this
                       exact this rfl))
                 have hap7 := apart_kept HAP3.out hg7 (fun i' h1 h2 j hj => by
                   rcases HUN.out i' h1 h2 j hj with h9 | h9
                   · exact .inl h9
                   · exact .inr (fun e => by have := (HOX.out.block j e).1; omega))
                 have hxy7 : ∀ j, A7.map (·.block) = some j → Y.map (·.block) ≠ some j := by
                   intro j hj e
                   rcases hl7 with h9 | h9
                   · rw [h9] at hj; exact HXY.out j hj e
                   · rw [h9] at hj
                     injection hj with hj
                     have := (HOY3.out.block j e).2
                     omega
                 have hb7 := HB3.out.grown hg7 (fun e => by have := (HOX.out.block _ e.symm).2; omega)
                 have d0 : w7.cell? ⟨w1.heap.size, 0, none⟩ = some (.int .i64 K) := hb7.cell_of (i := 0) rfl
                 have d1 : w7.cell? ⟨w1.heap.size, 1, none⟩ = some (.int .i64 n') := hb7.cell_of (i := 1) rfl
                 have d2 : w7.cell? ⟨w1.heap.size, 2, none⟩ = some (.slice P pl cP) := hb7.cell_of (i := 2) rfl
                 have HO7 := Lib.hid ho7
                 have HOY7 := Lib.hid hoy7
                 have HAP7 := Lib.hid hap7
                 have HXY7 := Lib.hid hxy7
                 have hYn : ∀ j, Y.map (·.block) = some j → j < w7.heap.size := fun j hj => by have := (HOY3.out.block j hj).2; omega
                 have HYN := Lib.hid hYn
                 clear ho7 hg7 hl7 hoy7 hap7 hxy7 hb7 hYn))
            go_roundw
            case rel =>
              have hnn := HNN.out
              have hEl : (encSecs K n' p).length = N := by rw [encSecs_len, HPL.out, ← HNS.out]
              refine ⟨i + 1, l, tail ++ encSecs K n' p, n' + 1, A7, c7, Y, c2, Ps, by omega, by go_num, by go_num, ?_, by rw [← HM.out], by rw [← HE.out], ⟨HFIT.out, ?_⟩, ⟨by have := HPH.out; omega, by rw [← HM.out]; omega, ?_⟩, .inr ⟨by omega, by rw [← HM.out]; have := HPH.out; omega⟩, ?_, by rw [← HM.out]; exact HPS.out, by rw [← HM.out]; exact HOY7.out, HAP7.out, HUN.out, HXY7.out, hB7, .inl (by omega)⟩
              · rw [List.length_append, hEl, ← HE.out, ← HT.out, Nat.add_assoc]
              · rw [← HM.out]; exact HBEH.out.more hK1 hK2 (by have := HPH.out; omega) (by omega) (by rw [HPL.out]; omega)
              · rw [List.length_append, hEl, ← HE.out, ← HT.out]; omega
              · rw [List.length_append, hEl, ← HE.out, ← HT.out, ← Nat.add_assoc, ← List.append_assoc]; exact HO7.out
            case measure => simp [intOf]; omega

          · have hi1 : ¬ (i : Int) = (G : Int) := by omega
            have hi2 : ((i : Int) == (G : Int)) = false := by simpa using hi1
            have hi3 : ¬ (i : Int) < (G : Int) := by omega
            have hn1 : 1 ≤ n := by have := HPH.out; omega
            obtain ⟨n', hn'⟩ : ∃ n', n' = n := ⟨_, rfl⟩
            have hnc : (n' : Int) = (n : Int) := by omega
            have hn4 : n' ≤ 700 + i := by have := HPH.out; omega
            have hn5 : 1 ≤ n' := by omega
            clear hi1
            go_wp2_with fail
            rw [← hnc]
            have hb2 : Blk (W1.setCell ⟨w1.heap.size, 1, none⟩ (.int .i64 n')) w1.heap.size 27 #[.int .i64 K, .int .i64 n', .slice P pl cP] := HB1.out.set_ 1 _
            have hBW2 : Below wr.heap.size wr (W1.setCell ⟨w1.heap.size, 1, none⟩ (.int .i64 n')) := hBW1.setCell (p := ⟨w1.heap.size, 1, none⟩) hs1 _
            generalize W1.setCell ⟨w1.heap.size, 1, none⟩ (.int .i64 n') = W2 at hb2 hBW2 ⊢
            have HB2 := Lib.hid hb2
            have hBw2 := hB.trans (hBW2.mono hB.size)
            have HNN := Lib.hid hn'
            clear hb2 a0 a1 a2 f1 hnc hn'
            refine (encode_fit K n' P pl cP p HPL.out hK1 hK2 hn5 (by omega) (by omega) W2 (Reads.more (Reads.below HRB.out hBw2) hBw2.size)).mono ?_
            rintro e w3 ⟨Z, cZ, rfl, hoZ, hB3⟩
            obtain ⟨N, hN⟩ : ∃ N, N = sizeOfRec pl := ⟨_, rfl⟩
            have hN2 := sizeOfRec_pos pl
            rw [← hN] at hoZ hN2 ⊢
            have hBW3 := hBW2.trans (hB3.mono hBW2.size)
            have hBw3 := hB.trans (hBW3.mono hB.size)
            have hb3 := HB2.out.below hB3 HB2.out.lt
            have hgB3 := HB2.out.lt
            have HB3 := Lib.hid hb3
            have HOZ := Lib.hid hoZ
            have HNS := Lib.hid hN
            have HOX3 := Lib.hid (HOX.out.below hBW3)
            have HOY3 := Lib.hid (HOY.out.below hBW3)
            have HAP3 := Lib.hid (HAP.out.below hBW3)
            clear hb3 hoZ hN
            go_wp2_with (first
              | ((with_reducible show Go.wpList _ _ _ (Go.Oper.mk _ (Go.Op.call { callee := Go.Callee.builtin Go.Builtin.append, args := #[.tmp 62, .tmp 63], argTypes := _ }) _ _ _ _ :: _) _ _)
                 refine wpList_app _ rfl (.tmp 62) (.tmp 63) 28 rfl 47 8 8 elemSec w.heap.size X (E + T) c1 (secsCells (encAll 5 l ++ tail)) rfl HOX3.out _ Z N cZ (secsCells (encSecs K n' p)) rfl HOZ.out.reads (secsCells_one _) (E + T + N) rfl (secsCells (encAll 5 l ++ tail ++ encSecs K n' p)) (by simp [secsCells]) (by simp only [maxLen]; omega) (by omega) hBw3.size ?_
                 intro A7 c7 w7 ho7 hg7 hl7
                 have hB7 : Below w.heap.size w w7 := below_app hBw3 hBw3.size (fun j hj => (HOX.out.block j hj).1) hg7
                 have hs7 : w3.heap.size ≤ w7.heap.size := hg7.size
                 have hoy7 : Own w7 w.heap.size 27 3 Y m c2 (rcsCells (recsOf 5 l) Ps) := HOY3.out.kept hg7 (by
                   cases hY : Y with
                   | none => exact .inl rfl
                   | some y => exact .inr (fun e => by
                       have := HXY.out y.block e.symm
                       rw [hY] at this
                       exact this rfl))
                 have hap7 := apart_kept HAP3.out hg7 (fun i' h1 h2 j hj => by
                   rcases HUN.out i' h1 h2 j hj with h9 | h9
                   · exact .inl h9
                   · exact .inr (fun e => by have := (HOX.out.block j e).1; omega))
                 have hxy7 : ∀ j, A7.map (·.block) = some j → Y.map (·.block) ≠ some j := by
                   intro j hj e
                   rcases hl7 with h9 | h9
                   · rw [h9] at hj; exact HXY.out j hj e
                   · rw [h9] at hj
                     injection hj with hj
                     have := (HOY3.out.block j e).2
                     omega
                 have hb7 := HB3.out.grown hg7 (fun e => by have := (HOX.out.block _ e.symm).2; omega)
                 have d0 : w7.cell? ⟨w1.heap.size, 0, none⟩ = some (.int .i64 K) := hb7.cell_of (i := 0) rfl
                 have d1 : w7.cell? ⟨w1.heap.size, 1, none⟩ = some (.int .i64 n') := hb7.cell_of (i := 1) rfl
                 have d2 : w7.cell? ⟨w1.heap.size, 2, none⟩ = some (.slice P pl cP) := hb7.cell_of (i := 2) rfl
                 have HO7 := Lib.hid ho7
                 have HOY7 := Lib.hid hoy7
                 have HAP7 := Lib.hid hap7
                 have HXY7 := Lib.hid hxy7
                 have hYn : ∀ j, Y.map (·.block) = some j → j < w7.heap.size := fun j hj => by have := (HOY3.out.block j hj).2; omega
                 have HYN := Lib.hid hYn
                 clear ho7 hg7 hl7 hoy7 hap7 hxy7 hb7 hYn))
            go_roundw
            case rel =>
              have hnn := HNN.out
              have hEl : (encSecs K n' p).length = N := by rw [encSecs_len, HPL.out, ← HNS.out]
              refine ⟨i + 1, l, tail ++ encSecs K n' p, n' + 1, A7, c7, Y, c2, Ps, by omega, by go_num, by go_num, ?_, by rw [← HM.out], by rw [← HE.out], ⟨HFIT.out, ?_⟩, ⟨by have := HPH.out; omega, by rw [← HM.out]; omega, ?_⟩, .inr ⟨by omega, by rw [← HM.out]; have := HPH.out; omega⟩, ?_, by rw [← HM.out]; exact HPS.out, by rw [← HM.out]; exact HOY7.out, HAP7.out, HUN.out, HXY7.out, hB7, .inl (by omega)⟩
              · rw [List.length_append, hEl, ← HE.out, ← HT.out, Nat.add_assoc]
              · rw [← HM.out]; exact HBEH.out.more hK1 hK2 (by have := HPH.out; omega) (by omega) (by rw [HPL.out]; omega)
              · rw [List.length_append, hEl, ← HE.out, ← HT.out]; omega
              · rw [List.length_append, hEl, ← HE.out, ← HT.out, ← Nat.add_assoc, ← List.append_assoc]; exact HO7.out
            case measure => simp [intOf]; omega

      · have hnlt : ¬ (i : Int) < (L : Int) := by omega
        clear hlt
        have hlen : (encAll 5 l ++ tail).length = E + T := by rw [List.length_append, ← HE.out, ← HT.out]
        have hrsX : RS wr wr.heap.size X (encAll 5 l ++ tail) := by
          unfold RS
          rw [hlen]
          exact HOX.out.reads
        have hcX := own_cap HOX.out
        have hcap := HOX.out.cap
        have h5 : scanF ((encAll 5 l ++ tail).length + 1) (encAll 5 l ++ tail) 5 = (recsOf 5 l, E) := by
          rw [HE.out]
          exact scan_all 5 l tail _ (by omega) (by rw [← HM.out]; omega) (by rw [List.length_append]; have := encAll_long 5 l; omega) HFIT.out (by rw [← HM.out]; exact HBEH.out)
        have h4 : scanF ((encAll 5 l ++ tail).length + 1) (encAll 5 l ++ tail) 4 = ([], 0) :=
          scan_none 5 l tail _ 4 (by omega) (by omega) (by rw [← HM.out]; omega) HFIT.out (by rw [← HM.out]; exact HBEH.out)
        have hrl : (recsOf 5 l).length = m := by rw [recsOf_length, HM.out]
        have H5 := Lib.hid h5
        have H4 := Lib.hid h4
        have HRL := Lib.hid hrl
        have HLEN := Lib.hid hlen
        have HRSX := Lib.hid hrsX
        have HCAP := Lib.hid hcap
        clear h5 h4 hrl hlen hrsX hcap
        go_wp2_with fail
        refine (scan_any X (E + T) c1 (encAll 5 l ++ tail) HLEN.out HCAP.out hcX (by omega) 5 (by omega) wr HRSX.out).mono ?_
        rintro e w1 ⟨A1, d1, rfl, hr1, hm1, hB1⟩
        rw [H5.out] at hr1 ⊢
        simp only at hr1 ⊢
        rw [HRL.out]
        have HR1 := Lib.hid hr1
        clear hr1 hm1
        go_wp2_with fail
        refine (scan_any X (E + T) c1 (encAll 5 l ++ tail) HLEN.out HCAP.out hcX (by omega) 4 (by omega) w1 ((HRSX.out.below hB1).more hB1.size)).mono ?_
        rintro e w2 ⟨A2, d2, rfl, _, _, hB2⟩
        rw [H4.out]
        simp only [List.length_nil]
        go_wp2_with fail
        refine (awake_any _).mono ?_
        rintro e w3 ⟨rfl, hB3⟩
        have hB13 := hB2.trans (hB3.mono hB2.size)
        have hBr3 := hB1.trans (hB13.mono hB1.size)
        have hry : RR w3 w3.heap.size Y (recsOf 5 l) := ⟨Ps, by rw [HRL.out, HPS.out], by rw [HRL.out]; exact (HOY.out.below hBr3).reads, fun i' h h' => ((HAP.out.below hBr3) i' h h').1⟩
        have HRY := Lib.hid hry
        clear hry
        go_wp2_with fail
        refine (samelist_any A1 d1 Y c2 m (recsOf 5 l) HRL.out (by omega) w3 ((HR1.out.below hB13).more hB13.size) HRY.out).mono ?_
        rintro e w4 ⟨rfl, hB4⟩
        go_wp2_with fail
        go_ret
        exact ⟨rfl, hB.trans ((hBr3.mono hB.size).trans (hB4.mono (Nat.le_trans hB.size hBr3.size)))⟩
end Go.Proofs.Ytejoofeoffehmaa
