/- Contract: Decode, whole. -/
import Derived.Test.YtejoofeoffehmaaDec6
namespace Go.Proofs.Ytejoofeoffehmaa
open Go.RowKit

theorem begErr_zero {s : Sec} {rest : List Sec} (h : begErr (s :: rest) = 0) : secNum s ≠ 0 ∧ recLen s ≤ 4096 ∧ sizeOfRec (recLen s) ≤ (s :: rest).length ∧ ((s :: rest).take (sizeOfRec (recLen s))).all (fun t => secNum t == secNum s) = true := by
  simp only [begErr] at h
  split at h
  · cases h
  · rename_i h1
    split at h
    · cases h
    · rename_i h2
      split at h
      · cases h
      · rename_i h3
        split at h
        · rename_i h4
          exact ⟨h1, by omega, by omega, h4⟩
        · cases h
theorem sizeOfRec_pos (n : Nat) : 2 ≤ sizeOfRec n ∧ 4 * sizeOfRec n ≤ n + 10 ∧ n + 7 ≤ 4 * sizeOfRec n := by unfold sizeOfRec; omega
theorem part4_eq (s : Sec) : part4 s = [s[4], s[5], s[6], s[7]] := by
  apply List.ext_getElem
  · simp [part4]
  · intro i h1 h2
    have : i < 4 := by simpa using h2
    match i, this with
    | 0, _ => simp [part4]
    | 1, _ => simp [part4]
    | 2, _ => simp [part4]
    | 3, _ => simp [part4]
theorem stream_len (s : Sec) (rest : List Sec) (N : Nat) (hN : 1 ≤ N) : getNat (((streamOf ((s :: rest).take N)).drop 1).take 2) = recLen s := by
  obtain ⟨M, rfl⟩ : ∃ M, N = M + 1 := ⟨N - 1, by omega⟩
  rw [List.take_succ_cons, streamOf, List.flatMap_cons, part4_eq]
  simp [getNat, recLen]
theorem dec_beg {ss : List Sec} (h : begErr ss ≠ 0) : dec ss = ⟨begErr ss, 0, 0, [], 0⟩ := by unfold dec; rw [if_pos h]

/-- A post whose panic's part looks at the frame's three pointers and deferred calls alone. -/
def PanQ (Q : Exit → Act → World → Prop) (b : Nat) (D : List Deferred) (R : Nat → World → Prop) : Exit → Act → World → Prop
  | .panic ch, a, w => ∃ c : Nat, ch = [{ v := failV (c : Int), recovered := false }] ∧ R c w ∧ a.tmps.getD 2 undef = .pointer (some ⟨b, 0, none⟩) ∧ a.tmps.getD 3 undef = .pointer (some ⟨b + 1, 0, none⟩) ∧ a.tmps.getD 4 undef = .pointer (some ⟨b + 1 + 1, 0, none⟩) ∧ a.defers = D
  | .normal, a, w => Q .normal a w
  | .exit i, a, w => Q (.exit i) a w
  | .goto l, a, w => Q (.goto l) a w
  | .ret, a, w => Q .ret a w
  | .outgrown, a, w => Q .outgrown a w
theorem PanQ.put {Q : Exit → Act → World → Prop} {b : Nat} {D : List Deferred} {R : Nat → World → Prop} (k : Nat) (hk : 5 ≤ k) (v : Value) (ch : List PanicEntry) (a : Act) (w : World) (h : PanQ Q b D R (.panic ch) (a.put (some k) v) w) : PanQ Q b D R (.panic ch) a w := by
  obtain ⟨c, h1, h2, h3, h4, h5, h6⟩ := h
  refine ⟨c, h1, h2, ?_, ?_, ?_, h6⟩
  · rw [← h3]; simp [Act.put, Array.getD_eq_getD_getElem?, Array.getElem?_setIfInBounds, show k ≠ 2 by omega]
  · rw [← h4]; simp [Act.put, Array.getD_eq_getD_getElem?, Array.getElem?_setIfInBounds, show k ≠ 3 by omega]
  · rw [← h5]; simp [Act.put, Array.getD_eq_getD_getElem?, Array.getElem?_setIfInBounds, show k ≠ 4 by omega]
theorem wp_pan {P : Program} {c : Code} {Q : Exit → Act → World → Prop} {a : Act} {w : World} (b : Nat) (D : List Deferred) (R : Nat → World → Prop)
    (hp : ∀ (ec : Nat) (T : Array Value) (w2 : World), R ec w2 → T.getD 2 undef = .pointer (some ⟨b, 0, none⟩) → T.getD 3 undef = .pointer (some ⟨b + 1, 0, none⟩) → T.getD 4 undef = .pointer (some ⟨b + 1 + 1, 0, none⟩) → Q (.panic [{ v := failV (ec : Int), recovered := false }]) { tmps := T, defers := D } w2)
    (h : c.wp P (PanQ Q b D R) a w) : c.wp P Q a w := by
  refine wp_mono h ?_
  intro e a w2 hq
  cases e with
  | panic ch =>
    obtain ⟨ec, rfl, hR, t2, t3, t4, hdef⟩ := hq
    obtain ⟨T, Df⟩ := a
    subst hdef
    exact hp ec T w2 hR t2 t3 t4
  | normal => exact hq
  | exit i => exact hq
  | goto l => exact hq
  | ret => exact hq
  | outgrown => exact hq

theorem setRow_cell_far {p : Addr} (w : World) (g : Nat) (cs : Array Value) (h : p.block ≠ g) : (w.setRow g cs).cell? p = w.cell? p := by
  unfold World.cell?
  rw [setRow_other _ _ _ _ h]
attribute [local irreducible] Blk rec0
set_option maxHeartbeats 400000 in
theorem door_idle (T : Array Value) (b : Nat) (v0 v1 v2 x1 x2 : Value) (R : Ending → World → Prop) (w1 : World) (ht2 : T.getD 2 undef = .pointer (some ⟨b, 0, none⟩)) (ht3 : T.getD 3 undef = .pointer (some ⟨b + 1, 0, none⟩)) (ht4 : T.getD 4 undef = .pointer (some ⟨b + 1 + 1, 0, none⟩))
    (h0 : Blk w1 b 27 #[v0, v1, v2]) (h1 : Blk w1 (b + 1) 3 #[x1]) (h2 : Blk w1 (b + 1 + 1) 29 #[x2]) (hR : R (.returned (.tuple #[.agg #[v0, v1, v2], x1, x2])) w1) :
    bodyPostD Try.prog Try.f17 R Exit.ret
      { tmps := T, defers := [{ target := Target.fn (Fn.func 29) #[.pointer (some ⟨b, 0, none⟩), .pointer (some ⟨b + 1, 0, none⟩), .pointer (some ⟨b + 1 + 1, 0, none⟩)], args := #[] }] } w1 := by
  refine leaves_cons (f := 29) (args := #[.pointer (some ⟨b, 0, none⟩), .pointer (some ⟨b + 1, 0, none⟩), .pointer (some ⟨b + 1 + 1, 0, none⟩)]) (by simp) (by simp [go_sem]) ?_
  refine (catch_idle _ _ _ w1).mono ?_
  rintro e u' w2 ⟨rfl, rfl, rfl⟩
  have h := door_returns T b R w2 v0 v1 v2 x1 x2 ht2 ht3 ht4 h0 h1 h2 hR
  simp [Leaves, settle, h]
  exact hR

set_option maxRecDepth 100000 in
set_option maxHeartbeats 400000 in
theorem decode_any (A : Option Addr) (n c : Nat) (ss : List Sec) (hn : ss.length = n) (hc : n ≤ c) (h64 : c ≤ 9223372036854775807) (w : World) (hR : RS w w.heap.size A ss) :
    Calls Try.prog 17 #[.slice A n c] w (DecPost ss w) := by
  have hmf : ∀ (fn : Fn) (first cap : Array Value) (w : World), (Instr.makeFunc fn first cap).run Try.prog w = .ok (.func fn first cap) w := fun _ _ _ _ => rfl
  have hz := zeroRec
  have hz2 := zeroReader
  have HN := Lib.hid hn
  have HRS := Lib.hid hR
  clear hn hR
  go_enter_defers Try.func17, Try.ntmps17
  go_wp2_with fail
  have hg : (((w.alloc (.cells rec0 27)).alloc (.cells #[.int .i64 0] 3)).alloc (.cells #[.int .i64 0] 29)).heap.size = w.heap.size + 1 + 1 + 1 := by simp
  have hB3 : Below w.heap.size w (((w.alloc (.cells rec0 27)).alloc (.cells #[.int .i64 0] 3)).alloc (.cells #[.int .i64 0] 29)) := (((Below.refl _ w).alloc (Nat.le_refl _) _).alloc (by simp) _).alloc (by simp; omega) _
  have h0 : Blk (((w.alloc (.cells rec0 27)).alloc (.cells #[.int .i64 0] 3)).alloc (.cells #[.int .i64 0] 29)) w.heap.size 27 rec0 := ((Blk.new w _ _).alloc _).alloc _
  have h1 : Blk (((w.alloc (.cells rec0 27)).alloc (.cells #[.int .i64 0] 3)).alloc (.cells #[.int .i64 0] 29)) (w.heap.size + 1) 3 #[.int .i64 0] := by
    have := (Blk.new (w.alloc (.cells rec0 27)) 3 #[.int .i64 0]).alloc (.cells #[.int .i64 0] 29); simpa using this
  have h2 : Blk (((w.alloc (.cells rec0 27)).alloc (.cells #[.int .i64 0] 3)).alloc (.cells #[.int .i64 0] 29)) (w.heap.size + 1 + 1) 29 #[.int .i64 0] := by
    have := Blk.new ((w.alloc (.cells rec0 27)).alloc (.cells #[.int .i64 0] 3)) 29 #[.int .i64 0]; simpa using this
  generalize ((w.alloc (.cells rec0 27)).alloc (.cells #[.int .i64 0] 3)).alloc (.cells #[.int .i64 0] 29) = W at hg hB3 h0 h1 h2 ⊢
  have hBW : Below W.heap.size W (W.alloc (.cells #[.slice none 0 0, .int .i64 0, .int .i64 0] 71)) := (Below.refl _ W).alloc (Nat.le_refl _) _
  have hbr := Blk.new W 71 #[.slice none 0 0, .int .i64 0, .int .i64 0]
  rw [hg] at hbr
  have hRW : RS (W.alloc (.cells #[.slice none 0 0, .int .i64 0, .int .i64 0] 71)) (w.heap.size + 1 + 1 + 1) A ss := ((HRS.out.below (hB3.trans (hBW.mono hB3.size))).more (by omega))
  have hW1 : (W.alloc (.cells #[.slice none 0 0, .int .i64 0, .int .i64 0] 71)).heap.size = w.heap.size + 1 + 1 + 1 + 1 := by simp [hg]
  generalize W.alloc (.cells #[.slice none 0 0, .int .i64 0, .int .i64 0] 71) = W1 at hBW hbr hRW hW1 ⊢
  have hbe := begin_any (w.heap.size + 1 + 1 + 1) A n c ss HN.out hc h64 W1 hbr hRW
  refine hbe.mono ?_
  clear hbe hbr hRW hz hz2 hmf
  rintro e w1 ⟨hB1, ⟨hne, rfl⟩ | ⟨hz0, rfl, s, A', c', hs0, hbk, ho⟩⟩
  · rw [← hg] at hB1
    have hBt := hBW.trans hB1
    exact door_panics _ w.heap.size (begErr ss) ss w w1 rec0 rec0_size _ _ rfl rfl rfl (h0.below hBt h0.lt) (h1.below hBt h1.lt) (h2.below hBt h2.lt) rfl (hB3.trans (hBt.mono hB3.size)) (dec_beg hne)
  · rw [← hg] at hB1
    have hBt := hBW.trans hB1
    have e0 := h0.below hBt h0.lt
    have e1 := h1.below hBt h1.lt
    have e2 := h2.below hBt h2.lt
    have hBw := hB3.trans (hBt.mono hB3.size)
    cases ss with
    | nil => cases hs0
    | cons s' rest =>
    obtain rfl : s' = s := by simpa using hs0
    obtain ⟨z1, z2, z3, z4⟩ := begErr_zero hz0
    obtain ⟨p1, p2, p3⟩ := sizeOfRec_pos (recLen s')
    have hxl : (streamOf ((s' :: rest).take (sizeOfRec (recLen s')))).length = 4 * sizeOfRec (recLen s') := by rw [streamOf_length, List.length_take]; omega
    have hxn := stream_len s' rest (sizeOfRec (recLen s')) (by omega)
    obtain ⟨b, rfl⟩ := ho.some_ (by omega)
    have hbb := ho.block b rfl
    have hcap := ho.cap
    have hc63 : c' ≤ 9223372036854775807 := by
      rcases ho.2 with ⟨h1, _⟩ | ⟨g, cap, cur, h1, _, _, _, h2, _⟩
      · cases h1
      · injection h1 with _ _ h3; subst h3; simp only [maxLen] at h2; omega
    have hran : w1.rangeAt b 0 ((streamOf ((s' :: rest).take (sizeOfRec (recLen s')))).map u8v) := by
      obtain ⟨_, h⟩ := ho.reads
      obtain ⟨b', o', h1, _, h2⟩ := h (by omega)
      injection h1 with h1; injection h1 with h1 h3; subst h1 h3
      exact h2
    have hd : dec (s' :: rest) = (if ¬ sumOk (streamOf ((s' :: rest).take (sizeOfRec (recLen s')))) (recLen s') then ⟨9, 0, 0, [], 0⟩
      else if ¬ formOk (streamOf ((s' :: rest).take (sizeOfRec (recLen s')))) (recLen s') then ⟨3, 0, 0, [], 0⟩
      else ⟨0, getNat ((streamOf ((s' :: rest).take (sizeOfRec (recLen s')))).take 1), secNum s', ((streamOf ((s' :: rest).take (sizeOfRec (recLen s')))).drop 3).take (recLen s'), sizeOfRec (recLen s')⟩) := by
      conv => lhs; unfold dec
      rw [if_neg (by omega)]
    generalize streamOf ((s' :: rest).take (sizeOfRec (recLen s'))) = xs at hxl hxn hran hd
    generalize recLen s' = ln at *
    generalize sizeOfRec ln = N at *
    generalize secNum s' = num at *
    have hrec := record_any (w.heap.size + 1 + 1 + 1) b (4 * N) c' num N ln xs hcap hc63 hxl hxn (by omega) z2 (by omega) w1.drew hbk.drew hran hbb.2
    have k2 : w1.cell? ⟨w.heap.size + 1 + 1 + 1, 2, none⟩ = some (.int .i64 N) := hbk.cell_of (i := 2) rfl
    have HREC := Lib.hid hrec
    have HD := Lib.hid hd
    clear hrec hd hran hz0 hs0 ho z3 z4
    go_wp2_with fail
    rename_i K0 hK0
    refine wp_pan w.heap.size [{ target := Target.fn (Fn.func 29) #[.pointer (some ⟨w.heap.size, 0, none⟩), .pointer (some ⟨w.heap.size + 1, 0, none⟩), .pointer (some ⟨w.heap.size + 1 + 1, 0, none⟩)], args := #[] }] (fun ec w2 => Below (w.heap.size + 1 + 1 + 1) w1.drew w2 ∧ dec (s' :: rest) = ⟨ec, 0, 0, [], 0⟩) (fun ec T w2 hR t2 t3 t4 => door_panics T w.heap.size ec (s' :: rest) w w2 rec0 rec0_size _ _ t2 t3 t4 (e0.drew.below hR.1 (by omega)) (e1.drew.below hR.1 (by omega)) (e2.drew.below hR.1 (by omega)) rfl (hBw.drew.trans (hR.1.mono (by omega))) hR.2) ?_
    refine wp_region_any (by kernel_rfl) ?_
    change wpAny _ _ _ _ _ _ _ (World.drew _)
    refine wpAny_take (i := 0) (v := ?v0) rfl (by kernel_rfl) (by kernel_rfl) (by kernel_rfl) (fun c a w h => PanQ.put 12 (by decide) _ c a w h) (Or.inl ⟨by rfl, ?h0⟩) ?_
    case h0 => intro w; go_simp; with_reducible rfl
    refine wpAny_take (i := 2) (v := ?v2) rfl (by kernel_rfl) (by kernel_rfl) (by kernel_rfl) (fun c a w h => PanQ.put 14 (by decide) _ c a w h) (Or.inl ⟨by rfl, ?h2⟩) ?_
    case h2 => intro w; go_simp; with_reducible rfl
    refine wpAny_take (i := 3) (v := ?v3) rfl (by kernel_rfl) (by kernel_rfl) (by kernel_rfl) (fun c a w h => PanQ.put 15 (by decide) _ c a w h) (Or.inl ⟨by rfl, ?h3⟩) ?_
    case h3 => intro w; go_simp; with_reducible rfl
    refine wpAny_take (i := 4) (v := ?v4) rfl (by kernel_rfl) (by kernel_rfl) (by kernel_rfl) (fun c a w h => PanQ.put 16 (by decide) _ c a w h) (Or.inl ⟨by rfl, ?h4⟩) ?_
    case h4 => intro w; go_simp; with_reducible rfl
    refine wpAny_ready (rs := [1, 5]) (by kernel_rfl) (by simp) (AllReady.cons rfl (fun K hK => ?_) (AllReady.cons rfl (fun K hK => ?_) AllReady.nil))
    · go_simp
      refine HREC.out.mono ?_
      rintro e w2 ⟨hB2, ⟨hs, rfl⟩ | ⟨hs, hf, rfl⟩ | ⟨hs, hf, c2, P, cp, rfl, hoP⟩⟩
      · exact ⟨9, rfl, ⟨hB2, by rw [HD.out, if_pos hs]⟩, rfl, rfl, rfl, rfl⟩
      · exact ⟨3, rfl, ⟨hB2, by rw [HD.out, if_neg (not_not_intro hs), if_pos hf]⟩, rfl, rfl, rfl, rfl⟩
      · refine hK _ _ ?_
        clear hK K
        have g0 := e0.drew.below hB2 (by omega)
        have g1 := e1.drew.below hB2 (by omega)
        have g2 := e2.drew.below hB2 (by omega)
        refine wpAny_ready (rs := [5, 6]) (by kernel_rfl) (by simp) (AllReady.cons rfl (fun K hK => ?_) (AllReady.cons rfl (fun K hK => ?_) AllReady.nil))
        · go_simp
          refine hK _ _ ?_
          clear hK K
          refine wpAny_ready (rs := [6]) (by kernel_rfl) (by simp) (AllReady.cons rfl (fun K hK => ?_) AllReady.nil)
          rw [if_pos (by simp [Region.wanted])]
          refine wp_store_row 27 (.tmp 2) (.tmp 13) rfl w.heap.size #[.int .i64 (getNat (xs.take 1) : Nat), .int .i64 num, .slice P ln cp] rfl rfl 27 rec0 g0.row (by kernel_rfl) rec0_size (by simp [Value.oneCell']) (hK _ _ ?_)
          clear hK K
          have l0 := g0.setRow_ #[.int .i64 (getNat (xs.take 1) : Nat), .int .i64 num, .slice P ln cp]
          have l1 := g1.setRow_far (k := w.heap.size) (by omega) #[.int .i64 (getNat (xs.take 1) : Nat), .int .i64 num, .slice P ln cp]
          have l2 := g2.setRow_far (k := w.heap.size) (by omega) #[.int .i64 (getNat (xs.take 1) : Nat), .int .i64 num, .slice P ln cp]
          have hBz : Below w.heap.size w (w2.setRow w.heap.size #[.int .i64 (getNat (xs.take 1) : Nat), .int .i64 num, .slice P ln cp]) := below_setRow (hBw.drew.trans (hB2.mono (by omega))) (Nat.le_refl _) _
          have hoZ : Own (w2.setRow w.heap.size #[.int .i64 (getNat (xs.take 1) : Nat), .int .i64 num, .slice P ln cp]) w1.heap.size 5 1 P ln cp (((xs.drop 3).take ln).map u8v) := by
            have hgr : w2.grownBy (w2.setRow w.heap.size #[.int .i64 (getNat (xs.take 1) : Nat), .int .i64 num, .slice P ln cp]) (some w.heap.size) := by
              have h := Go.Proofs.Ytejoofeoffehmaa.below_setRow (Below.refl 0 w2) (Nat.zero_le w.heap.size) #[.int .i64 (getNat (xs.take 1) : Nat), .int .i64 num, .slice P ln cp]
              exact ⟨h.os, h.tape, h.output, h.size, fun k _ hne => setRow_other _ _ _ _ (fun e => hne (by rw [e]))⟩
            exact Own.kept hoP hgr (by
              cases hA : P with
              | none => exact .inl rfl
              | some a' => exact .inr (fun e => by have := (hoP.block _ (by rw [hA]; exact e)).1; have := hbk.lt; have := hBt.size; have h9 : w1.drew.heap.size = w1.heap.size := rfl; (try simp only [] at *); omega))
          have HL0 := Lib.hid l0
          have HL1 := Lib.hid l1
          have HL2 := Lib.hid l2
          have HBZ := Lib.hid hBz
          have HOZ := Lib.hid hoZ
          clear l0 l1 l2 g0 g1 g2 hBz hoZ hoP
          generalize w2.setRow w.heap.size #[.int .i64 (getNat (xs.take 1) : Nat), .int .i64 num, .slice P ln cp] = w3 at HL0 HL1 HL2 HBZ HOZ ⊢
          have y1 : w3.cell? ⟨w.heap.size + 1, 0, none⟩ = some (.int .i64 0) := HL1.out.cell_of (i := 0) rfl
          have y2 : w3.cell? ⟨w.heap.size + 1 + 1, 0, none⟩ = some (.int .i64 0) := HL2.out.cell_of (i := 0) rfl
          have x1 := HL1.out.frozen 0
          have x2 := HL2.out.frozen 0
          clear c2
          refine wpAny_ready (rs := [7]) (by kernel_rfl) (by simp) (AllReady.cons rfl (fun K hK => ?_) AllReady.nil)
          go_simp
          refine hK _ _ ?_
          clear hK K
          refine wpAny_ready (rs := [8]) (by kernel_rfl) (by simp) (AllReady.cons rfl (fun K hK => ?_) AllReady.nil)
          go_simp
          refine hK _ _ ?_
          clear hK K
          refine wpAny_done (by kernel_rfl) ?_ _
          refine hK0 _ _ ?_
          refine wp_ret ?_
          refine door_idle _ w.heap.size (.int .i64 (getNat (xs.take 1) : Nat)) (.int .i64 num) (.slice P ln cp) (.int .i64 N) (.int .i64 0) _ _ rfl rfl rfl ((HL0.out.far (p := ⟨w.heap.size + 1, 0, none⟩) (by simp) _).far (p := ⟨w.heap.size + 1 + 1, 0, none⟩) (by simp; omega) _) ((HL1.out.set_ 0 _).far (p := ⟨w.heap.size + 1 + 1, 0, none⟩) (by simp) _) ((HL2.out.far (p := ⟨w.heap.size + 1, 0, none⟩) (by simp) _).set_ 0 _) ?_
          have hpl : ((xs.drop 3).take ln).length = ln := by rw [List.length_take, List.length_drop]; omega
          have hdd : dec (s' :: rest) = ⟨0, getNat (xs.take 1), num, (xs.drop 3).take ln, N⟩ := by rw [HD.out, if_neg (not_not_intro hs), if_neg (not_not_intro hf)]
          refine ⟨P, cp, by rw [hdd]; simp only [hpl]; rfl, ?_, (HBZ.out.setCell (p := ⟨w.heap.size + 1, 0, none⟩) (by simp) _).setCell (p := ⟨w.heap.size + 1 + 1, 0, none⟩) (by simp; omega) _⟩
          rw [hdd]
          simp only [hpl]
          refine Own.mono_ (Own.kept (Own.kept HOZ.out (grownBy_setCell _ _ _) ?_) (grownBy_setCell _ _ _) ?_) hBw.size
          · cases hA : P with
            | none => exact .inl rfl
            | some a' => exact .inr (fun e => by have := (HOZ.out.block _ (by rw [hA]; exact e)).1; have := hbk.lt; simp only [] at *; omega)
          · cases hA : P with
            | none => exact .inl rfl
            | some a' => exact .inr (fun e => by have := (HOZ.out.block _ (by rw [hA]; exact e)).1; have := hbk.lt; simp only [] at *; omega)
        · rw [if_pos (by simp [Region.wanted])]
          refine wp_store_row 27 (.tmp 2) (.tmp 13) rfl w.heap.size #[.int .i64 (getNat (xs.take 1) : Nat), .int .i64 num, .slice P ln cp] rfl rfl 27 rec0 g0.row (by kernel_rfl) rec0_size (by simp [Value.oneCell']) (hK _ _ ?_)
          clear hK K
          have l0 := g0.setRow_ #[.int .i64 (getNat (xs.take 1) : Nat), .int .i64 num, .slice P ln cp]
          have l1 := g1.setRow_far (k := w.heap.size) (by omega) #[.int .i64 (getNat (xs.take 1) : Nat), .int .i64 num, .slice P ln cp]
          have l2 := g2.setRow_far (k := w.heap.size) (by omega) #[.int .i64 (getNat (xs.take 1) : Nat), .int .i64 num, .slice P ln cp]
          have hBz : Below w.heap.size w (w2.setRow w.heap.size #[.int .i64 (getNat (xs.take 1) : Nat), .int .i64 num, .slice P ln cp]) := below_setRow (hBw.drew.trans (hB2.mono (by omega))) (Nat.le_refl _) _
          have hoZ : Own (w2.setRow w.heap.size #[.int .i64 (getNat (xs.take 1) : Nat), .int .i64 num, .slice P ln cp]) w1.heap.size 5 1 P ln cp (((xs.drop 3).take ln).map u8v) := by
            have hgr : w2.grownBy (w2.setRow w.heap.size #[.int .i64 (getNat (xs.take 1) : Nat), .int .i64 num, .slice P ln cp]) (some w.heap.size) := by
              have h := Go.Proofs.Ytejoofeoffehmaa.below_setRow (Below.refl 0 w2) (Nat.zero_le w.heap.size) #[.int .i64 (getNat (xs.take 1) : Nat), .int .i64 num, .slice P ln cp]
              exact ⟨h.os, h.tape, h.output, h.size, fun k _ hne => setRow_other _ _ _ _ (fun e => hne (by rw [e]))⟩
            exact Own.kept hoP hgr (by
              cases hA : P with
              | none => exact .inl rfl
              | some a' => exact .inr (fun e => by have := (hoP.block _ (by rw [hA]; exact e)).1; have := hbk.lt; have := hBt.size; have h9 : w1.drew.heap.size = w1.heap.size := rfl; (try simp only [] at *); omega))
          have HL0 := Lib.hid l0
          have HL1 := Lib.hid l1
          have HL2 := Lib.hid l2
          have HBZ := Lib.hid hBz
          have HOZ := Lib.hid hoZ
          clear l0 l1 l2 g0 g1 g2 hBz hoZ hoP
          have hc3 : (w2.setRow w.heap.size #[.int .i64 (getNat (xs.take 1) : Nat), .int .i64 num, .slice P ln cp]).cell? ⟨w.heap.size + 1 + 1 + 1, 2, none⟩ = some (.int .i64 N) := (setRow_cell_far (p := ⟨w.heap.size + 1 + 1 + 1, 2, none⟩) _ _ _ (by simp only []; omega)).trans c2
          have HC3 := Lib.hid hc3
          clear hc3
          generalize w2.setRow w.heap.size #[.int .i64 (getNat (xs.take 1) : Nat), .int .i64 num, .slice P ln cp] = w3 at HL0 HL1 HL2 HBZ HOZ HC3 ⊢
          have y1 : w3.cell? ⟨w.heap.size + 1, 0, none⟩ = some (.int .i64 0) := HL1.out.cell_of (i := 0) rfl
          have y2 : w3.cell? ⟨w.heap.size + 1 + 1, 0, none⟩ = some (.int .i64 0) := HL2.out.cell_of (i := 0) rfl
          have x1 := HL1.out.frozen 0
          have x2 := HL2.out.frozen 0
          have c3 : w3.cell? ⟨w.heap.size + 1 + 1 + 1, 2, none⟩ = some (.int .i64 N) := HC3.out
          clear c2
          refine wpAny_ready (rs := [5]) (by kernel_rfl) (by simp) (AllReady.cons rfl (fun K hK => ?_) AllReady.nil)
          go_simp
          refine hK _ _ ?_
          clear hK K
          refine wpAny_ready (rs := [7]) (by kernel_rfl) (by simp) (AllReady.cons rfl (fun K hK => ?_) AllReady.nil)
          go_simp
          refine hK _ _ ?_
          clear hK K
          refine wpAny_ready (rs := [8]) (by kernel_rfl) (by simp) (AllReady.cons rfl (fun K hK => ?_) AllReady.nil)
          go_simp
          refine hK _ _ ?_
          clear hK K
          refine wpAny_done (by kernel_rfl) ?_ _
          refine hK0 _ _ ?_
          refine wp_ret ?_
          refine door_idle _ w.heap.size (.int .i64 (getNat (xs.take 1) : Nat)) (.int .i64 num) (.slice P ln cp) (.int .i64 N) (.int .i64 0) _ _ rfl rfl rfl ((HL0.out.far (p := ⟨w.heap.size + 1, 0, none⟩) (by simp) _).far (p := ⟨w.heap.size + 1 + 1, 0, none⟩) (by simp; omega) _) ((HL1.out.set_ 0 _).far (p := ⟨w.heap.size + 1 + 1, 0, none⟩) (by simp) _) ((HL2.out.far (p := ⟨w.heap.size + 1, 0, none⟩) (by simp) _).set_ 0 _) ?_
          have hpl : ((xs.drop 3).take ln).length = ln := by rw [List.length_take, List.length_drop]; omega
          have hdd : dec (s' :: rest) = ⟨0, getNat (xs.take 1), num, (xs.drop 3).take ln, N⟩ := by rw [HD.out, if_neg (not_not_intro hs), if_neg (not_not_intro hf)]
          refine ⟨P, cp, by rw [hdd]; simp only [hpl]; rfl, ?_, (HBZ.out.setCell (p := ⟨w.heap.size + 1, 0, none⟩) (by simp) _).setCell (p := ⟨w.heap.size + 1 + 1, 0, none⟩) (by simp; omega) _⟩
          rw [hdd]
          simp only [hpl]
          refine Own.mono_ (Own.kept (Own.kept HOZ.out (grownBy_setCell _ _ _) ?_) (grownBy_setCell _ _ _) ?_) hBw.size
          · cases hA : P with
            | none => exact .inl rfl
            | some a' => exact .inr (fun e => by have := (HOZ.out.block _ (by rw [hA]; exact e)).1; have := hbk.lt; simp only [] at *; omega)
          · cases hA : P with
            | none => exact .inl rfl
            | some a' => exact .inr (fun e => by have := (HOZ.out.block _ (by rw [hA]; exact e)).1; have := hbk.lt; simp only [] at *; omega)
    · go_simp
      refine hK _ _ ?_
      clear hK K
      refine wpAny_ready (rs := [1]) (by kernel_rfl) (by simp) (AllReady.cons rfl (fun K hK => ?_) AllReady.nil)
      go_simp
      refine HREC.out.mono ?_
      rintro e w2 ⟨hB2, ⟨hs, rfl⟩ | ⟨hs, hf, rfl⟩ | ⟨hs, hf, c2, P, cp, rfl, hoP⟩⟩
      · exact ⟨9, rfl, ⟨hB2, by rw [HD.out, if_pos hs]⟩, rfl, rfl, rfl, rfl⟩
      · exact ⟨3, rfl, ⟨hB2, by rw [HD.out, if_neg (not_not_intro hs), if_pos hf]⟩, rfl, rfl, rfl, rfl⟩
      · refine hK _ _ ?_
        clear hK K
        have g0 := e0.drew.below hB2 (by omega)
        have g1 := e1.drew.below hB2 (by omega)
        have g2 := e2.drew.below hB2 (by omega)
        refine wpAny_ready (rs := [6]) (by kernel_rfl) (by simp) (AllReady.cons rfl (fun K hK => ?_) AllReady.nil)
        rw [if_pos (by simp [Region.wanted])]
        refine wp_store_row 27 (.tmp 2) (.tmp 13) rfl w.heap.size #[.int .i64 (getNat (xs.take 1) : Nat), .int .i64 num, .slice P ln cp] rfl rfl 27 rec0 g0.row (by kernel_rfl) rec0_size (by simp [Value.oneCell']) (hK _ _ ?_)
        clear hK K
        have l0 := g0.setRow_ #[.int .i64 (getNat (xs.take 1) : Nat), .int .i64 num, .slice P ln cp]
        have l1 := g1.setRow_far (k := w.heap.size) (by omega) #[.int .i64 (getNat (xs.take 1) : Nat), .int .i64 num, .slice P ln cp]
        have l2 := g2.setRow_far (k := w.heap.size) (by omega) #[.int .i64 (getNat (xs.take 1) : Nat), .int .i64 num, .slice P ln cp]
        have hBz : Below w.heap.size w (w2.setRow w.heap.size #[.int .i64 (getNat (xs.take 1) : Nat), .int .i64 num, .slice P ln cp]) := below_setRow (hBw.drew.trans (hB2.mono (by omega))) (Nat.le_refl _) _
        have hoZ : Own (w2.setRow w.heap.size #[.int .i64 (getNat (xs.take 1) : Nat), .int .i64 num, .slice P ln cp]) w1.heap.size 5 1 P ln cp (((xs.drop 3).take ln).map u8v) := by
          have hgr : w2.grownBy (w2.setRow w.heap.size #[.int .i64 (getNat (xs.take 1) : Nat), .int .i64 num, .slice P ln cp]) (some w.heap.size) := by
            have h := Go.Proofs.Ytejoofeoffehmaa.below_setRow (Below.refl 0 w2) (Nat.zero_le w.heap.size) #[.int .i64 (getNat (xs.take 1) : Nat), .int .i64 num, .slice P ln cp]
            exact ⟨h.os, h.tape, h.output, h.size, fun k _ hne => setRow_other _ _ _ _ (fun e => hne (by rw [e]))⟩
          exact Own.kept hoP hgr (by
            cases hA : P with
            | none => exact .inl rfl
            | some a' => exact .inr (fun e => by have := (hoP.block _ (by rw [hA]; exact e)).1; have := hbk.lt; have := hBt.size; have h9 : w1.drew.heap.size = w1.heap.size := rfl; (try simp only [] at *); omega))
        have HL0 := Lib.hid l0
        have HL1 := Lib.hid l1
        have HL2 := Lib.hid l2
        have HBZ := Lib.hid hBz
        have HOZ := Lib.hid hoZ
        clear l0 l1 l2 g0 g1 g2 hBz hoZ hoP
        generalize w2.setRow w.heap.size #[.int .i64 (getNat (xs.take 1) : Nat), .int .i64 num, .slice P ln cp] = w3 at HL0 HL1 HL2 HBZ HOZ ⊢
        have y1 : w3.cell? ⟨w.heap.size + 1, 0, none⟩ = some (.int .i64 0) := HL1.out.cell_of (i := 0) rfl
        have y2 : w3.cell? ⟨w.heap.size + 1 + 1, 0, none⟩ = some (.int .i64 0) := HL2.out.cell_of (i := 0) rfl
        have x1 := HL1.out.frozen 0
        have x2 := HL2.out.frozen 0
        clear c2
        refine wpAny_ready (rs := [7]) (by kernel_rfl) (by simp) (AllReady.cons rfl (fun K hK => ?_) AllReady.nil)
        go_simp
        refine hK _ _ ?_
        clear hK K
        refine wpAny_ready (rs := [8]) (by kernel_rfl) (by simp) (AllReady.cons rfl (fun K hK => ?_) AllReady.nil)
        go_simp
        refine hK _ _ ?_
        clear hK K
        refine wpAny_done (by kernel_rfl) ?_ _
        refine hK0 _ _ ?_
        refine wp_ret ?_
        refine door_idle _ w.heap.size (.int .i64 (getNat (xs.take 1) : Nat)) (.int .i64 num) (.slice P ln cp) (.int .i64 N) (.int .i64 0) _ _ rfl rfl rfl ((HL0.out.far (p := ⟨w.heap.size + 1, 0, none⟩) (by simp) _).far (p := ⟨w.heap.size + 1 + 1, 0, none⟩) (by simp; omega) _) ((HL1.out.set_ 0 _).far (p := ⟨w.heap.size + 1 + 1, 0, none⟩) (by simp) _) ((HL2.out.far (p := ⟨w.heap.size + 1, 0, none⟩) (by simp) _).set_ 0 _) ?_
        have hpl : ((xs.drop 3).take ln).length = ln := by rw [List.length_take, List.length_drop]; omega
        have hdd : dec (s' :: rest) = ⟨0, getNat (xs.take 1), num, (xs.drop 3).take ln, N⟩ := by rw [HD.out, if_neg (not_not_intro hs), if_neg (not_not_intro hf)]
        refine ⟨P, cp, by rw [hdd]; simp only [hpl]; rfl, ?_, (HBZ.out.setCell (p := ⟨w.heap.size + 1, 0, none⟩) (by simp) _).setCell (p := ⟨w.heap.size + 1 + 1, 0, none⟩) (by simp; omega) _⟩
        rw [hdd]
        simp only [hpl]
        refine Own.mono_ (Own.kept (Own.kept HOZ.out (grownBy_setCell _ _ _) ?_) (grownBy_setCell _ _ _) ?_) hBw.size
        · cases hA : P with
          | none => exact .inl rfl
          | some a' => exact .inr (fun e => by have := (HOZ.out.block _ (by rw [hA]; exact e)).1; have := hbk.lt; simp only [] at *; omega)
        · cases hA : P with
          | none => exact .inl rfl
          | some a' => exact .inr (fun e => by have := (HOZ.out.block _ (by rw [hA]; exact e)).1; have := hbk.lt; simp only [] at *; omega)
end Go.Proofs.Ytejoofeoffehmaa
