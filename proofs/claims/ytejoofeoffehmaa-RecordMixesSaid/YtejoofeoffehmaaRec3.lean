/- Contract: Encode of a record in range. -/
import Derived.Test.YtejoofeoffehmaaRec2
import Derived.Test.YtejoofeoffehmaaChk
import Derived.Test.YtejoofeoffehmaaCopy
import Derived.Test.YtejoofeoffehmaaIn
import Derived.Sort.CutIn
namespace Go.Proofs.Ytejoofeoffehmaa
open Go.RowKit Go.Shelf
attribute [local go_sem] Oper.semAt_some

/-- The sectors of a record. -/
def encSec (s : Nat) (rs : List UInt8) (j : Nat) : Sec := mkSec (le s 4 ++ (rs.drop (4 * j)).take 4)
def encSecs (k s : Nat) (p : List UInt8) : List Sec := (List.range (((recStream k p).length + 3) / 4)).map (encSec s (recStream k p))

attribute [local irreducible] Blk secCells sec0

theorem RB.of_own4 {w : World} {base : Nat} {e : TypeId} {A : Option Addr} {n c : Nat} {xs : List UInt8} (h : Own w base e 1 A n c (xs.map u8v)) : RB w w.heap.size A xs := by
  have hr := h.reads
  have hl := hr.len
  rw [List.length_map, Nat.mul_one] at hl
  subst hl
  exact hr

/-- What the loop of Encode keeps: the sectors so far. -/
def encInv (g : Nat) (WL : World) (s : Nat) (rs : List UInt8) (N : Nat) (pre : List (Fin N)) (W' : World) : Prop :=
  (∃ A c, Blk W' g 28 #[.slice A pre.length c] ∧ Own W' (g + 3) 47 8 A pre.length c (secsCells (pre.map (fun x => encSec s rs x.val)))) ∧ Below g WL W'
theorem encInv_own (g : Nat) (WL : World) (s : Nat) (rs : List UInt8) (N : Nat) (hsz : WL.heap.size = g + 3) : OwnFrom WL.heap.size (encInv g WL s rs N) := by
  rintro pre A B row ⟨⟨A', c', hbk, ho⟩, hB⟩ hg hr
  have hrow : ∀ j, row = some j → WL.heap.size ≤ j := fun j e => (hr j e).1
  refine ⟨⟨A', c', hbk.grown hg ?_, ho.kept hg ?_⟩, hB.grown hg (Nat.le_trans (by omega) hB.size) (fun j e => by have := hrow j e; omega)⟩
  · rintro rfl; have := hrow _ rfl; omega
  · cases hA : A' with
    | none => exact .inl rfl
    | some a' =>
      refine .inr ?_
      rintro e
      obtain ⟨o, ho1, ho2⟩ := (hr _ e.symm).2
      rcases ho.2 with ⟨h1, _⟩ | ⟨g, cap, cur, h1, _, hg1, _⟩
      · rw [hA] at h1; cases h1
      · rw [hA] at h1; injection h1 with h1; injection h1 with h1; subst h1
        rw [hg1] at ho1; injection ho1 with ho1; subst ho1; cases ho2
set_option pp.deepTerms true in
set_option pp.deepTerms.threshold 1000 in
set_option pp.maxSteps 100000 in
set_option maxRecDepth 100000 in
set_option maxHeartbeats 1000000 in
theorem encode_ok (k s : Nat) (P : Option Addr) (c : Nat) (p : List UInt8) (hk1 : 1 ≤ k) (hk2 : k ≤ 255) (hs1 : 1 ≤ s) (hs2 : s ≤ 4294967295) (hp : p.length ≤ 4096) (w : World) (hR : RB w w.heap.size P p) :
    Calls Try.prog 14 #[recV k s P p.length c] w fun e w' => ∃ A c, e = .returned (.tuple #[.slice A (encSecs k s p).length c, .int .i64 0]) ∧ Own w' w.heap.size 47 8 A (encSecs k s p).length c (secsCells (encSecs k s p)) ∧ Below w.heap.size w w' := by
  have h1 : ¬ (k : Int) < 1 := by omega
  have h2 : ¬ (255 : Int) < k := by omega
  have h3 : ¬ (s : Int) < 1 := by omega
  have h4 : ¬ (4294967295 : Int) < s := by omega
  have h5 : ¬ 4096 < p.length := by omega
  obtain ⟨W, hW⟩ : ∃ W, w.alloc (.cells #[.int .i64 k, .int .i64 s, .slice P p.length c] 27) = W := ⟨_, rfl⟩
  have hB0 : Below w.heap.size w W := by rw [← hW]; exact (Below.refl _ w).alloc (Nat.le_refl _) _
  have hblk : Blk W w.heap.size 27 #[.int .i64 k, .int .i64 s, .slice P p.length c] := by rw [← hW]; exact Blk.new _ _ _
  have k0 := hblk.cell_of (i := 0) rfl
  have k1 := hblk.cell_of (i := 1) rfl
  have k2 := hblk.cell_of (i := 2) rfl
  have hlt := hblk.lt
  have HX := Lib.hid (hR.later hB0)
  clear hR hblk
  unfold recV
  refine callsIn_wide.1 (callsIn_of_wp_marks (n := 9) Try.func14 rfl trivial (wpIn_wide.2 ?_) rfl)
  simp only [Try.ntmps14, List.size_toArray, List.length_cons, List.length_nil, Nat.reduceAdd, Nat.reduceSub, Array.replicate_succ, Array.replicate_zero, List.push_toArray, List.append_toArray, List.nil_append, List.cons_append]
  go_wp2_with fail
  clear hW
  have hbr := Below.refl W.heap.size W
  have kk0 : ∀ w', Below W.heap.size W w' → w'.cell? ⟨w.heap.size, 0, none⟩ = some (.int .i64 k) := fun w' h => (h.cell (p := ⟨w.heap.size, 0, none⟩) hlt).trans k0
  have kk1 : ∀ w', Below W.heap.size W w' → w'.cell? ⟨w.heap.size, 1, none⟩ = some (.int .i64 s) := fun w' h => (h.cell (p := ⟨w.heap.size, 1, none⟩) hlt).trans k1
  have kk2 : ∀ w', Below W.heap.size W w' → w'.cell? ⟨w.heap.size, 2, none⟩ = some (.slice P p.length c) := fun w' h => (h.cell (p := ⟨w.heap.size, 2, none⟩) hlt).trans k2
  clear k0 k1 k2
  have hkb : IntKind.u8.wrap (k : Int) = ((UInt8.ofNat k).toNat : Int) := by rw [IntKind.wrap_u8]; exact low_byte k
  generalize hkb' : UInt8.ofNat k = kb at hkb
  have HKB := Lib.hid hkb'
  clear hkb'
  go_region_held3 (fun w' => Below W.heap.size W w')
    (first | assumption | exact hbr.drew | exact (Below.alloc hbr.drew (Nat.le_refl _) _) | exact Below.alloc (by assumption) (Below.size (by assumption)) _)
    (first
      | (go_at_call 25; refine (little_any p.length 2 (by omega) (by omega) _).mono ?_; rintro e w5 ⟨A5, c5, rfl, ho5, hB5⟩; have hN : Below W.heap.size W w5 := below_next (by assumption) hB5)
      | (refine step_app _ (by rfl) (.tmp 33) (.tmp 37) 25 (by rfl) 5 1 1 elemB W.heap.size (some ⟨W.heap.size, 0, none⟩) 1 1 [u8v kb] (by rfl) ((Own.lit1 W.drew W.heap.size (u8v kb) 5 (Nat.le_refl _)).below hB5) _ A5 2 c5 ((le p.length 2).map u8v) (by rfl) ho5.reads (u8v_one _) 3 rfl ([u8v kb] ++ (le p.length 2).map u8v) rfl (by decide) (by decide) hN.size ?_; intro A6 c6 w6 ho6 hg6 hl6; have hN6 : Below W.heap.size W w6 := below_app hN hN.size (fun j hj => by simp at hj; omega) hg6)
      | (refine step_app _ (by rfl) (.tmp 33) (.tmp 37) 25 (by rfl) 5 1 1 elemB W.heap.size (some ⟨w5.heap.size, 0, none⟩) 1 1 [u8v kb] (by rfl) (Own.lit1 w5 W.heap.size (u8v kb) 5 hN.size) _ A5 2 c5 ((le p.length 2).map u8v) (by rfl) (ho5.alloc _).reads (u8v_one _) 3 rfl ([u8v kb] ++ (le p.length 2).map u8v) rfl (by decide) (by decide) (by have := hN.size; simp; omega) ?_; intro A6 c6 w6 ho6 hg6 hl6; have hN6 : Below W.heap.size W w6 := below_app (hN.alloc hN.size _) (by have := hN.size; simp; omega) (fun j hj => by have := hN.size; simp at hj; omega) hg6))
  all_goals (
    have hsm : ((upd 0 (recHead k p)).toNat : Int) < 4294967296 := by have := (upd 0 (recHead k p)).toNat_lt; omega
    have hsw : wrap64 ((upd 0 (recHead k p)).toNat : Int) = ((upd 0 (recHead k p)).toNat : Int) := IntWalk.wrap64_in _ (by omega)
    have hys : (recHead k p).map u8v ++ (le (upd 0 (recHead k p)).toNat 4).map u8v = (recStream k p).map u8v := by simp [recStream]
    have hxs : ([u8v kb] ++ List.map u8v (le p.length 2)) ++ p.map u8v = (recHead k p).map u8v := by simp [recHead, HKB.out]
    go_wp2_with (first
      | (refine wpList_app _ rfl (.tmp 39) (.tmp 41) 25 rfl 5 1 1 elemB W.heap.size A6 3 c6 _ rfl ho6 _ P p.length c (p.map u8v) rfl (HX.out.later hN6) (u8v_one _) (recHead k p).length (by rw [recHead_length]; omega) ((recHead k p).map u8v) hxs (by rw [recHead_length]; simp only [maxLen]; omega) (by rw [recHead_length]; omega) hN6.size ?_
         intro A7 c7 w7 ho7 hg7 hl7
         have hN7 : Below W.heap.size W w7 := below_app hN6 hN6.size (fun j hj => (ho6.block j hj).1) hg7
         clear hxs)
      | (go_at_call 24; refine (sum_n A7 _ c7 (recHead k p) _ ho7.reads rfl (by rw [recHead_length]; simp only [maxLen]; omega)).mono ?_; rintro e w8 ⟨rfl, hB8⟩; have hN8 : Below W.heap.size W w8 := below_next hN7 hB8)
      | (go_at_call 25; refine (little_any (upd 0 (recHead k p)).toNat 4 (by omega) (by omega) _).mono ?_; rintro e w9 ⟨A9, c9, rfl, ho9, hB9⟩; have hN9 : Below W.heap.size W w9 := below_next hN8 hB9)
      | (refine wpList_app _ rfl (.tmp 43) (.tmp 47) 25 rfl 5 1 1 elemB W.heap.size A7 (recHead k p).length c7 _ rfl ((ho7.below hB8).below hB9) _ A9 4 c9 _ rfl ho9.reads (u8v_one _) (recStream k p).length (by rw [recHead_length, recStream_length]) ((recStream k p).map u8v) hys (by rw [recStream_length]; simp only [maxLen]; omega) (by rw [recStream_length]; omega) hN9.size ?_
         intro A10 c10 w10 ho10 hg10 hl10
         have hN10 : Below W.heap.size W w10 := below_app hN9 hN9.size (fun j hj => (ho7.block j hj).1) hg10
         clear hys)
      | (go_at_call 26; refine (chunk_call _ _ _ _).mono ?_; rintro e w11 ⟨rfl, rfl⟩)))
  all_goals (first
    | (generalize Value.slice (some ⟨W.heap.size, 0, none⟩) 1 1 = u33; fail_if_success clear u33)
    | (generalize Value.slice (some ⟨w5.heap.size, 0, none⟩) 1 1 = u33; fail_if_success clear u33))
  all_goals (
    obtain ⟨b10, rfl⟩ := ho10.some_ (by rw [recStream_length]; omega)
    have hb10 := (ho10.block b10 rfl).2
    have hcap := ho10.cap
    have hRs := ho10.reads
    have kkW := kk1 w10 hN10
    have hWw := hN10.size
    have hc10 : c10 ≤ 9223372036854775807 := by
      rcases ho10.2 with ⟨h1, _⟩ | ⟨g, cap, cur, h1, _, _, _, h2, _⟩
      · cases h1
      · injection h1 with _ _ h3; subst h3; simp only [maxLen] at h2; omega
    obtain ⟨WL, hWL⟩ : ∃ WL, (((w10.alloc (.cells #[.slice none 0 0] 28)).alloc (.cells #[.slice (some ⟨b10, 0, none⟩) (recStream k p).length c10] 25)).alloc (.cells #[.int .i64 4] 3)) = WL := ⟨_, rfl⟩
    have hsz : WL.heap.size = w10.heap.size + 3 := by rw [← hWL]; simp
    have hbB : Blk WL (w10.heap.size + 1) 25 #[.slice (some ⟨b10, 0, none⟩) (recStream k p).length c10] := by
      rw [← hWL]; have := (Blk.new (w10.alloc (.cells #[.slice none 0 0] 28)) 25 #[.slice (some ⟨b10, 0, none⟩) (recStream k p).length c10]).alloc (.cells #[.int .i64 4] 3); simpa using this
    have hbN : Blk WL (w10.heap.size + 1 + 1) 3 #[.int .i64 4] := by
      rw [← hWL]; have := Blk.new ((w10.alloc (.cells #[.slice none 0 0] 28)).alloc (.cells #[.slice (some ⟨b10, 0, none⟩) (recStream k p).length c10] 25)) 3 #[.int .i64 4]; simpa using this
    have hbO : Blk WL w10.heap.size 28 #[.slice none 0 0] := by
      rw [← hWL]; exact ((Blk.new w10 28 #[.slice none 0 0]).alloc _).alloc _
    have hWB : Below w10.heap.size w10 WL := by
      rw [← hWL]; exact (((Below.refl _ w10).alloc (Nat.le_refl _) _).alloc (by simp) _).alloc (by simp; omega) _
    have hRL : RB WL w10.heap.size (some ⟨b10, 0, none⟩) (recStream k p) := Reads.below hRs hWB
    have kkL : ∀ w', Below w10.heap.size WL w' → w'.cell? ⟨w.heap.size, 1, none⟩ = some (.int .i64 s) := fun w' h => ((h.cell (p := ⟨w.heap.size, 1, none⟩) (by show w.heap.size < _; omega)).trans (hWB.cell (p := ⟨w.heap.size, 1, none⟩) (by show w.heap.size < _; omega))).trans kkW
    have HWL := Lib.hid hWL
    rw [hWL]
    clear hWL
    generalize hNn : ((recStream k p).length + 3) / 4 = N
    have hst := chunk_stops (9 - 1) (by omega) (w10.heap.size + 1) (w10.heap.size + 1 + 1) b10 (recStream k p).length c10 N hNn.symm WL hbB hbN hcap hc10 (by rw [recStream_length]; omega)
    refine (wpIn_wide (n := 9)).1 ?_
    refine wpIn_rangeFunc_ownF rfl (by omega) (gf := 35) (lb := #[.pointer (some ⟨w10.heap.size + 1, 0, none⟩), .pointer (some ⟨w10.heap.size + 1 + 1, 0, none⟩)]) rfl trivial enter_chunk hst (fun h k => h.trans k) (keep2_b (by omega) (by omega)) (Below.refl _ _) (fun _ => rfl)
      (encInv w10.heap.size WL s (recStream k p) N)
      (fun _ _ _ => False)
      (encInv_own _ _ _ _ _ hsz) (fun _ _ _ _ _ hs _ _ => hs) ⟨⟨none, 0, hbO, Own.nil_ _ _ _ _⟩, Below.refl _ _⟩
      (fun x => { tmps := #[.agg #[.int .i64 k, .int .i64 s, .slice P p.length c], .pointer (some ⟨w.heap.size, 0, none⟩), .slice none 0 0, .int .i64 0, .slice (some ⟨b10, 0, none⟩) (recStream k p).length c10, .pointer (some ⟨w10.heap.size, 0, none⟩), chunkV b10 (recStream k p).length x.val,
          undef, .pointer (some ⟨w.heap.size, 0, none⟩), .int .i64 k, .bool false, .bool false, .pointer (some ⟨w.heap.size, 0, none⟩), .int .i64 k, .bool false, .bool false, .bool false, .pointer (some ⟨w.heap.size, 1, none⟩),
          .int .i64 s, .bool false, .bool false, .bool false, .pointer (some ⟨w.heap.size, 1, none⟩), .int .i64 s, .bool false, .bool false, .pointer (some ⟨w.heap.size, 2, none⟩), .slice P p.length c,
          .int .i64 p.length, .bool (decide (4096 < (p.length : Int))), .pointer (some ⟨w.heap.size, 0, none⟩), .int .i64 k, .int .u8 kb.toNat, u33, .pointer (some ⟨w.heap.size, 2, none⟩), .slice P p.length c, .int .i64 p.length, .slice A5 2 c5, .slice A6 3 c6,
          .slice A6 3 c6, .pointer (some ⟨w.heap.size, 2, none⟩), .slice P p.length c, .slice A7 (recHead k p).length c7, .slice A7 (recHead k p).length c7, .slice A7 (recHead k p).length c7, .int .u32 (upd 0 (recHead k p)).toNat, .int .i64 (upd 0 (recHead k p)).toNat, .slice A9 4 c9,
          .slice (some ⟨b10, 0, none⟩) (recStream k p).length c10, .slice (some ⟨b10, 0, none⟩) (recStream k p).length c10, .func (.func 35) #[] #[.pointer (some ⟨w10.heap.size + 1, 0, none⟩), .pointer (some ⟨w10.heap.size + 1 + 1, 0, none⟩)],
          chunkV b10 (recStream k p).length x.val, undef, undef, undef, undef, undef, undef, undef, undef, undef, undef, undef, undef, undef], defers := [] }) ?assign ?body ?done ?stop
    case assign =>
      intro l x W' K hK
      clear hst
      gi_wp2
      exact hK
    case body =>
      rintro l pre x W' ⟨⟨A', c', hbk, ho⟩, hB⟩ hpre
      have hx : 4 * x.val < (recStream k p).length := by have := x.isLt; omega
      clear hst
      unfold chunkV
      generalize hm : min 4 ((recStream k p).length - 4 * x.val) = m
      have hk1' := kkL _ (hB.alloc (Nat.le_trans hWB.size hB.size) (.cells sec0 47))
      have HBK := Lib.hid hbk
      have HO := Lib.hid ho
      have hz := zeroSec
      have hszW : w10.heap.size + 3 ≤ W'.heap.size := by have := hB.size; omega
      clear hbk ho
      gi_wp2
      gi_cut [] from 52 (fun wx => Below W'.heap.size W' wx ∧ Blk wx W'.heap.size 47 (secCells (mkSec (le s 4))).toArray)
      case first =>
        gi_region_with (refine ⟨trivial, ?_⟩; gi_at_call 25; go_must (refine (CallsIn.inRound l (callsIn_wide.2 (little_any s 4 (by omega) (by omega) _))).mono ?_; rintro e w12 ⟨A12, c12, rfl, ho12, hB12⟩; have hb12 : Blk w12 W'.heap.size 47 (secCells (mkSec [])).toArray := (by rw [mkSec_nil]; exact (Blk.new W' 47 sec0).drew.below hB12 (Blk.new W' 47 sec0).drew.lt); have hcp := copy_sec w12 W'.heap.size 8 8 A12 c12 0 [] (le s 4) 47 3 4 hb12 (RB.of_own4 ho12) (by simp [le_length]) (by simp [le_length]) (by simp [le_length]) rfl (le_length _ _).symm; have HB12 := Lib.hid hb12; clear hb12))
        all_goals gi_wp2_with fail
        all_goals gi_meet
        all_goals exact ⟨below_setRow (((Below.refl _ W').alloc (Nat.le_refl _) _).drew.trans (hB12.mono (by simp))) (Nat.le_refl _) _, HB12.out.setRow_ _⟩
      case rest =>
        obtain ⟨hB13, hb13⟩ := hcut
        have hm4 : m ≤ 4 := by omega
        have hm1 : 1 ≤ m := by omega
        generalize hch : ((recStream k p).drop (4 * x.val)).take 4 = ch
        have hcl : ch.length = m := by rw [← hch, List.length_take, List.length_drop]; exact hm
        have hrch : RB wc w10.heap.size (some ⟨b10, 4 * x.val, none⟩) ch := by
          have h1 := ((hRL.below hB).below (hB13.mono (by omega))).cut (k := 4 * x.val) (cap := (recStream k p).length) (by omega) (Nat.le_refl _)
          have h2 := h1.take_ (k := min 4 ((recStream k p).length - 4 * x.val)) (by rw [List.length_drop]; omega)
          have e1 : ((recStream k p).drop (4 * x.val)).take (min 4 ((recStream k p).length - 4 * x.val)) = ch := by
            rw [← hch, List.take_eq_take_iff, List.length_drop]; omega
          rw [e1] at h2
          have e2 : cutAt (some ⟨b10, 0, none⟩) (recStream k p).length (4 * x.val) 1 = some ⟨b10, 4 * x.val, none⟩ := by
            unfold cutAt; rw [if_neg (by omega)]; simp [Addr.add]; omega
          rw [e2] at h2
          exact h2
        have hcp2 := copy_sec wc W'.heap.size 4 4 (some ⟨b10, 4 * x.val, none⟩) m 4 (le s 4) ch 47 3 m hb13 hrch (by omega) (by omega) (by rw [le_length]; omega) (le_length _ _).symm hcl.symm
        have hB14 : Below W'.heap.size W' (wc.setRow W'.heap.size (secCells (mkSec (le s 4 ++ ch))).toArray) := below_setRow hB13 (Nat.le_refl _) _
        have hb14 : Blk (wc.setRow W'.heap.size (secCells (mkSec (le s 4 ++ ch))).toArray) W'.heap.size 47 (secCells (mkSec (le s 4 ++ ch))).toArray := hb13.setRow_ _
        obtain ⟨w14, hw14⟩ : ∃ w14, wc.setRow W'.heap.size (secCells (mkSec (le s 4 ++ ch))).toArray = w14 := ⟨_, rfl⟩
        rw [hw14] at hcp2 hB14 hb14
        have hes : mkSec (le s 4 ++ ch) = encSec s (recStream k p) x.val := by rw [encSec, hch]
        have HB14 := Lib.hid hb14
        have HCP := Lib.hid hcp2
        have hN9 : N ≤ 5000 := by have := recStream_length k p; omega
        have hcell := (HBK.out.below hB14 HBK.out.lt).cell_of (i := 0) rfl
        have HES := Lib.hid hes
        clear hch hm hcl hrch hb13 hcp2 hb14 hw14 hk1' hz hes
        gi_wp2_with (first
          | ((with_reducible show Go.wpListIn _ _ _ _ _ (Go.Oper.mk _ (Go.Op.call { callee := Go.Callee.builtin Go.Builtin.copy, args := _, argTypes := _ }) _ _ _ _ :: _) _ _); refine wpListIn_copy_run wc rfl (.tmp 57) (.tmp 58) 25 25 rfl _ _ rfl rfl HCP.out ?_)
          | ((with_reducible show Go.wpListIn _ _ _ _ _ (Go.Oper.mk _ (Go.Op.load _ _) _ _ _ _ :: _) _ _); refine wpListIn_load_row rfl 47 _ rfl W'.heap.size rfl 47 (secCells (mkSec (le s 4 ++ ch))).toArray (0, 0) _ HB14.out.row under_sec rfl (info_secA _) ?_)
          | ((with_reducible show Go.wpListIn _ _ _ _ _ (Go.Oper.mk _ (Go.Op.buildSlice _ _ _) _ _ _ _ :: _) _ _); refine wpListIn_build_sec w14 rfl (.tmp 61) rfl (mkSec (le s 4 ++ ch)) rfl ?_)
          | (gi_at_builtin; refine wpListIn_app _ rfl (.tmp 60) (.tmp 62) 28 rfl 47 8 8 elemSec (w10.heap.size + 3) A' pre.length c' _ rfl ((HO.out.below hB14).alloc _) (w14.heap.size + 1) (some ⟨w14.heap.size, 0, none⟩) 1 1 (secCells (mkSec (le s 4 ++ ch))) rfl (reads_sec _ _) (secCells_one _) (pre.length + 1) rfl (secsCells ((pre ++ [x]).map (fun x => encSec s (recStream k p) x.val))) (by simp [secsCells, HES.out]) (by simp only [maxLen]; omega) (by omega) (by have := hB14.size; simp; omega) ?_; intro A15 c15 w15 ho15 hg15 hl15; have hb15 := ((HBK.out.below hB14 HBK.out.lt).alloc (.cells (secCells (mkSec (le s 4 ++ ch))).toArray 47)).grown hg15 (fun e => by have := (HO.out.block _ e.symm).1; omega); have hc15 := hb15.cell_of (i := 0) rfl; have hf15 := hb15.frozen 0; have HB15 := Lib.hid hb15; have HO15 := Lib.hid ho15; have HG15 := Lib.hid hg15; have HL15 := Lib.hid hl15; clear hb15 ho15 hg15 hl15))
        have hoA := (HO.out.below hB14).alloc (.cells (secCells (mkSec (le s 4 ++ ch))).toArray 47)
        have hBa := hB14.alloc hB14.size (.cells (secCells (mkSec (le s 4 ++ ch))).toArray 47)
        have hsa := hBa.size
        have hrow : ∀ j, A'.map (·.block) = some j → w10.heap.size + 3 ≤ j := fun j e => (HO.out.block j e).1
        have hkeep : ∀ j, j < w10.heap.size + 3 → j ≠ w10.heap.size → (w15.setCell ⟨w10.heap.size, 0, none⟩ (.slice A15 (pre.length + 1) c15)).heap[j]? = W'.heap[j]? := fun j h1 h2 =>
          (Below.heap_setCell _ _ _ j h2).trans ((HG15.out.block j (by omega) (fun e => by have := hrow _ e.symm; omega)).trans (hBa.block j (by omega)))
        refine ⟨((keepsOthers_below hBa).trans (KeepsOthers.of_grownBy HG15.out (own_cells hoA))).trans (KeepsOthers.setCell _ _ _), ⟨hkeep _ (by omega) (by omega), hkeep _ (by omega) (by omega)⟩, ⟨A15, c15, ?_, ?_⟩, ?_⟩
        · rw [List.length_append]; exact HB15.out.set_ 0 _
        · rw [List.length_append]; exact HO15.out.kept (grownBy_setCell _ _ _) (by
            cases hA : A15 with
            | none => exact .inl rfl
            | some a' => exact .inr (fun e => by have := (HO15.out.block _ (by rw [hA]; exact e)).1; simp only [] at this; omega))
        · exact ((hB.trans (hBa.mono (by omega))).grown HG15.out (by have := hB.size; omega) (fun j e => by have := hrow j e; omega)).setCell (p := ⟨w10.heap.size, 0, none⟩) (Nat.le_refl _) _
    case done =>
      rintro D ys W' hD rfl hinv hK
      have HI := Lib.hid ((encInv_own _ _ _ _ _ hsz).putObj (.deferred none) hinv hD hK rfl)
      obtain ⟨⟨A', c', hbk, ho⟩, hB⟩ := hinv
      have hcl := hbk.cell_of (i := 0) rfl
      have HS := Lib.hid hWB.size
      have HBK := Lib.hid hbk
      clear hbk hst ho
      go_wp2_with fail
      refine ⟨by simp, .inl ⟨_, _, rfl, run_takeDeferred hK, ?_⟩⟩
      have hlen : (encSecs k s p).length = N := by simp [encSecs, hNn]
      have hsecs : (List.finRange N).map (fun x => encSec s (recStream k p) x.val) = encSecs k s p := by rw [fin_map N (encSec s (recStream k p)), encSecs, hNn]
      obtain ⟨⟨A'', c'', hbk2, ho2⟩, hB2⟩ := HI.out
      have hr2 := hbk2.row
      rw [World.putObj_heap_other (by omega), HBK.out.row] at hr2
      injection hr2 with hr2
      injection hr2 with hr2
      injection hr2 with hr2
      injection hr2 with hr2
      injection hr2 with hr2 hr3 hr4
      subst hr2 hr4
      refine ⟨_, results_tmp2 rfl _ _ _, A', c', by rw [hlen]; rfl, ?_, ?_⟩
      · rw [hsecs, List.length_finRange] at ho2
        rw [hlen]
        exact ho2.mono_ (by have := hB0.size; have := HS.out; omega)
      · exact ((hB0.trans (hN10.mono hB0.size)).trans (hWB.mono (by have := hB0.size; omega))).trans (hB2.mono (by have := hB0.size; omega))
    case stop =>
      rintro D c pre W' _ _ h _
      exact h.elim)
end Go.Proofs.Ytejoofeoffehmaa
