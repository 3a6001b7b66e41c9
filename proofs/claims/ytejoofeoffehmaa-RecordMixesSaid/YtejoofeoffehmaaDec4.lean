/- Contracts: begin. -/
import Derived.Test.YtejoofeoffehmaaDec3
import Derived.Test.YtejoofeoffehmaaSame
import Derived.Deep.RegionLaw
namespace Go.Proofs.Ytejoofeoffehmaa
open Go.RowKit

def recLen (s : Sec) : Nat := s[5].toNat + 256 * s[6].toNat
theorem recLen_lt (s : Sec) : recLen s < 65536 := by
  have h0 := s[5].toNat_lt
  have h1 := s[6].toNat_lt
  unfold recLen; omega
def part4 (s : Sec) : List UInt8 := s.toList.drop 4
theorem part4_length (s : Sec) : (part4 s).length = 4 := by simp [part4]
def streamOf (ss : List Sec) : List UInt8 := ss.flatMap part4
theorem streamOf_length (ss : List Sec) : (streamOf ss).length = 4 * ss.length := by
  induction ss with
  | nil => rfl
  | cons s ss ih => rw [streamOf, List.flatMap_cons, List.length_append, part4_length, ← streamOf, ih, List.length_cons]; omega
theorem streamOf_snoc (ss : List Sec) (s : Sec) : streamOf (ss ++ [s]) = streamOf ss ++ part4 s := by simp [streamOf]

theorem reads_part4 {w : World} {g B : Nat} {ty : TypeId} {t : Sec} (h : Blk w g ty (secCells t).toArray) (hB : g < B) : Reads w B 1 (some ⟨g, 4, none⟩) 4 ((part4 t).map u8v) := by
  refine ⟨by simp [part4_length], fun _ => ⟨g, 4, rfl, hB, fun j v hv => ?_⟩⟩
  rw [h.cell]
  have e : (part4 t).map u8v = (secCells t).drop 4 := by rw [part4, secCells, List.map_drop]
  rw [e, List.getElem?_drop] at hv
  simpa using hv
/-- What begin says of a list: 0, or the error. -/
def begErr (ss : List Sec) : Nat :=
  match ss with
  | [] => 10
  | s :: _ => if secNum s = 0 then 7 else if 4096 < recLen s then 5 else if ss.length < sizeOfRec (recLen s) then 10 else if (ss.take (sizeOfRec (recLen s))).all (fun t => secNum t == secNum s) then 0 else 10
theorem or2 (a b : Nat) (ha : a < 256) (hb : b < 256) : bits .or .i64 (a : Int) ((b : Int) * 256) = ((a + 256 * b : Nat) : Int) := by
  have e1 : ((b : Int) * 256) = ((256 * b : Nat) : Int) := by omega
  have j1 : a ||| 256 * b = a + 256 * b := or_join a b 8 (by omega)
  rw [e1, or_i64 _ _ (by omega) (by omega), j1]

def BegPost (g : Nat) (ss : List Sec) (w : World) (e : Ending) (w' : World) : Prop :=
  Below g w w' ∧ ((begErr ss ≠ 0 ∧ e = .panicked [{ v := failV (begErr ss), recovered := false }]) ∨
    (begErr ss = 0 ∧ e = .returned (.tuple #[]) ∧ ∃ s A c, ss[0]? = some s ∧
      Blk w' g 71 #[.slice A (4 * sizeOfRec (recLen s)) c, .int .i64 (secNum s), .int .i64 (sizeOfRec (recLen s) : Nat)] ∧
      Own w' w.heap.size 5 1 A (4 * sizeOfRec (recLen s)) c ((streamOf (ss.take (sizeOfRec (recLen s)))).map u8v)))

set_option maxHeartbeats 400000 in
theorem begin_empty (g : Nat) (A : Option Addr) (c : Nat) (w : World) :
    Calls Try.prog 30 #[.pointer (some ⟨g, 0, none⟩), .slice A 0 c] w (BegPost g [] w) := by
  go_enter Try.func30, Try.ntmps30
  go_wp2_with fail
  refine (demand_bad 10 w).mono ?_
  rintro e w1 ⟨rfl, rfl⟩
  exact ⟨rfl, Below.refl _ _, .inl ⟨by simp [begErr], rfl⟩⟩

attribute [local irreducible] Blk secCells sec0
set_option maxRecDepth 100000 in
set_option maxHeartbeats 400000 in
theorem begin_cons (g : Nat) (A : Option Addr) (c : Nat) (s : Sec) (rest : List Sec) (h63 : (s :: rest).length ≤ c) (h64 : c ≤ 9223372036854775807) (w : World) (hb : Blk w g 71 #[.slice none 0 0, .int .i64 0, .int .i64 0]) (hR : RS w g A (s :: rest)) :
    Calls Try.prog 30 #[.pointer (some ⟨g, 0, none⟩), .slice A (s :: rest).length c] w (BegPost g (s :: rest) w) := by
  have hL1 : 1 ≤ (s :: rest).length := by simp
  have hp : (0 : Int) < ((s :: rest).length : Int) := by omega
  obtain ⟨b, o, hA, hbl, hc⟩ := hR.at_ (k := 0) (by simp)
  subst hA
  rw [Nat.zero_mul, Nat.add_zero] at hc
  have HC := Lib.hid (show w.rangeAt b o (secCells s) from hc)
  have HRS := Lib.hid hR
  have HNUM := Lib.hid (number_any s w)
  have HB := Lib.hid hb
  have hbg : b ≠ g := Nat.ne_of_lt hbl
  have hgw := hb.lt
  clear hc hR hb
  generalize hLe : (s :: rest).length = L at h63 hL1 hp ⊢
  have HL := Lib.hid hLe
  clear hLe
  have hpd : decide (0 < L) = true := decide_eq_true hL1
  go_enter Try.func30, Try.ntmps30
  go_wp2_with fail
  refine (demand_ok 10 w).mono ?_
  rintro e w0 ⟨rfl, rfl⟩
  go_wp2_with (first
    | ((with_reducible show Go.wpList _ _ _ (Go.Oper.mk _ (Go.Op.load _ _) _ _ _ _ :: _) _ _); refine wpList_load_mid rfl 47 (.tmp 13) rfl b o rfl (secCells s) _ HC.out under_sec rfl (info_sec _) ?_))
  refine HNUM.out.mono ?_
  rintro e w1 ⟨rfl, hB1⟩
  have hb1 := HB.out.below hB1 HB.out.lt
  have k1 : w1.cell? ⟨g, 1, none⟩ = some (.int .i64 0) := hb1.cell_of (i := 1) rfl
  have f1 := hb1.frozen 1
  have hBg := hB1.mono (Nat.le_of_lt HB.out.lt)
  have HB1 := Lib.hid hb1
  clear hb1
  by_cases hn : secNum s = 0
  · rw [hn]
    go_wp2_with fail
    refine (demand_bad 7 _).mono ?_
    rintro e w2 ⟨rfl, rfl⟩
    have he : begErr (s :: rest) = 7 := by simp [begErr, hn]
    exact ⟨rfl, hBg.setCell (p := ⟨g, 1, none⟩) (Nat.le_refl _) _, .inl ⟨by rw [he]; decide, by rw [he]; rfl⟩⟩
  · have hn0 : (0 : Int) < (secNum s : Int) := by omega
    obtain ⟨num, hnum⟩ : ∃ num, num = secNum s := ⟨_, rfl⟩
    rw [← hnum] at hn0 ⊢
    have HNM := Lib.hid hnum
    have HN0 := Lib.hid hn
    have hnd : decide (0 < num) = true := decide_eq_true (by omega)
    clear hnum hn
    have hc5 : w1.cell? ⟨b, o + 5, none⟩ = some (.int .u8 (s[5].toNat : Int)) := (hBg.cell (p := ⟨b, o + 5, none⟩) hbl).trans (HC.out 5 _ (secCells_get s 5 (by decide)))
    have hc6 : w1.cell? ⟨b, o + 6, none⟩ = some (.int .u8 (s[6].toNat : Int)) := (hBg.cell (p := ⟨b, o + 6, none⟩) hbl).trans (HC.out 6 _ (secCells_get s 6 (by decide)))
    go_wp2_with fail
    refine (demand_ok 7 _).mono ?_
    rintro e w2 ⟨rfl, rfl⟩
    have ho := or2 s[5].toNat s[6].toNat s[5].toNat_lt s[6].toNat_lt
    have hx5 := s[5].toNat_lt
    have hx6 := s[6].toNat_lt
    go_wp2_with fail
    go_region
    have hrl : (s[5].toNat : Int) + (256 : Int) * (s[6].toNat : Int) = ((recLen s : Nat) : Int) := by unfold recLen; omega
    rw [hrl]
    clear hrl ho hx5 hx6 hc5 hc6
    generalize (s[5].toNat : Int) = q5
    generalize (s[6].toNat : Int) = q6
    obtain ⟨ln, hln⟩ : ∃ ln, ln = recLen s := ⟨_, rfl⟩
    rw [← hln]
    have hb2 : Blk (w1.setCell ⟨g, 1, none⟩ (.int .i64 num)).drew g 71 #[.slice none 0 0, .int .i64 num, .int .i64 0] := (HB1.out.set_ 1 (.int .i64 num)).drew
    have hBg2 : Below g w (w1.setCell ⟨g, 1, none⟩ (.int .i64 num)).drew := (hBg.setCell (p := ⟨g, 1, none⟩) (Nat.le_refl _) _).drew
    have hs2 : w.heap.size ≤ (w1.setCell ⟨g, 1, none⟩ (.int .i64 num)).drew.heap.size := hBg2.size
    generalize (w1.setCell ⟨g, 1, none⟩ (.int .i64 num)).drew = w2 at hb2 hBg2 hs2 ⊢
    have j2 : w2.cell? ⟨g, 2, none⟩ = some (.int .i64 0) := hb2.cell_of (i := 2) rfl
    have f2 := hb2.frozen 2
    have HB2 := Lib.hid hb2
    have HLN := Lib.hid hln
    clear hb2 k1 f1 hln hBg
    by_cases h5 : 4096 < ln
    · have hd : decide ((ln : Int) ≤ 4096) = false := decide_eq_false (by omega)
      have he : begErr (s :: rest) = 5 := by
        have := HLN.out; have := HN0.out
        simp only [begErr]
        rw [if_neg (by assumption), if_pos (by omega)]
      have HE := Lib.hid he
      clear he
      go_wp2_with fail
      refine (demand_bad 5 _).mono ?_
      rintro e w3 ⟨rfl, rfl⟩
      exact ⟨rfl, hBg2, .inl ⟨by rw [HE.out]; decide, by rw [HE.out]; rfl⟩⟩
    · have hd : decide ((ln : Int) ≤ 4096) = true := decide_eq_true (by omega)
      go_wp2_with fail
      refine (demand_ok 5 _).mono ?_
      rintro e w3 ⟨rfl, rfl⟩
      go_wp2_with fail
      refine (size_in ln (by omega) _).mono ?_
      rintro e w3 ⟨rfl, rfl⟩
      obtain ⟨N, hN⟩ : ∃ N, N = sizeOfRec ln := ⟨_, rfl⟩
      rw [← hN]
      have hN2 : 4 * N ≤ ln + 10 ∧ ln + 7 ≤ 4 * N := by rw [hN]; unfold sizeOfRec; omega
      have HNN := Lib.hid hN
      clear hN
      by_cases h10 : L < N
      · have hd2 : decide (N ≤ L) = false := decide_eq_false (by omega)
        have hd3 : decide ((N : Int) ≤ (L : Int)) = false := decide_eq_false (by omega)
        have he : begErr (s :: rest) = 10 := by
          have := HLN.out; have := HN0.out; have := HNN.out; have := HL.out
          simp only [begErr]
          rw [if_neg (by assumption), if_neg (by omega), if_pos (by rw [← HLN.out, ← HNN.out]; omega)]
        have HE := Lib.hid he
        clear he
        go_wp2_with fail
        refine (demand_bad 10 _).mono ?_
        rintro e w3 ⟨rfl, rfl⟩
        exact ⟨rfl, hBg2.setCell (p := ⟨g, 2, none⟩) (Nat.le_refl _) _, .inl ⟨by rw [HE.out]; decide, by rw [HE.out]; rfl⟩⟩
      · have hd2 : decide (N ≤ L) = true := decide_eq_true (by omega)
        have hd3 : decide ((N : Int) ≤ (L : Int)) = true := decide_eq_true (by omega)
        go_wp2_with fail
        refine (demand_ok 10 _).mono ?_
        rintro e w3 ⟨rfl, rfl⟩
        have hb3 : Blk (w2.setCell ⟨g, 2, none⟩ (.int .i64 N)) g 71 #[.slice none 0 0, .int .i64 num, .int .i64 N] := HB2.out.set_ 2 (.int .i64 N)
        have hBg3 : Below g w (w2.setCell ⟨g, 2, none⟩ (.int .i64 N)) := hBg2.setCell (p := ⟨g, 2, none⟩) (Nat.le_refl _) _
        have hs3 : w.heap.size ≤ (w2.setCell ⟨g, 2, none⟩ (.int .i64 N)).heap.size := hBg3.size
        generalize w2.setCell ⟨g, 2, none⟩ (.int .i64 N) = w3 at hb3 hBg3 hs3 ⊢
        have l2 : w3.cell? ⟨g, 2, none⟩ = some (.int .i64 N) := hb3.cell_of (i := 2) rfl
        have HB3 := Lib.hid hb3
        have hz := zeroSec
        have hi0 : (0 : Int) ≤ (N : Int) := by omega
        have hi1 : (N : Int) ≤ (L : Int) := by omega
        have hi2 : (N : Int) ≤ (c : Int) := by omega
        clear hb3 f2 j2 hBg2 hs2
        go_wp2_with fail
        go_loopw [59] (fun i wr => ∃ (k : Nat) (A' : Option Addr) (c' : Nat), k ≤ N ∧ i = .int .i64 k ∧ Blk wr g 71 #[.slice A' (4 * k) c', .int .i64 num, .int .i64 N] ∧
            Own wr w.heap.size 5 1 A' (4 * k) c' ((streamOf ((s :: rest).take k)).map u8v) ∧ ((s :: rest).take k).all (fun t => secNum t == num) = true ∧ Below g w wr)
          (fun i _ => N - (intOf i).toNat)
        case atStart => exact ⟨0, none, 0, Nat.zero_le _, rfl, HB3.out, Own.nil_ _ _ _ _, rfl, hBg3⟩
        case round =>
          obtain ⟨k, A', c', hk, rfl, hbk, ho, hall, hB⟩ := hrel
          have HBK := Lib.hid hbk
          have HO := Lib.hid ho
          have HALL := Lib.hid hall
          have hgl := hbk.lt
          have hsz := hB.size
          clear hbk ho hall
          by_cases hlt : k < N
          · have hkL : k < (s :: rest).length := by have := HL.out; omega
            obtain ⟨b', o', hA, hbl', hck⟩ := (HRS.out.below hB).at_ hkL
            injection hA with hA; injection hA with hA1 hA2
            subst hA1 hA2
            have hnk := number_any (s :: rest)[k]
            have HS := Lib.hid (List.take_succ_eq_append_getElem hkL)
            generalize (s :: rest)[k] = t at hck hnk HS
            have HCK := Lib.hid hck
            have HNK := Lib.hid hnk
            have hki : (k : Int) < (N : Int) := by omega
            have hk0 : (0 : Int) ≤ (k : Int) := by omega
            clear hck hnk
            go_wp2_with (first
              | ((with_reducible show Go.wpList _ _ _ (Go.Oper.mk _ (Go.Op.load _ _) _ _ _ _ :: _) _ _); refine wpList_load_mid rfl 47 (.tmp 61) rfl b (o + k * 8) rfl (secCells t) _ HCK.out under_sec rfl (info_sec _) ?_)
              | ((with_reducible show Go.wpList _ _ _ (Go.Oper.mk _ (Go.Op.store _ _ _) _ _ _ _ :: _) _ _); refine wpList_store_row rfl 47 _ _ rfl wr.heap.size (secCells t).toArray rfl rfl 47 sec0 (Blk.new wr _ _).row (info_secA _) (sec0_size _) (secCells_all _) ?_))
            have hb6 : Blk ((wr.alloc (.cells sec0 47)).setRow wr.heap.size (secCells t).toArray) wr.heap.size 47 (secCells t).toArray := (Blk.new wr _ _).setRow_ _
            have hB4 : Below wr.heap.size wr ((wr.alloc (.cells sec0 47)).setRow wr.heap.size (secCells t).toArray) := below_setRow ((Below.refl _ wr).alloc (Nat.le_refl _) _) (Nat.le_refl _) _
            generalize (wr.alloc (.cells sec0 47)).setRow wr.heap.size (secCells t).toArray = W4 at hb6 hB4 ⊢
            have hsz4 := hB4.size
            have hbg4 := HBK.out.below hB4 hgl
            have hg4 := hbg4.lt
            have kk1 : ∀ w', Below W4.heap.size W4 w' → w'.cell? ⟨g, 1, none⟩ = some (.int .i64 num) := fun w' h => (hbg4.below h hg4).cell_of (i := 1) rfl
            have hbr := Below.refl W4.heap.size W4
            have HB6 := Lib.hid hb6
            obtain ⟨a0, a1, a2, a3, a4, a5, a6, a7, ha⟩ := list8 (secCells t) (secCells_length t)
            have hn4 := HNK.out
            rw [ha] at hb6 hn4
            have p0 : ∀ w', Below W4.heap.size W4 w' → w'.cell? ⟨wr.heap.size, 0, none⟩ = some a0 := fun w' h => (hb6.below h hb6.lt).cell_of (i := 0) rfl
            have p1 : ∀ w', Below W4.heap.size W4 w' → w'.cell? ⟨wr.heap.size, 1, none⟩ = some a1 := fun w' h => (hb6.below h hb6.lt).cell_of (i := 1) rfl
            have p2 : ∀ w', Below W4.heap.size W4 w' → w'.cell? ⟨wr.heap.size, 2, none⟩ = some a2 := fun w' h => (hb6.below h hb6.lt).cell_of (i := 2) rfl
            have p3 : ∀ w', Below W4.heap.size W4 w' → w'.cell? ⟨wr.heap.size, 3, none⟩ = some a3 := fun w' h => (hb6.below h hb6.lt).cell_of (i := 3) rfl
            have p4 : ∀ w', Below W4.heap.size W4 w' → w'.cell? ⟨wr.heap.size, 4, none⟩ = some a4 := fun w' h => (hb6.below h hb6.lt).cell_of (i := 4) rfl
            have p5 : ∀ w', Below W4.heap.size W4 w' → w'.cell? ⟨wr.heap.size, 5, none⟩ = some a5 := fun w' h => (hb6.below h hb6.lt).cell_of (i := 5) rfl
            have p6 : ∀ w', Below W4.heap.size W4 w' → w'.cell? ⟨wr.heap.size, 6, none⟩ = some a6 := fun w' h => (hb6.below h hb6.lt).cell_of (i := 6) rfl
            have p7 : ∀ w', Below W4.heap.size W4 w' → w'.cell? ⟨wr.heap.size, 7, none⟩ = some a7 := fun w' h => (hb6.below h hb6.lt).cell_of (i := 7) rfl
            have HA := Lib.hid ha
            have HN4 := Lib.hid hn4
            have HBG4 := Lib.hid hbg4
            obtain ⟨nt, hnt⟩ : ∃ nt, nt = secNum t := ⟨_, rfl⟩
            rw [← hnt] at HN4
            have HNT := Lib.hid hnt
            clear hb6 hn4 hbg4 ha hnt hz
            by_cases he : nt = num
            · have hd4 : ((nt : Int) == (num : Int)) = true := by simp [he]
              have hd5 : (nt == num) = true := by simp [he]
              have HEE := Lib.hid he
              clear he
              go_region_held3 (fun w' => Below W4.heap.size W4 w')
                (first | assumption | exact hbr.drew)
                (first
                  | (go_at_call 38; refine (HN4.out _).mono ?_; rintro e w5 ⟨rfl, hB5⟩; have hN5 : Below W4.heap.size W4 w5 := below_next (by assumption) hB5)
                  | (go_at_call 37; refine (demand_ok 10 _).mono ?_; rintro e w6 ⟨rfl, rfl⟩))
              have hb5g := HBG4.out.below hN5 hg4
              have hb5s := HB6.out.below hN5 HB6.out.lt
              have ho5 := (HO.out.below hB4).below hN5
              have hB5w := hB.trans ((hB4.mono (Nat.le_of_lt hgl)).trans (hN5.mono (Nat.le_of_lt hg4)))
              have m0 : w5.cell? ⟨g, 0, none⟩ = some (.slice A' (4 * k) c') := hb5g.cell_of (i := 0) rfl
              have HB5G := Lib.hid hb5g
              have HO5 := Lib.hid ho5
              have HB5S := Lib.hid hb5s
              clear p0 p1 p2 p3 p4 p5 p6 p7 kk1 hb5g ho5 hb5s hbr
              clear HA HN4
              go_wp2_with fail
              go_region_law (refine step_app _ rfl (.tmp 76) (.tmp 77) 25 rfl 5 1 1 elemB w.heap.size A' (4 * k) c' _ rfl HO5.out w5.heap.size (some ⟨wr.heap.size, 4, none⟩) 4 4 ((part4 t).map u8v) rfl (reads_part4 HB5S.out.drew HB5S.out.lt) (u8v_one _) (4 * (k + 1)) (by omega) ((streamOf ((s :: rest).take (k + 1))).map u8v) (by rw [HS.out, streamOf_snoc, List.map_append]) (by simp only [maxLen]; omega) (by omega) (by exact hB5w.size) ?_; intro A7 c7 w7 ho7 hg7 hl7; have hb7 := HB5G.out.drew.grown hg7 (fun e => by have := (HO5.out.block _ e.symm).1; omega); have n0 : w7.cell? ⟨g, 0, none⟩ = some (.slice A' (4 * k) c') := hb7.cell_of (i := 0) rfl; have n1 := hb7.frozen 0; have HB7 := Lib.hid hb7; have HO7 := Lib.hid ho7; have HG7 := Lib.hid hg7; clear hb7 ho7 hg7 hl7)
              have hB7 : Below g w w7 := (hB5w.drew).grown HG7.out (by have := hB5w.size; exact Nat.le_trans (Nat.le_of_lt hgw) this) (fun j e => by have := (HO5.out.block j e).1; omega)
              go_wp2_with fail
              go_roundw
              case rel =>
                refine ⟨k + 1, A7, c7, by omega, by go_num, HB7.out.set_ 0 _, ?_, ?_, hB7.setCell (p := ⟨g, 0, none⟩) (Nat.le_refl _) _⟩
                · exact HO7.out.kept (grownBy_setCell _ _ _) (by
                    cases hA : A7 with
                    | none => exact .inl rfl
                    | some a' => exact .inr (fun e => by have := (HO7.out.block _ (by rw [hA]; exact e)).1; simp only [] at this; omega))
                · rw [HS.out, List.all_append, HALL.out]
                  simp [← HNT.out, HEE.out]
              case measure => simp [intOf]; omega
            · have hd4 : ((nt : Int) == (num : Int)) = false := by simp; omega
              have hd5 : (nt == num) = false := by simp [he]
              have hbe : begErr (s :: rest) = 10 := by
                have h1 := HLN.out; have h2 := HN0.out; have h3 := HNN.out; have h4 := HL.out; have h5' := HNM.out
                simp only [begErr]
                rw [if_neg (by assumption), if_neg (by omega), if_neg (by rw [← HLN.out, ← HNN.out]; omega), if_neg]
                intro hall
                rw [List.all_eq_true] at hall
                have hmem : t ∈ (s :: rest).take (sizeOfRec (recLen s)) := by
                  rw [← h1, ← h3]
                  have hm : t ∈ (s :: rest).take (k + 1) := by rw [HS.out]; simp
                  exact (List.take_sublist_take_left (by omega)).subset hm
                have := hall t hmem
                simp at this
                rw [← HNT.out, ← h5'] at this
                exact he this
              have HBE := Lib.hid hbe
              have HEE := Lib.hid he
              have hBw4 := hB.trans (hB4.mono (Nat.le_of_lt hgl))
              have hg4' := hg4
              clear he hbe
              have q0 := p0 W4 hbr
              have q1 := p1 W4 hbr
              have q2 := p2 W4 hbr
              have q3 := p3 W4 hbr
              have q4 := p4 W4 hbr
              have q5' := p5 W4 hbr
              have q6' := p6 W4 hbr
              have q7 := p7 W4 hbr
              have kq := kk1 W4 hbr
              refine wp_region_any (by kernel_rfl) ?_
              change wpAny _ _ _ _ _ _ _ (World.drew _)
              refine wpAny_take (i := 2) (v := ?v2) rfl (by kernel_rfl) (by kernel_rfl) (by kernel_rfl) (fun _ _ _ h => h) (Or.inl ⟨by rfl, ?h2⟩) ?_
              case h2 => intro w; go_simp; with_reducible rfl
              refine wpAny_take (i := 3) (v := ?v3) rfl (by kernel_rfl) (by kernel_rfl) (by kernel_rfl) (fun _ _ _ h => h) (Or.inl ⟨by rfl, ?h3⟩) ?_
              case h3 => intro w; go_simp; with_reducible rfl
              refine wpAny_take (i := 4) (v := ?v4) rfl (by kernel_rfl) (by kernel_rfl) (by kernel_rfl) (fun _ _ _ h => h) (Or.inl ⟨by rfl, ?h4⟩) ?_
              case h4 => intro w; go_simp; with_reducible rfl
              refine wpAny_ready (rs := [0, 5]) (by kernel_rfl) (by simp) (AllReady.cons rfl (fun K hK => ?_) (AllReady.cons rfl (fun K hK => ?_) AllReady.nil))
              · go_simp
                refine hK _ _ ?_
                clear hK K
                refine wpAny_ready (rs := [1, 5]) (by kernel_rfl) (by simp) (AllReady.cons rfl (fun K hK => ?_) (AllReady.cons rfl (fun K hK => ?_) AllReady.nil))
                · go_simp
                  refine (HN4.out _).mono ?_
                  rintro e w5 ⟨rfl, hB5⟩
                  have hN5 : Below W4.heap.size W4 w5 := below_next hbr.drew hB5
                  have kq5 := kk1 w5 hN5
                  refine hK _ _ ?_
                  clear hK K
                  refine wpAny_ready (rs := [5]) (by kernel_rfl) (by simp) (AllReady.cons rfl (fun K hK => ?_) AllReady.nil)
                  go_simp
                  refine hK _ _ ?_
                  clear hK K
                  refine wpAny_ready (rs := [6]) (by kernel_rfl) (by simp) (AllReady.cons rfl (fun K hK => ?_) AllReady.nil)
                  go_simp
                  refine hK _ _ ?_
                  clear hK K
                  refine wpAny_ready (rs := [7]) (by kernel_rfl) (by simp) (AllReady.cons rfl (fun K hK => ?_) AllReady.nil)
                  go_simp
                  refine (demand_bad 10 _).mono ?_
                  rintro e w6 ⟨rfl, rfl⟩
                  exact ⟨rfl, hBw4.trans (hN5.mono (Nat.le_of_lt hg4')), .inl ⟨by rw [HBE.out]; decide, by rw [HBE.out]; rfl⟩⟩
                · go_simp
                  refine hK _ _ ?_
                  clear hK K
                  refine wpAny_ready (rs := [1]) (by kernel_rfl) (by simp) (AllReady.cons rfl (fun K hK => ?_) AllReady.nil)
                  go_simp
                  refine (HN4.out _).mono ?_
                  rintro e w5 ⟨rfl, hB5⟩
                  have hN5 : Below W4.heap.size W4 w5 := below_next hbr.drew hB5
                  have kq5 := kk1 w5 hN5
                  refine hK _ _ ?_
                  clear hK K
                  refine wpAny_ready (rs := [6]) (by kernel_rfl) (by simp) (AllReady.cons rfl (fun K hK => ?_) AllReady.nil)
                  go_simp
                  refine hK _ _ ?_
                  clear hK K
                  refine wpAny_ready (rs := [7]) (by kernel_rfl) (by simp) (AllReady.cons rfl (fun K hK => ?_) AllReady.nil)
                  go_simp
                  refine (demand_bad 10 _).mono ?_
                  rintro e w6 ⟨rfl, rfl⟩
                  exact ⟨rfl, hBw4.trans (hN5.mono (Nat.le_of_lt hg4')), .inl ⟨by rw [HBE.out]; decide, by rw [HBE.out]; rfl⟩⟩
              · go_simp
                refine hK _ _ ?_
                clear hK K
                refine wpAny_ready (rs := [0]) (by kernel_rfl) (by simp) (AllReady.cons rfl (fun K hK => ?_) AllReady.nil)
                go_simp
                refine hK _ _ ?_
                clear hK K
                refine wpAny_ready (rs := [1]) (by kernel_rfl) (by simp) (AllReady.cons rfl (fun K hK => ?_) AllReady.nil)
                go_simp
                refine (HN4.out _).mono ?_
                rintro e w5 ⟨rfl, hB5⟩
                have hN5 : Below W4.heap.size W4 w5 := below_next hbr.drew hB5
                have kq5 := kk1 w5 hN5
                refine hK _ _ ?_
                clear hK K
                refine wpAny_ready (rs := [6]) (by kernel_rfl) (by simp) (AllReady.cons rfl (fun K hK => ?_) AllReady.nil)
                go_simp
                refine hK _ _ ?_
                clear hK K
                refine wpAny_ready (rs := [7]) (by kernel_rfl) (by simp) (AllReady.cons rfl (fun K hK => ?_) AllReady.nil)
                go_simp
                refine (demand_bad 10 _).mono ?_
                rintro e w6 ⟨rfl, rfl⟩
                exact ⟨rfl, hBw4.trans (hN5.mono (Nat.le_of_lt hg4')), .inl ⟨by rw [HBE.out]; decide, by rw [HBE.out]; rfl⟩⟩
          · obtain rfl : k = N := by omega
            go_wp2_with fail
            go_end0
            have hbe : begErr (s :: rest) = 0 := by
              have h1 := HLN.out; have h2 := HN0.out; have h3 := HNN.out; have h4 := HL.out; have h5' := HNM.out; have h6 := HALL.out
              simp only [begErr]
              rw [if_neg (by assumption), if_neg (by omega), if_neg (by rw [← HLN.out, ← HNN.out]; omega), if_pos]
              rw [← h1, ← h3, ← h5']
              exact h6
            refine ⟨hB, .inr ⟨hbe, rfl, s, A', c', rfl, ?_, ?_⟩⟩
            · rw [← HLN.out, ← HNN.out, ← HNM.out]; exact HBK.out
            · rw [← HLN.out, ← HNN.out]; exact HO.out
end Go.Proofs.Ytejoofeoffehmaa
