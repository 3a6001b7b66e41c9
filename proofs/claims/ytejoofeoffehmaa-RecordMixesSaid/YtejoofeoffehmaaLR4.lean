/- RecordMixes: the walk. -/
import Derived.Test.YtejoofeoffehmaaLR2
import Derived.Test.YtejoofeoffehmaaRt3
import Derived.OrdersHeld
import Derived.Deep.CutRange
namespace Go.Proofs.Ytejoofeoffehmaa
open Go.RowKit

section
variable {P : Program} {md : Region.Mode} {ops : Array Oper} {Q : Exit → Act → World → Prop} {S : World → Prop}
theorem heldNil {fuel : Nat} {listed : Array Bool} {a : Act} {w : World} : ∀ i ∈ ([] : List Nat), wpOp P ops Q i (fun a' w' => S w' ∧ wpAnyH P md ops Q S fuel (listed.setIfInBounds i true) a' w') a w := fun _ h => by cases h
theorem heldCons {fuel : Nat} {listed : Array Bool} {a : Act} {w : World} {i : Nat} {o : Oper} {rs : List Nat} (ho : ops[i]? = some o)
    (h : ∀ K' : Act → World → Prop, (∀ a w, S w → wpAnyH P md ops Q S fuel (listed.setIfInBounds i true) a w → K' a w) → if Region.wanted o (yielded ops a.tmps) = true then Oper.wp P o a w K' Q else K' (a.put o.dst undef) w)
    (hs : ∀ j ∈ rs, wpOp P ops Q j (fun a' w' => S w' ∧ wpAnyH P md ops Q S fuel (listed.setIfInBounds j true) a' w') a w) : ∀ j ∈ i :: rs, wpOp P ops Q j (fun a' w' => S w' ∧ wpAnyH P md ops Q S fuel (listed.setIfInBounds j true) a' w') a w := fun j hj => by
  rcases List.mem_cons.1 hj with rfl | hj
  · exact wpOp_step ho (fun K' hK => h K' (fun a w hS hw => hK a w ⟨hS, hw⟩))
  · exact hs j hj
end

attribute [local irreducible] Blk str
set_option maxRecDepth 100000 in
set_option maxHeartbeats 2000000 in
theorem law_RecordMixes {w : World} (k1 : Int) (_hk1 : -9223372036854775808 ≤ k1 ∧ k1 ≤ 9223372036854775807) (s1 : Int) (_hs1 : -9223372036854775808 ≤ s1 ∧ s1 ≤ 9223372036854775807) (P1 : Option Addr) (c1 : Nat) (p1 : List UInt8) (hl1 : p1.length ≤ c1) (hc1 : c1 ≤ maxLen) (hR1 : RB w w.heap.size P1 p1)
    (k2 : Int) (_hk2 : -9223372036854775808 ≤ k2 ∧ k2 ≤ 9223372036854775807) (s2 : Int) (_hs2 : -9223372036854775808 ≤ s2 ∧ s2 ≤ 9223372036854775807) (P2 : Option Addr) (c2 : Nat) (p2 : List UInt8) (hl2 : p2.length ≤ c2) (hc2 : c2 ≤ maxLen) (hR2 : RB w w.heap.size P2 p2)
    (F : Option Addr) (fc : Nat) (fr : List Bool) (hlf : fr.length ≤ fc) (hcf : fc ≤ maxLen) (hF : Reads w w.heap.size 1 F fr.length (fr.map .bool)) :
    Calls Try.prog 7 #[.agg #[.int .i64 k1, .int .i64 s1, .slice P1 p1.length c1], .agg #[.int .i64 k2, .int .i64 s2, .slice P2 p2.length c2], .slice F fr.length fc] w fun e w' => e = .returned (.bool true) ∧ Below w.heap.size w w' := by
  have h631 : p1.length ≤ 9223372036854775807 := by simp only [maxLen] at hc1; omega
  have h632 : p2.length ≤ 9223372036854775807 := by simp only [maxLen] at hc2; omega
  have h63f : fr.length ≤ 9223372036854775807 := by simp only [maxLen] at hcf; omega
  obtain ⟨W, hW⟩ : ∃ W, (w.alloc (.cells #[.int .i64 k1, .int .i64 s1, .slice P1 p1.length c1] 27)).alloc (.cells #[.int .i64 k2, .int .i64 s2, .slice P2 p2.length c2] 27) = W := ⟨_, rfl⟩
  have hB0 : Below w.heap.size w W := by rw [← hW]; exact ((Below.refl _ w).alloc (Nat.le_refl _) _).alloc (by simp) _
  have hWs : W.heap.size = w.heap.size + 1 + 1 := by rw [← hW]; simp
  have hb1 : Blk W w.heap.size 27 #[.int .i64 k1, .int .i64 s1, .slice P1 p1.length c1] := by rw [← hW]; exact (Blk.new _ _ _).alloc _
  have hb2 : Blk W (w.heap.size + 1) 27 #[.int .i64 k2, .int .i64 s2, .slice P2 p2.length c2] := by
    rw [← hW]
    have := Blk.new (w.alloc (.cells #[.int .i64 k1, .int .i64 s1, .slice P1 p1.length c1] 27)) 27 #[.int .i64 k2, .int .i64 s2, .slice P2 p2.length c2]
    simpa using this
  have m2 : W.cell? ⟨w.heap.size, 2, none⟩ = some (.slice P1 p1.length c1) := hb1.cell_of (i := 2) rfl
  have l2 : W.cell? ⟨w.heap.size + 1, 2, none⟩ = some (.slice P2 p2.length c2) := hb2.cell_of (i := 2) rfl
  have hz := zeroRecE
  have HR1 := Lib.hid (hR1.later hB0)
  have HR2 := Lib.hid (hR2.later hB0)
  have HF := Lib.hid (Reads.more (Reads.below hF hB0) hB0.size)
  have HB1 := Lib.hid hb1
  have HB2 := Lib.hid hb2
  generalize hn1 : p1.length = n1 at *
  generalize hn2 : p2.length = n2 at *
  generalize hnf : fr.length = nf at *
  have HN1 := Lib.hid hn1
  have HN2 := Lib.hid hn2
  have HNF := Lib.hid hnf
  clear hR1 hR2 hF hb1 hb2 hl1 hc1 hl2 hc2 hlf hcf hn1 hn2 hnf
  go_enter Try.func7, Try.ntmps7
  by_cases hbig1 : 100 < n1
  · go_wp2_with fail
    refine (awake_any _).mono ?_
    rintro e w1 ⟨rfl, hB1⟩
    go_wp2_with fail
    go_ret
    exact ⟨rfl, hB0.trans (hB1.mono hB0.size)⟩
  · by_cases hbig2 : 100 < n2
    · go_wp2_with fail
      refine (awake_any _).mono ?_
      rintro e w1 ⟨rfl, hB1⟩
      go_wp2_with fail
      go_ret
      exact ⟨rfl, hB0.trans (hB1.mono hB0.size)⟩
    · obtain ⟨hK11, hK12⟩ := fitK_in k1
      obtain ⟨hS11, hS12⟩ := fitS_in s1
      obtain ⟨hK21, hK22⟩ := fitK_in k2
      obtain ⟨hS21, hS22⟩ := fitS_in s2
      have fit1 := fit_any k1 s1 P1 n1 c1
      have fit2 := fit_any k2 s2 P2 n2 c2
      generalize fitK k1 = K1 at *
      generalize fitS s1 = q1 at *
      generalize fitK k2 = K2 at *
      generalize fitS s2 = q2 at *
      have FIT1 := Lib.hid fit1
      have FIT2 := Lib.hid fit2
      clear fit1 fit2
      go_upto_region 3 with fail
      clear hW m2 l2 h631 h632
      go_cut [7, 8] from 30 to 33 (fun v7 v8 wx => ∃ b7 b8 : Nat, v7 = .pointer (some ⟨b7, 0, none⟩) ∧ v8 = .pointer (some ⟨b8, 0, none⟩) ∧ b7 ≠ b8 ∧ W.heap.size ≤ b7 ∧ W.heap.size ≤ b8 ∧ Blk wx b7 27 #[.int .i64 K1, .int .i64 q1, .slice P1 n1 c1] ∧ Blk wx b8 27 #[.int .i64 K2, .int .i64 q2, .slice P2 n2 c2] ∧ Below W.heap.size W wx)
      case first =>
        rename_i J K' hJJ hKK
        have hkk1 : ∀ w', Below W.heap.size W w' → Blk w' w.heap.size 27 #[.int .i64 k1, .int .i64 s1, .slice P1 n1 c1] := fun w' h => HB1.out.below h (by omega)
        have hkk2 : ∀ w', Below W.heap.size W w' → Blk w' (w.heap.size + 1) 27 #[.int .i64 k2, .int .i64 s2, .slice P2 n2 c2] := fun w' h => HB2.out.below h (by omega)
        have KK1 := Lib.hid hkk1
        have KK2 := Lib.hid hkk2
        clear hkk1 hkk2
        have hS0 : Below W.heap.size W W.drew := (Below.refl _ W).drew
        refine wp_region_held (S := Below W.heap.size W) (by kernel_rfl) ?_
        change wpAnyH _ _ _ _ _ _ _ _ (World.drew _)
        refine wpAnyH_take (i := 0) (v := .agg #[.int .i64 k1, .int .i64 s1, .slice P1 n1 c1]) rfl (by kernel_rfl) (by kernel_rfl) (by kernel_rfl) (fun _ _ _ h => h) (Or.inl ⟨by rfl, ?h0⟩) hS0 ?_
        case h0 =>
          intro w' hS
          have e0 : w'.cell? ⟨w.heap.size, 0, none⟩ = some (.int .i64 k1) := (KK1.out w' hS).cell_of (i := 0) rfl
          have e1 : w'.cell? ⟨w.heap.size, 1, none⟩ = some (.int .i64 s1) := (KK1.out w' hS).cell_of (i := 1) rfl
          have e2 : w'.cell? ⟨w.heap.size, 2, none⟩ = some (.slice P1 n1 c1) := (KK1.out w' hS).cell_of (i := 2) rfl
          go_simp
        refine wpAnyH_take (i := 2) (v := .agg #[.int .i64 k2, .int .i64 s2, .slice P2 n2 c2]) rfl (by kernel_rfl) (by kernel_rfl) (by kernel_rfl) (fun _ _ _ h => h) (Or.inl ⟨by rfl, ?h2⟩) hS0 ?_
        case h2 =>
          intro w' hS
          have e0 : w'.cell? ⟨w.heap.size + 1, 0, none⟩ = some (.int .i64 k2) := (KK2.out w' hS).cell_of (i := 0) rfl
          have e1 : w'.cell? ⟨w.heap.size + 1, 1, none⟩ = some (.int .i64 s2) := (KK2.out w' hS).cell_of (i := 1) rfl
          have e2 : w'.cell? ⟨w.heap.size + 1, 2, none⟩ = some (.slice P2 n2 c2) := (KK2.out w' hS).cell_of (i := 2) rfl
          go_simp
        generalize W.drew = wx0 at hS0 ⊢
        refine wpAnyH_all (rs := [1, 4, 5]) (by kernel_rfl) (by simp) (heldCons rfl (fun K hK => ?_) (heldCons rfl (fun K hK => ?_) (heldCons rfl (fun K hK => ?_) heldNil)))
        · go_simp
          refine (FIT1.out _).mono ?_
          rintro e wx1 ⟨rfl, hBx⟩
          have hS1 := below_next hS0 hBx
          refine hK _ _ hS1 ?_
          clear hK K
          refine wpAnyH_all (rs := [3, 4, 5]) (by kernel_rfl) (by simp) (heldCons rfl (fun K hK => ?_) (heldCons rfl (fun K hK => ?_) (heldCons rfl (fun K hK => ?_) heldNil)))
          · go_simp
            refine (FIT2.out _).mono ?_
            rintro e wx2 ⟨rfl, hBx⟩
            have hS2 := below_next hS1 hBx
            refine hK _ _ hS2 ?_
            clear hK K
            refine wpAnyH_all (rs := [4, 5]) (by kernel_rfl) (by simp) (heldCons rfl (fun K hK => ?_) (heldCons rfl (fun K hK => ?_) heldNil))
            · go_simp
              have l7 := hS2.size
              have hS3 := hS2.alloc hS2.size (.cells #[.int .i64 0, .int .i64 0, .slice none 0 0] 27)
              have G7 := Blk.new wx2 27 #[.int .i64 0, .int .i64 0, .slice none 0 0]
              refine hK _ _ hS3 ?_
              clear hK K
              obtain ⟨v7, hv7⟩ : ∃ v, v = wx2.heap.size := ⟨_, rfl⟩
              rw [← hv7] at G7 l7 ⊢
              generalize wx2.alloc (.cells #[.int .i64 0, .int .i64 0, .slice none 0 0] 27) = wx3 at hS3 G7 ⊢
              refine wpAnyH_all (rs := [5]) (by kernel_rfl) (by simp) (heldCons rfl (fun K hK => ?_) heldNil)
              · go_simp
                have l8 := hS3.size
                have hS4 := hS3.alloc hS3.size (.cells #[.int .i64 0, .int .i64 0, .slice none 0 0] 27)
                have G8 := Blk.new wx3 27 #[.int .i64 0, .int .i64 0, .slice none 0 0]
                have hd78 := G7.lt
                have G7 := G7.alloc (.cells #[.int .i64 0, .int .i64 0, .slice none 0 0] 27)
                refine hK _ _ hS4 ?_
                clear hK K
                obtain ⟨v8, hv8⟩ : ∃ v, v = wx3.heap.size := ⟨_, rfl⟩
                rw [← hv8] at G8 l8 hd78 ⊢
                generalize wx3.alloc (.cells #[.int .i64 0, .int .i64 0, .slice none 0 0] 27) = wx4 at hS4 G8 G7 ⊢
                have hne : v7 ≠ v8 := by omega
                refine wpAnyH_all (rs := [6]) (by kernel_rfl) (by simp) (heldCons rfl (fun K hK => ?_) heldNil)
                rw [if_pos (by simp [Region.wanted])]
                refine wp_store_row 27 (.tmp 7) (.tmp 31) rfl v7 #[.int .i64 K1, .int .i64 q1, .slice P1 n1 c1] (by first | rfl | (rw [hv7]; rfl)) rfl 27 #[.int .i64 0, .int .i64 0, .slice none 0 0] G7.row (by kernel_rfl) rfl (by simp [Value.oneCell']) (hK _ _ (below_setRow hS4 l7 _) ?_)
                clear hK K
                have hSa := below_setRow hS4 l7 #[.int .i64 K1, .int .i64 q1, .slice P1 n1 c1]
                have Ga := G7.setRow_ #[.int .i64 K1, .int .i64 q1, .slice P1 n1 c1]
                have Gb := G8.setRow_far (k := v7) (Ne.symm hne) #[.int .i64 K1, .int .i64 q1, .slice P1 n1 c1]
                refine wpAnyH_all (rs := [7]) (by kernel_rfl) (by simp) (heldCons rfl (fun K hK => ?_) heldNil)
                rw [if_pos (by simp [Region.wanted])]
                refine wp_store_row 27 (.tmp 8) (.tmp 33) rfl v8 #[.int .i64 K2, .int .i64 q2, .slice P2 n2 c2] (by first | rfl | (rw [hv8]; rfl)) rfl 27 #[.int .i64 0, .int .i64 0, .slice none 0 0] Gb.row (by kernel_rfl) rfl (by simp [Value.oneCell']) (hK _ _ (below_setRow hSa l8 _) ?_)
                clear hK K
                have hSb := below_setRow hSa l8 #[.int .i64 K2, .int .i64 q2, .slice P2 n2 c2]
                have Gc := Ga.setRow_far (k := v8) hne #[.int .i64 K2, .int .i64 q2, .slice P2 n2 c2]
                have Gd := Gb.setRow_ #[.int .i64 K2, .int .i64 q2, .slice P2 n2 c2]
                refine wpAnyH_done (by kernel_rfl) ?_ _
                refine hKK _ _ (Met.intro (hJJ _ _ ?_))
                (repeat apply Exists.intro)
                refine ⟨?_, rfl⟩
                exact ⟨v7, v8, by first | rfl | rw [hv7], by first | rfl | rw [hv8], hne, l7, l8, Gc, Gd, hSb⟩
            · go_simp
              have l8 := hS2.size
              have hS3 := hS2.alloc hS2.size (.cells #[.int .i64 0, .int .i64 0, .slice none 0 0] 27)
              have G8 := Blk.new wx2 27 #[.int .i64 0, .int .i64 0, .slice none 0 0]
              refine hK _ _ hS3 ?_
              clear hK K
              obtain ⟨v8, hv8⟩ : ∃ v, v = wx2.heap.size := ⟨_, rfl⟩
              rw [← hv8] at G8 l8 ⊢
              generalize wx2.alloc (.cells #[.int .i64 0, .int .i64 0, .slice none 0 0] 27) = wx3 at hS3 G8 ⊢
              refine wpAnyH_all (rs := [4]) (by kernel_rfl) (by simp) (heldCons rfl (fun K hK => ?_) heldNil)
              · go_simp
                have l7 := hS3.size
                have hS4 := hS3.alloc hS3.size (.cells #[.int .i64 0, .int .i64 0, .slice none 0 0] 27)
                have G7 := Blk.new wx3 27 #[.int .i64 0, .int .i64 0, .slice none 0 0]
                have hd78 := G8.lt
                have G8 := G8.alloc (.cells #[.int .i64 0, .int .i64 0, .slice none 0 0] 27)
                refine hK _ _ hS4 ?_
                clear hK K
                obtain ⟨v7, hv7⟩ : ∃ v, v = wx3.heap.size := ⟨_, rfl⟩
                rw [← hv7] at G7 l7 hd78 ⊢
                generalize wx3.alloc (.cells #[.int .i64 0, .int .i64 0, .slice none 0 0] 27) = wx4 at hS4 G7 G8 ⊢
                have hne : v7 ≠ v8 := by omega
                refine wpAnyH_all (rs := [6]) (by kernel_rfl) (by simp) (heldCons rfl (fun K hK => ?_) heldNil)
                rw [if_pos (by simp [Region.wanted])]
                refine wp_store_row 27 (.tmp 7) (.tmp 31) rfl v7 #[.int .i64 K1, .int .i64 q1, .slice P1 n1 c1] (by first | rfl | (rw [hv7]; rfl)) rfl 27 #[.int .i64 0, .int .i64 0, .slice none 0 0] G7.row (by kernel_rfl) rfl (by simp [Value.oneCell']) (hK _ _ (below_setRow hS4 l7 _) ?_)
                clear hK K
                have hSa := below_setRow hS4 l7 #[.int .i64 K1, .int .i64 q1, .slice P1 n1 c1]
                have Ga := G7.setRow_ #[.int .i64 K1, .int .i64 q1, .slice P1 n1 c1]
                have Gb := G8.setRow_far (k := v7) (Ne.symm hne) #[.int .i64 K1, .int .i64 q1, .slice P1 n1 c1]
                refine wpAnyH_all (rs := [7]) (by kernel_rfl) (by simp) (heldCons rfl (fun K hK => ?_) heldNil)
                rw [if_pos (by simp [Region.wanted])]
                refine wp_store_row 27 (.tmp 8) (.tmp 33) rfl v8 #[.int .i64 K2, .int .i64 q2, .slice P2 n2 c2] (by first | rfl | (rw [hv8]; rfl)) rfl 27 #[.int .i64 0, .int .i64 0, .slice none 0 0] Gb.row (by kernel_rfl) rfl (by simp [Value.oneCell']) (hK _ _ (below_setRow hSa l8 _) ?_)
                clear hK K
                have hSb := below_setRow hSa l8 #[.int .i64 K2, .int .i64 q2, .slice P2 n2 c2]
                have Gc := Ga.setRow_far (k := v8) hne #[.int .i64 K2, .int .i64 q2, .slice P2 n2 c2]
                have Gd := Gb.setRow_ #[.int .i64 K2, .int .i64 q2, .slice P2 n2 c2]
                refine wpAnyH_done (by kernel_rfl) ?_ _
                refine hKK _ _ (Met.intro (hJJ _ _ ?_))
                (repeat apply Exists.intro)
                refine ⟨?_, rfl⟩
                exact ⟨v7, v8, by first | rfl | rw [hv7], by first | rfl | rw [hv8], hne, l7, l8, Gc, Gd, hSb⟩
          · go_simp
            have l7 := hS1.size
            have hS2 := hS1.alloc hS1.size (.cells #[.int .i64 0, .int .i64 0, .slice none 0 0] 27)
            have G7 := Blk.new wx1 27 #[.int .i64 0, .int .i64 0, .slice none 0 0]
            refine hK _ _ hS2 ?_
            clear hK K
            obtain ⟨v7, hv7⟩ : ∃ v, v = wx1.heap.size := ⟨_, rfl⟩
            rw [← hv7] at G7 l7 ⊢
            generalize wx1.alloc (.cells #[.int .i64 0, .int .i64 0, .slice none 0 0] 27) = wx2 at hS2 G7 ⊢
            refine wpAnyH_all (rs := [3, 5]) (by kernel_rfl) (by simp) (heldCons rfl (fun K hK => ?_) (heldCons rfl (fun K hK => ?_) heldNil))
            · go_simp
              refine (FIT2.out _).mono ?_
              rintro e wx3 ⟨rfl, hBx⟩
              have hS3 := below_next hS2 hBx
              have G7 := G7.below hBx G7.lt
              refine hK _ _ hS3 ?_
              clear hK K
              refine wpAnyH_all (rs := [5]) (by kernel_rfl) (by simp) (heldCons rfl (fun K hK => ?_) heldNil)
              · go_simp
                have l8 := hS3.size
                have hS4 := hS3.alloc hS3.size (.cells #[.int .i64 0, .int .i64 0, .slice none 0 0] 27)
                have G8 := Blk.new wx3 27 #[.int .i64 0, .int .i64 0, .slice none 0 0]
                have hd78 := G7.lt
                have G7 := G7.alloc (.cells #[.int .i64 0, .int .i64 0, .slice none 0 0] 27)
                refine hK _ _ hS4 ?_
                clear hK K
                obtain ⟨v8, hv8⟩ : ∃ v, v = wx3.heap.size := ⟨_, rfl⟩
                rw [← hv8] at G8 l8 hd78 ⊢
                generalize wx3.alloc (.cells #[.int .i64 0, .int .i64 0, .slice none 0 0] 27) = wx4 at hS4 G8 G7 ⊢
                have hne : v7 ≠ v8 := by omega
                refine wpAnyH_all (rs := [6]) (by kernel_rfl) (by simp) (heldCons rfl (fun K hK => ?_) heldNil)
                rw [if_pos (by simp [Region.wanted])]
                refine wp_store_row 27 (.tmp 7) (.tmp 31) rfl v7 #[.int .i64 K1, .int .i64 q1, .slice P1 n1 c1] (by first | rfl | (rw [hv7]; rfl)) rfl 27 #[.int .i64 0, .int .i64 0, .slice none 0 0] G7.row (by kernel_rfl) rfl (by simp [Value.oneCell']) (hK _ _ (below_setRow hS4 l7 _) ?_)
                clear hK K
                have hSa := below_setRow hS4 l7 #[.int .i64 K1, .int .i64 q1, .slice P1 n1 c1]
                have Ga := G7.setRow_ #[.int .i64 K1, .int .i64 q1, .slice P1 n1 c1]
                have Gb := G8.setRow_far (k := v7) (Ne.symm hne) #[.int .i64 K1, .int .i64 q1, .slice P1 n1 c1]
                refine wpAnyH_all (rs := [7]) (by kernel_rfl) (by simp) (heldCons rfl (fun K hK => ?_) heldNil)
                rw [if_pos (by simp [Region.wanted])]
                refine wp_store_row 27 (.tmp 8) (.tmp 33) rfl v8 #[.int .i64 K2, .int .i64 q2, .slice P2 n2 c2] (by first | rfl | (rw [hv8]; rfl)) rfl 27 #[.int .i64 0, .int .i64 0, .slice none 0 0] Gb.row (by kernel_rfl) rfl (by simp [Value.oneCell']) (hK _ _ (below_setRow hSa l8 _) ?_)
                clear hK K
                have hSb := below_setRow hSa l8 #[.int .i64 K2, .int .i64 q2, .slice P2 n2 c2]
                have Gc := Ga.setRow_far (k := v8) hne #[.int .i64 K2, .int .i64 q2, .slice P2 n2 c2]
                have Gd := Gb.setRow_ #[.int .i64 K2, .int .i64 q2, .slice P2 n2 c2]
                refine wpAnyH_done (by kernel_rfl) ?_ _
                refine hKK _ _ (Met.intro (hJJ _ _ ?_))
                (repeat apply Exists.intro)
                refine ⟨?_, rfl⟩
                exact ⟨v7, v8, by first | rfl | rw [hv7], by first | rfl | rw [hv8], hne, l7, l8, Gc, Gd, hSb⟩
            · go_simp
              have l8 := hS2.size
              have hS3 := hS2.alloc hS2.size (.cells #[.int .i64 0, .int .i64 0, .slice none 0 0] 27)
              have G8 := Blk.new wx2 27 #[.int .i64 0, .int .i64 0, .slice none 0 0]
              have hd78 := G7.lt
              have G7 := G7.alloc (.cells #[.int .i64 0, .int .i64 0, .slice none 0 0] 27)
              refine hK _ _ hS3 ?_
              clear hK K
              obtain ⟨v8, hv8⟩ : ∃ v, v = wx2.heap.size := ⟨_, rfl⟩
              rw [← hv8] at G8 l8 hd78 ⊢
              generalize wx2.alloc (.cells #[.int .i64 0, .int .i64 0, .slice none 0 0] 27) = wx3 at hS3 G8 G7 ⊢
              refine wpAnyH_all (rs := [3]) (by kernel_rfl) (by simp) (heldCons rfl (fun K hK => ?_) heldNil)
              · go_simp
                refine (FIT2.out _).mono ?_
                rintro e wx4 ⟨rfl, hBx⟩
                have hS4 := below_next hS3 hBx
                have G7 := G7.below hBx G7.lt
                have G8 := G8.below hBx G8.lt
                refine hK _ _ hS4 ?_
                clear hK K
                have hne : v7 ≠ v8 := by omega
                refine wpAnyH_all (rs := [6]) (by kernel_rfl) (by simp) (heldCons rfl (fun K hK => ?_) heldNil)
                rw [if_pos (by simp [Region.wanted])]
                refine wp_store_row 27 (.tmp 7) (.tmp 31) rfl v7 #[.int .i64 K1, .int .i64 q1, .slice P1 n1 c1] (by first | rfl | (rw [hv7]; rfl)) rfl 27 #[.int .i64 0, .int .i64 0, .slice none 0 0] G7.row (by kernel_rfl) rfl (by simp [Value.oneCell']) (hK _ _ (below_setRow hS4 l7 _) ?_)
                clear hK K
                have hSa := below_setRow hS4 l7 #[.int .i64 K1, .int .i64 q1, .slice P1 n1 c1]
                have Ga := G7.setRow_ #[.int .i64 K1, .int .i64 q1, .slice P1 n1 c1]
                have Gb := G8.setRow_far (k := v7) (Ne.symm hne) #[.int .i64 K1, .int .i64 q1, .slice P1 n1 c1]
                refine wpAnyH_all (rs := [7]) (by kernel_rfl) (by simp) (heldCons rfl (fun K hK => ?_) heldNil)
                rw [if_pos (by simp [Region.wanted])]
                refine wp_store_row 27 (.tmp 8) (.tmp 33) rfl v8 #[.int .i64 K2, .int .i64 q2, .slice P2 n2 c2] (by first | rfl | (rw [hv8]; rfl)) rfl 27 #[.int .i64 0, .int .i64 0, .slice none 0 0] Gb.row (by kernel_rfl) rfl (by simp [Value.oneCell']) (hK _ _ (below_setRow hSa l8 _) ?_)
                clear hK K
                have hSb := below_setRow hSa l8 #[.int .i64 K2, .int .i64 q2, .slice P2 n2 c2]
                have Gc := Ga.setRow_far (k := v8) hne #[.int .i64 K2, .int .i64 q2, .slice P2 n2 c2]
                have Gd := Gb.setRow_ #[.int .i64 K2, .int .i64 q2, .slice P2 n2 c2]
                refine wpAnyH_done (by kernel_rfl) ?_ _
                refine hKK _ _ (Met.intro (hJJ _ _ ?_))
                (repeat apply Exists.intro)
                refine ⟨?_, rfl⟩
                exact ⟨v7, v8, by first | rfl | rw [hv7], by first | rfl | rw [hv8], hne, l7, l8, Gc, Gd, hSb⟩
          · go_simp
            have l8 := hS1.size
            have hS2 := hS1.alloc hS1.size (.cells #[.int .i64 0, .int .i64 0, .slice none 0 0] 27)
            have G8 := Blk.new wx1 27 #[.int .i64 0, .int .i64 0, .slice none 0 0]
            refine hK _ _ hS2 ?_
            clear hK K
            obtain ⟨v8, hv8⟩ : ∃ v, v = wx1.heap.size := ⟨_, rfl⟩
            rw [← hv8] at G8 l8 ⊢
            generalize wx1.alloc (.cells #[.int .i64 0, .int .i64 0, .slice none 0 0] 27) = wx2 at hS2 G8 ⊢
            refine wpAnyH_all (rs := [3, 4]) (by kernel_rfl) (by simp) (heldCons rfl (fun K hK => ?_) (heldCons rfl (fun K hK => ?_) heldNil))
            · go_simp
              refine (FIT2.out _).mono ?_
              rintro e wx3 ⟨rfl, hBx⟩
              have hS3 := below_next hS2 hBx
              have G8 := G8.below hBx G8.lt
              refine hK _ _ hS3 ?_
              clear hK K
              refine wpAnyH_all (rs := [4]) (by kernel_rfl) (by simp) (heldCons rfl (fun K hK => ?_) heldNil)
              · go_simp
                have l7 := hS3.size
                have hS4 := hS3.alloc hS3.size (.cells #[.int .i64 0, .int .i64 0, .slice none 0 0] 27)
                have G7 := Blk.new wx3 27 #[.int .i64 0, .int .i64 0, .slice none 0 0]
                have hd78 := G8.lt
                have G8 := G8.alloc (.cells #[.int .i64 0, .int .i64 0, .slice none 0 0] 27)
                refine hK _ _ hS4 ?_
                clear hK K
                obtain ⟨v7, hv7⟩ : ∃ v, v = wx3.heap.size := ⟨_, rfl⟩
                rw [← hv7] at G7 l7 hd78 ⊢
                generalize wx3.alloc (.cells #[.int .i64 0, .int .i64 0, .slice none 0 0] 27) = wx4 at hS4 G7 G8 ⊢
                have hne : v7 ≠ v8 := by omega
                refine wpAnyH_all (rs := [6]) (by kernel_rfl) (by simp) (heldCons rfl (fun K hK => ?_) heldNil)
                rw [if_pos (by simp [Region.wanted])]
                refine wp_store_row 27 (.tmp 7) (.tmp 31) rfl v7 #[.int .i64 K1, .int .i64 q1, .slice P1 n1 c1] (by first | rfl | (rw [hv7]; rfl)) rfl 27 #[.int .i64 0, .int .i64 0, .slice none 0 0] G7.row (by kernel_rfl) rfl (by simp [Value.oneCell']) (hK _ _ (below_setRow hS4 l7 _) ?_)
                clear hK K
                have hSa := below_setRow hS4 l7 #[.int .i64 K1, .int .i64 q1, .slice P1 n1 c1]
                have Ga := G7.setRow_ #[.int .i64 K1, .int .i64 q1, .slice P1 n1 c1]
                have Gb := G8.setRow_far (k := v7) (Ne.symm hne) #[.int .i64 K1, .int .i64 q1, .slice P1 n1 c1]
                refine wpAnyH_all (rs := [7]) (by kernel_rfl) (by simp) (heldCons rfl (fun K hK => ?_) heldNil)
                rw [if_pos (by simp [Region.wanted])]
                refine wp_store_row 27 (.tmp 8) (.tmp 33) rfl v8 #[.int .i64 K2, .int .i64 q2, .slice P2 n2 c2] (by first | rfl | (rw [hv8]; rfl)) rfl 27 #[.int .i64 0, .int .i64 0, .slice none 0 0] Gb.row (by kernel_rfl) rfl (by simp [Value.oneCell']) (hK _ _ (below_setRow hSa l8 _) ?_)
                clear hK K
                have hSb := below_setRow hSa l8 #[.int .i64 K2, .int .i64 q2, .slice P2 n2 c2]
                have Gc := Ga.setRow_far (k := v8) hne #[.int .i64 K2, .int .i64 q2, .slice P2 n2 c2]
                have Gd := Gb.setRow_ #[.int .i64 K2, .int .i64 q2, .slice P2 n2 c2]
                refine wpAnyH_done (by kernel_rfl) ?_ _
                refine hKK _ _ (Met.intro (hJJ _ _ ?_))
                (repeat apply Exists.intro)
                refine ⟨?_, rfl⟩
                exact ⟨v7, v8, by first | rfl | rw [hv7], by first | rfl | rw [hv8], hne, l7, l8, Gc, Gd, hSb⟩
            · go_simp
              have l7 := hS2.size
              have hS3 := hS2.alloc hS2.size (.cells #[.int .i64 0, .int .i64 0, .slice none 0 0] 27)
              have G7 := Blk.new wx2 27 #[.int .i64 0, .int .i64 0, .slice none 0 0]
              have hd78 := G8.lt
              have G8 := G8.alloc (.cells #[.int .i64 0, .int .i64 0, .slice none 0 0] 27)
              refine hK _ _ hS3 ?_
              clear hK K
              obtain ⟨v7, hv7⟩ : ∃ v, v = wx2.heap.size := ⟨_, rfl⟩
              rw [← hv7] at G7 l7 hd78 ⊢
              generalize wx2.alloc (.cells #[.int .i64 0, .int .i64 0, .slice none 0 0] 27) = wx3 at hS3 G7 G8 ⊢
              refine wpAnyH_all (rs := [3]) (by kernel_rfl) (by simp) (heldCons rfl (fun K hK => ?_) heldNil)
              · go_simp
                refine (FIT2.out _).mono ?_
                rintro e wx4 ⟨rfl, hBx⟩
                have hS4 := below_next hS3 hBx
                have G7 := G7.below hBx G7.lt
                have G8 := G8.below hBx G8.lt
                refine hK _ _ hS4 ?_
                clear hK K
                have hne : v7 ≠ v8 := by omega
                refine wpAnyH_all (rs := [6]) (by kernel_rfl) (by simp) (heldCons rfl (fun K hK => ?_) heldNil)
                rw [if_pos (by simp [Region.wanted])]
                refine wp_store_row 27 (.tmp 7) (.tmp 31) rfl v7 #[.int .i64 K1, .int .i64 q1, .slice P1 n1 c1] (by first | rfl | (rw [hv7]; rfl)) rfl 27 #[.int .i64 0, .int .i64 0, .slice none 0 0] G7.row (by kernel_rfl) rfl (by simp [Value.oneCell']) (hK _ _ (below_setRow hS4 l7 _) ?_)
                clear hK K
                have hSa := below_setRow hS4 l7 #[.int .i64 K1, .int .i64 q1, .slice P1 n1 c1]
                have Ga := G7.setRow_ #[.int .i64 K1, .int .i64 q1, .slice P1 n1 c1]
                have Gb := G8.setRow_far (k := v7) (Ne.symm hne) #[.int .i64 K1, .int .i64 q1, .slice P1 n1 c1]
                refine wpAnyH_all (rs := [7]) (by kernel_rfl) (by simp) (heldCons rfl (fun K hK => ?_) heldNil)
                rw [if_pos (by simp [Region.wanted])]
                refine wp_store_row 27 (.tmp 8) (.tmp 33) rfl v8 #[.int .i64 K2, .int .i64 q2, .slice P2 n2 c2] (by first | rfl | (rw [hv8]; rfl)) rfl 27 #[.int .i64 0, .int .i64 0, .slice none 0 0] Gb.row (by kernel_rfl) rfl (by simp [Value.oneCell']) (hK _ _ (below_setRow hSa l8 _) ?_)
                clear hK K
                have hSb := below_setRow hSa l8 #[.int .i64 K2, .int .i64 q2, .slice P2 n2 c2]
                have Gc := Ga.setRow_far (k := v8) hne #[.int .i64 K2, .int .i64 q2, .slice P2 n2 c2]
                have Gd := Gb.setRow_ #[.int .i64 K2, .int .i64 q2, .slice P2 n2 c2]
                refine wpAnyH_done (by kernel_rfl) ?_ _
                refine hKK _ _ (Met.intro (hJJ _ _ ?_))
                (repeat apply Exists.intro)
                refine ⟨?_, rfl⟩
                exact ⟨v7, v8, by first | rfl | rw [hv7], by first | rfl | rw [hv8], hne, l7, l8, Gc, Gd, hSb⟩
        · go_simp
          have l7 := hS0.size
          have hS1 := hS0.alloc hS0.size (.cells #[.int .i64 0, .int .i64 0, .slice none 0 0] 27)
          have G7 := Blk.new wx0 27 #[.int .i64 0, .int .i64 0, .slice none 0 0]
          refine hK _ _ hS1 ?_
          clear hK K
          obtain ⟨v7, hv7⟩ : ∃ v, v = wx0.heap.size := ⟨_, rfl⟩
          rw [← hv7] at G7 l7 ⊢
          generalize wx0.alloc (.cells #[.int .i64 0, .int .i64 0, .slice none 0 0] 27) = wx1 at hS1 G7 ⊢
          refine wpAnyH_all (rs := [1, 5]) (by kernel_rfl) (by simp) (heldCons rfl (fun K hK => ?_) (heldCons rfl (fun K hK => ?_) heldNil))
          · go_simp
            refine (FIT1.out _).mono ?_
            rintro e wx2 ⟨rfl, hBx⟩
            have hS2 := below_next hS1 hBx
            have G7 := G7.below hBx G7.lt
            refine hK _ _ hS2 ?_
            clear hK K
            refine wpAnyH_all (rs := [3, 5]) (by kernel_rfl) (by simp) (heldCons rfl (fun K hK => ?_) (heldCons rfl (fun K hK => ?_) heldNil))
            · go_simp
              refine (FIT2.out _).mono ?_
              rintro e wx3 ⟨rfl, hBx⟩
              have hS3 := below_next hS2 hBx
              have G7 := G7.below hBx G7.lt
              refine hK _ _ hS3 ?_
              clear hK K
              refine wpAnyH_all (rs := [5]) (by kernel_rfl) (by simp) (heldCons rfl (fun K hK => ?_) heldNil)
              · go_simp
                have l8 := hS3.size
                have hS4 := hS3.alloc hS3.size (.cells #[.int .i64 0, .int .i64 0, .slice none 0 0] 27)
                have G8 := Blk.new wx3 27 #[.int .i64 0, .int .i64 0, .slice none 0 0]
                have hd78 := G7.lt
                have G7 := G7.alloc (.cells #[.int .i64 0, .int .i64 0, .slice none 0 0] 27)
                refine hK _ _ hS4 ?_
                clear hK K
                obtain ⟨v8, hv8⟩ : ∃ v, v = wx3.heap.size := ⟨_, rfl⟩
                rw [← hv8] at G8 l8 hd78 ⊢
                generalize wx3.alloc (.cells #[.int .i64 0, .int .i64 0, .slice none 0 0] 27) = wx4 at hS4 G8 G7 ⊢
                have hne : v7 ≠ v8 := by omega
                refine wpAnyH_all (rs := [6]) (by kernel_rfl) (by simp) (heldCons rfl (fun K hK => ?_) heldNil)
                rw [if_pos (by simp [Region.wanted])]
                refine wp_store_row 27 (.tmp 7) (.tmp 31) rfl v7 #[.int .i64 K1, .int .i64 q1, .slice P1 n1 c1] (by first | rfl | (rw [hv7]; rfl)) rfl 27 #[.int .i64 0, .int .i64 0, .slice none 0 0] G7.row (by kernel_rfl) rfl (by simp [Value.oneCell']) (hK _ _ (below_setRow hS4 l7 _) ?_)
                clear hK K
                have hSa := below_setRow hS4 l7 #[.int .i64 K1, .int .i64 q1, .slice P1 n1 c1]
                have Ga := G7.setRow_ #[.int .i64 K1, .int .i64 q1, .slice P1 n1 c1]
                have Gb := G8.setRow_far (k := v7) (Ne.symm hne) #[.int .i64 K1, .int .i64 q1, .slice P1 n1 c1]
                refine wpAnyH_all (rs := [7]) (by kernel_rfl) (by simp) (heldCons rfl (fun K hK => ?_) heldNil)
                rw [if_pos (by simp [Region.wanted])]
                refine wp_store_row 27 (.tmp 8) (.tmp 33) rfl v8 #[.int .i64 K2, .int .i64 q2, .slice P2 n2 c2] (by first | rfl | (rw [hv8]; rfl)) rfl 27 #[.int .i64 0, .int .i64 0, .slice none 0 0] Gb.row (by kernel_rfl) rfl (by simp [Value.oneCell']) (hK _ _ (below_setRow hSa l8 _) ?_)
                clear hK K
                have hSb := below_setRow hSa l8 #[.int .i64 K2, .int .i64 q2, .slice P2 n2 c2]
                have Gc := Ga.setRow_far (k := v8) hne #[.int .i64 K2, .int .i64 q2, .slice P2 n2 c2]
                have Gd := Gb.setRow_ #[.int .i64 K2, .int .i64 q2, .slice P2 n2 c2]
                refine wpAnyH_done (by kernel_rfl) ?_ _
                refine hKK _ _ (Met.intro (hJJ _ _ ?_))
                (repeat apply Exists.intro)
                refine ⟨?_, rfl⟩
                exact ⟨v7, v8, by first | rfl | rw [hv7], by first | rfl | rw [hv8], hne, l7, l8, Gc, Gd, hSb⟩
            · go_simp
              have l8 := hS2.size
              have hS3 := hS2.alloc hS2.size (.cells #[.int .i64 0, .int .i64 0, .slice none 0 0] 27)
              have G8 := Blk.new wx2 27 #[.int .i64 0, .int .i64 0, .slice none 0 0]
              have hd78 := G7.lt
              have G7 := G7.alloc (.cells #[.int .i64 0, .int .i64 0, .slice none 0 0] 27)
              refine hK _ _ hS3 ?_
              clear hK K
              obtain ⟨v8, hv8⟩ : ∃ v, v = wx2.heap.size := ⟨_, rfl⟩
              rw [← hv8] at G8 l8 hd78 ⊢
              generalize wx2.alloc (.cells #[.int .i64 0, .int .i64 0, .slice none 0 0] 27) = wx3 at hS3 G8 G7 ⊢
              refine wpAnyH_all (rs := [3]) (by kernel_rfl) (by simp) (heldCons rfl (fun K hK => ?_) heldNil)
              · go_simp
                refine (FIT2.out _).mono ?_
                rintro e wx4 ⟨rfl, hBx⟩
                have hS4 := below_next hS3 hBx
                have G7 := G7.below hBx G7.lt
                have G8 := G8.below hBx G8.lt
                refine hK _ _ hS4 ?_
                clear hK K
                have hne : v7 ≠ v8 := by omega
                refine wpAnyH_all (rs := [6]) (by kernel_rfl) (by simp) (heldCons rfl (fun K hK => ?_) heldNil)
                rw [if_pos (by simp [Region.wanted])]
                refine wp_store_row 27 (.tmp 7) (.tmp 31) rfl v7 #[.int .i64 K1, .int .i64 q1, .slice P1 n1 c1] (by first | rfl | (rw [hv7]; rfl)) rfl 27 #[.int .i64 0, .int .i64 0, .slice none 0 0] G7.row (by kernel_rfl) rfl (by simp [Value.oneCell']) (hK _ _ (below_setRow hS4 l7 _) ?_)
                clear hK K
                have hSa := below_setRow hS4 l7 #[.int .i64 K1, .int .i64 q1, .slice P1 n1 c1]
                have Ga := G7.setRow_ #[.int .i64 K1, .int .i64 q1, .slice P1 n1 c1]
                have Gb := G8.setRow_far (k := v7) (Ne.symm hne) #[.int .i64 K1, .int .i64 q1, .slice P1 n1 c1]
                refine wpAnyH_all (rs := [7]) (by kernel_rfl) (by simp) (heldCons rfl (fun K hK => ?_) heldNil)
                rw [if_pos (by simp [Region.wanted])]
                refine wp_store_row 27 (.tmp 8) (.tmp 33) rfl v8 #[.int .i64 K2, .int .i64 q2, .slice P2 n2 c2] (by first | rfl | (rw [hv8]; rfl)) rfl 27 #[.int .i64 0, .int .i64 0, .slice none 0 0] Gb.row (by kernel_rfl) rfl (by simp [Value.oneCell']) (hK _ _ (below_setRow hSa l8 _) ?_)
                clear hK K
                have hSb := below_setRow hSa l8 #[.int .i64 K2, .int .i64 q2, .slice P2 n2 c2]
                have Gc := Ga.setRow_far (k := v8) hne #[.int .i64 K2, .int .i64 q2, .slice P2 n2 c2]
                have Gd := Gb.setRow_ #[.int .i64 K2, .int .i64 q2, .slice P2 n2 c2]
                refine wpAnyH_done (by kernel_rfl) ?_ _
                refine hKK _ _ (Met.intro (hJJ _ _ ?_))
                (repeat apply Exists.intro)
                refine ⟨?_, rfl⟩
                exact ⟨v7, v8, by first | rfl | rw [hv7], by first | rfl | rw [hv8], hne, l7, l8, Gc, Gd, hSb⟩
          · go_simp
            have l8 := hS1.size
            have hS2 := hS1.alloc hS1.size (.cells #[.int .i64 0, .int .i64 0, .slice none 0 0] 27)
            have G8 := Blk.new wx1 27 #[.int .i64 0, .int .i64 0, .slice none 0 0]
            have hd78 := G7.lt
            have G7 := G7.alloc (.cells #[.int .i64 0, .int .i64 0, .slice none 0 0] 27)
            refine hK _ _ hS2 ?_
            clear hK K
            obtain ⟨v8, hv8⟩ : ∃ v, v = wx1.heap.size := ⟨_, rfl⟩
            rw [← hv8] at G8 l8 hd78 ⊢
            generalize wx1.alloc (.cells #[.int .i64 0, .int .i64 0, .slice none 0 0] 27) = wx2 at hS2 G8 G7 ⊢
            refine wpAnyH_all (rs := [1]) (by kernel_rfl) (by simp) (heldCons rfl (fun K hK => ?_) heldNil)
            · go_simp
              refine (FIT1.out _).mono ?_
              rintro e wx3 ⟨rfl, hBx⟩
              have hS3 := below_next hS2 hBx
              have G7 := G7.below hBx G7.lt
              have G8 := G8.below hBx G8.lt
              refine hK _ _ hS3 ?_
              clear hK K
              refine wpAnyH_all (rs := [3]) (by kernel_rfl) (by simp) (heldCons rfl (fun K hK => ?_) heldNil)
              · go_simp
                refine (FIT2.out _).mono ?_
                rintro e wx4 ⟨rfl, hBx⟩
                have hS4 := below_next hS3 hBx
                have G7 := G7.below hBx G7.lt
                have G8 := G8.below hBx G8.lt
                refine hK _ _ hS4 ?_
                clear hK K
                have hne : v7 ≠ v8 := by omega
                refine wpAnyH_all (rs := [6]) (by kernel_rfl) (by simp) (heldCons rfl (fun K hK => ?_) heldNil)
                rw [if_pos (by simp [Region.wanted])]
                refine wp_store_row 27 (.tmp 7) (.tmp 31) rfl v7 #[.int .i64 K1, .int .i64 q1, .slice P1 n1 c1] (by first | rfl | (rw [hv7]; rfl)) rfl 27 #[.int .i64 0, .int .i64 0, .slice none 0 0] G7.row (by kernel_rfl) rfl (by simp [Value.oneCell']) (hK _ _ (below_setRow hS4 l7 _) ?_)
                clear hK K
                have hSa := below_setRow hS4 l7 #[.int .i64 K1, .int .i64 q1, .slice P1 n1 c1]
                have Ga := G7.setRow_ #[.int .i64 K1, .int .i64 q1, .slice P1 n1 c1]
                have Gb := G8.setRow_far (k := v7) (Ne.symm hne) #[.int .i64 K1, .int .i64 q1, .slice P1 n1 c1]
                refine wpAnyH_all (rs := [7]) (by kernel_rfl) (by simp) (heldCons rfl (fun K hK => ?_) heldNil)
                rw [if_pos (by simp [Region.wanted])]
                refine wp_store_row 27 (.tmp 8) (.tmp 33) rfl v8 #[.int .i64 K2, .int .i64 q2, .slice P2 n2 c2] (by first | rfl | (rw [hv8]; rfl)) rfl 27 #[.int .i64 0, .int .i64 0, .slice none 0 0] Gb.row (by kernel_rfl) rfl (by simp [Value.oneCell']) (hK _ _ (below_setRow hSa l8 _) ?_)
                clear hK K
                have hSb := below_setRow hSa l8 #[.int .i64 K2, .int .i64 q2, .slice P2 n2 c2]
                have Gc := Ga.setRow_far (k := v8) hne #[.int .i64 K2, .int .i64 q2, .slice P2 n2 c2]
                have Gd := Gb.setRow_ #[.int .i64 K2, .int .i64 q2, .slice P2 n2 c2]
                refine wpAnyH_done (by kernel_rfl) ?_ _
                refine hKK _ _ (Met.intro (hJJ _ _ ?_))
                (repeat apply Exists.intro)
                refine ⟨?_, rfl⟩
                exact ⟨v7, v8, by first | rfl | rw [hv7], by first | rfl | rw [hv8], hne, l7, l8, Gc, Gd, hSb⟩
        · go_simp
          have l8 := hS0.size
          have hS1 := hS0.alloc hS0.size (.cells #[.int .i64 0, .int .i64 0, .slice none 0 0] 27)
          have G8 := Blk.new wx0 27 #[.int .i64 0, .int .i64 0, .slice none 0 0]
          refine hK _ _ hS1 ?_
          clear hK K
          obtain ⟨v8, hv8⟩ : ∃ v, v = wx0.heap.size := ⟨_, rfl⟩
          rw [← hv8] at G8 l8 ⊢
          generalize wx0.alloc (.cells #[.int .i64 0, .int .i64 0, .slice none 0 0] 27) = wx1 at hS1 G8 ⊢
          refine wpAnyH_all (rs := [1, 4]) (by kernel_rfl) (by simp) (heldCons rfl (fun K hK => ?_) (heldCons rfl (fun K hK => ?_) heldNil))
          · go_simp
            refine (FIT1.out _).mono ?_
            rintro e wx2 ⟨rfl, hBx⟩
            have hS2 := below_next hS1 hBx
            have G8 := G8.below hBx G8.lt
            refine hK _ _ hS2 ?_
            clear hK K
            refine wpAnyH_all (rs := [3, 4]) (by kernel_rfl) (by simp) (heldCons rfl (fun K hK => ?_) (heldCons rfl (fun K hK => ?_) heldNil))
            · go_simp
              refine (FIT2.out _).mono ?_
              rintro e wx3 ⟨rfl, hBx⟩
              have hS3 := below_next hS2 hBx
              have G8 := G8.below hBx G8.lt
              refine hK _ _ hS3 ?_
              clear hK K
              refine wpAnyH_all (rs := [4]) (by kernel_rfl) (by simp) (heldCons rfl (fun K hK => ?_) heldNil)
              · go_simp
                have l7 := hS3.size
                have hS4 := hS3.alloc hS3.size (.cells #[.int .i64 0, .int .i64 0, .slice none 0 0] 27)
                have G7 := Blk.new wx3 27 #[.int .i64 0, .int .i64 0, .slice none 0 0]
                have hd78 := G8.lt
                have G8 := G8.alloc (.cells #[.int .i64 0, .int .i64 0, .slice none 0 0] 27)
                refine hK _ _ hS4 ?_
                clear hK K
                obtain ⟨v7, hv7⟩ : ∃ v, v = wx3.heap.size := ⟨_, rfl⟩
                rw [← hv7] at G7 l7 hd78 ⊢
                generalize wx3.alloc (.cells #[.int .i64 0, .int .i64 0, .slice none 0 0] 27) = wx4 at hS4 G7 G8 ⊢
                have hne : v7 ≠ v8 := by omega
                refine wpAnyH_all (rs := [6]) (by kernel_rfl) (by simp) (heldCons rfl (fun K hK => ?_) heldNil)
                rw [if_pos (by simp [Region.wanted])]
                refine wp_store_row 27 (.tmp 7) (.tmp 31) rfl v7 #[.int .i64 K1, .int .i64 q1, .slice P1 n1 c1] (by first | rfl | (rw [hv7]; rfl)) rfl 27 #[.int .i64 0, .int .i64 0, .slice none 0 0] G7.row (by kernel_rfl) rfl (by simp [Value.oneCell']) (hK _ _ (below_setRow hS4 l7 _) ?_)
                clear hK K
                have hSa := below_setRow hS4 l7 #[.int .i64 K1, .int .i64 q1, .slice P1 n1 c1]
                have Ga := G7.setRow_ #[.int .i64 K1, .int .i64 q1, .slice P1 n1 c1]
                have Gb := G8.setRow_far (k := v7) (Ne.symm hne) #[.int .i64 K1, .int .i64 q1, .slice P1 n1 c1]
                refine wpAnyH_all (rs := [7]) (by kernel_rfl) (by simp) (heldCons rfl (fun K hK => ?_) heldNil)
                rw [if_pos (by simp [Region.wanted])]
                refine wp_store_row 27 (.tmp 8) (.tmp 33) rfl v8 #[.int .i64 K2, .int .i64 q2, .slice P2 n2 c2] (by first | rfl | (rw [hv8]; rfl)) rfl 27 #[.int .i64 0, .int .i64 0, .slice none 0 0] Gb.row (by kernel_rfl) rfl (by simp [Value.oneCell']) (hK _ _ (below_setRow hSa l8 _) ?_)
                clear hK K
                have hSb := below_setRow hSa l8 #[.int .i64 K2, .int .i64 q2, .slice P2 n2 c2]
                have Gc := Ga.setRow_far (k := v8) hne #[.int .i64 K2, .int .i64 q2, .slice P2 n2 c2]
                have Gd := Gb.setRow_ #[.int .i64 K2, .int .i64 q2, .slice P2 n2 c2]
                refine wpAnyH_done (by kernel_rfl) ?_ _
                refine hKK _ _ (Met.intro (hJJ _ _ ?_))
                (repeat apply Exists.intro)
                refine ⟨?_, rfl⟩
                exact ⟨v7, v8, by first | rfl | rw [hv7], by first | rfl | rw [hv8], hne, l7, l8, Gc, Gd, hSb⟩
            · go_simp
              have l7 := hS2.size
              have hS3 := hS2.alloc hS2.size (.cells #[.int .i64 0, .int .i64 0, .slice none 0 0] 27)
              have G7 := Blk.new wx2 27 #[.int .i64 0, .int .i64 0, .slice none 0 0]
              have hd78 := G8.lt
              have G8 := G8.alloc (.cells #[.int .i64 0, .int .i64 0, .slice none 0 0] 27)
              refine hK _ _ hS3 ?_
              clear hK K
              obtain ⟨v7, hv7⟩ : ∃ v, v = wx2.heap.size := ⟨_, rfl⟩
              rw [← hv7] at G7 l7 hd78 ⊢
              generalize wx2.alloc (.cells #[.int .i64 0, .int .i64 0, .slice none 0 0] 27) = wx3 at hS3 G7 G8 ⊢
              refine wpAnyH_all (rs := [3]) (by kernel_rfl) (by simp) (heldCons rfl (fun K hK => ?_) heldNil)
              · go_simp
                refine (FIT2.out _).mono ?_
                rintro e wx4 ⟨rfl, hBx⟩
                have hS4 := below_next hS3 hBx
                have G7 := G7.below hBx G7.lt
                have G8 := G8.below hBx G8.lt
                refine hK _ _ hS4 ?_
                clear hK K
                have hne : v7 ≠ v8 := by omega
                refine wpAnyH_all (rs := [6]) (by kernel_rfl) (by simp) (heldCons rfl (fun K hK => ?_) heldNil)
                rw [if_pos (by simp [Region.wanted])]
                refine wp_store_row 27 (.tmp 7) (.tmp 31) rfl v7 #[.int .i64 K1, .int .i64 q1, .slice P1 n1 c1] (by first | rfl | (rw [hv7]; rfl)) rfl 27 #[.int .i64 0, .int .i64 0, .slice none 0 0] G7.row (by kernel_rfl) rfl (by simp [Value.oneCell']) (hK _ _ (below_setRow hS4 l7 _) ?_)
                clear hK K
                have hSa := below_setRow hS4 l7 #[.int .i64 K1, .int .i64 q1, .slice P1 n1 c1]
                have Ga := G7.setRow_ #[.int .i64 K1, .int .i64 q1, .slice P1 n1 c1]
                have Gb := G8.setRow_far (k := v7) (Ne.symm hne) #[.int .i64 K1, .int .i64 q1, .slice P1 n1 c1]
                refine wpAnyH_all (rs := [7]) (by kernel_rfl) (by simp) (heldCons rfl (fun K hK => ?_) heldNil)
                rw [if_pos (by simp [Region.wanted])]
                refine wp_store_row 27 (.tmp 8) (.tmp 33) rfl v8 #[.int .i64 K2, .int .i64 q2, .slice P2 n2 c2] (by first | rfl | (rw [hv8]; rfl)) rfl 27 #[.int .i64 0, .int .i64 0, .slice none 0 0] Gb.row (by kernel_rfl) rfl (by simp [Value.oneCell']) (hK _ _ (below_setRow hSa l8 _) ?_)
                clear hK K
                have hSb := below_setRow hSa l8 #[.int .i64 K2, .int .i64 q2, .slice P2 n2 c2]
                have Gc := Ga.setRow_far (k := v8) hne #[.int .i64 K2, .int .i64 q2, .slice P2 n2 c2]
                have Gd := Gb.setRow_ #[.int .i64 K2, .int .i64 q2, .slice P2 n2 c2]
                refine wpAnyH_done (by kernel_rfl) ?_ _
                refine hKK _ _ (Met.intro (hJJ _ _ ?_))
                (repeat apply Exists.intro)
                refine ⟨?_, rfl⟩
                exact ⟨v7, v8, by first | rfl | rw [hv7], by first | rfl | rw [hv8], hne, l7, l8, Gc, Gd, hSb⟩
          · go_simp
            have l7 := hS1.size
            have hS2 := hS1.alloc hS1.size (.cells #[.int .i64 0, .int .i64 0, .slice none 0 0] 27)
            have G7 := Blk.new wx1 27 #[.int .i64 0, .int .i64 0, .slice none 0 0]
            have hd78 := G8.lt
            have G8 := G8.alloc (.cells #[.int .i64 0, .int .i64 0, .slice none 0 0] 27)
            refine hK _ _ hS2 ?_
            clear hK K
            obtain ⟨v7, hv7⟩ : ∃ v, v = wx1.heap.size := ⟨_, rfl⟩
            rw [← hv7] at G7 l7 hd78 ⊢
            generalize wx1.alloc (.cells #[.int .i64 0, .int .i64 0, .slice none 0 0] 27) = wx2 at hS2 G7 G8 ⊢
            refine wpAnyH_all (rs := [1]) (by kernel_rfl) (by simp) (heldCons rfl (fun K hK => ?_) heldNil)
            · go_simp
              refine (FIT1.out _).mono ?_
              rintro e wx3 ⟨rfl, hBx⟩
              have hS3 := below_next hS2 hBx
              have G7 := G7.below hBx G7.lt
              have G8 := G8.below hBx G8.lt
              refine hK _ _ hS3 ?_
              clear hK K
              refine wpAnyH_all (rs := [3]) (by kernel_rfl) (by simp) (heldCons rfl (fun K hK => ?_) heldNil)
              · go_simp
                refine (FIT2.out _).mono ?_
                rintro e wx4 ⟨rfl, hBx⟩
                have hS4 := below_next hS3 hBx
                have G7 := G7.below hBx G7.lt
                have G8 := G8.below hBx G8.lt
                refine hK _ _ hS4 ?_
                clear hK K
                have hne : v7 ≠ v8 := by omega
                refine wpAnyH_all (rs := [6]) (by kernel_rfl) (by simp) (heldCons rfl (fun K hK => ?_) heldNil)
                rw [if_pos (by simp [Region.wanted])]
                refine wp_store_row 27 (.tmp 7) (.tmp 31) rfl v7 #[.int .i64 K1, .int .i64 q1, .slice P1 n1 c1] (by first | rfl | (rw [hv7]; rfl)) rfl 27 #[.int .i64 0, .int .i64 0, .slice none 0 0] G7.row (by kernel_rfl) rfl (by simp [Value.oneCell']) (hK _ _ (below_setRow hS4 l7 _) ?_)
                clear hK K
                have hSa := below_setRow hS4 l7 #[.int .i64 K1, .int .i64 q1, .slice P1 n1 c1]
                have Ga := G7.setRow_ #[.int .i64 K1, .int .i64 q1, .slice P1 n1 c1]
                have Gb := G8.setRow_far (k := v7) (Ne.symm hne) #[.int .i64 K1, .int .i64 q1, .slice P1 n1 c1]
                refine wpAnyH_all (rs := [7]) (by kernel_rfl) (by simp) (heldCons rfl (fun K hK => ?_) heldNil)
                rw [if_pos (by simp [Region.wanted])]
                refine wp_store_row 27 (.tmp 8) (.tmp 33) rfl v8 #[.int .i64 K2, .int .i64 q2, .slice P2 n2 c2] (by first | rfl | (rw [hv8]; rfl)) rfl 27 #[.int .i64 0, .int .i64 0, .slice none 0 0] Gb.row (by kernel_rfl) rfl (by simp [Value.oneCell']) (hK _ _ (below_setRow hSa l8 _) ?_)
                clear hK K
                have hSb := below_setRow hSa l8 #[.int .i64 K2, .int .i64 q2, .slice P2 n2 c2]
                have Gc := Ga.setRow_far (k := v8) hne #[.int .i64 K2, .int .i64 q2, .slice P2 n2 c2]
                have Gd := Gb.setRow_ #[.int .i64 K2, .int .i64 q2, .slice P2 n2 c2]
                refine wpAnyH_done (by kernel_rfl) ?_ _
                refine hKK _ _ (Met.intro (hJJ _ _ ?_))
                (repeat apply Exists.intro)
                refine ⟨?_, rfl⟩
                exact ⟨v7, v8, by first | rfl | rw [hv7], by first | rfl | rw [hv8], hne, l7, l8, Gc, Gd, hSb⟩
      case rest =>
        obtain ⟨b7, b8, rfl, rfl, hne, l7, l8, G7, G8, hBx⟩ := hcut
        have x1 : wc.cell? ⟨b7, 1, none⟩ = some (.int .i64 q1) := G7.cell_of (i := 1) rfl
        have y1 : wc.cell? ⟨b8, 1, none⟩ = some (.int .i64 q2) := G8.cell_of (i := 1) rfl
        have fy := G8.frozen 1
        have HG7 := Lib.hid G7
        have HG8 := Lib.hid G8
        clear G7 G8
        go_upto_if 38 with fail
        go_cut [] from 34 to 42 (fun wx => ∃ q : Nat, q1 ≠ q ∧ 1 ≤ q ∧ q ≤ 1000001 ∧ Blk wx b7 27 #[.int .i64 K1, .int .i64 q1, .slice P1 n1 c1] ∧ Blk wx b8 27 #[.int .i64 K2, .int .i64 q, .slice P2 n2 c2] ∧ Below W.heap.size W wx)
        case first =>
          by_cases hq : q1 = q2
          · have hq1 : ((q1 : Int) == (q2 : Int)) = true := by simp [hq]
            have HQ := Lib.hid hq
            clear hq
            go_wp2_with fail
            go_meet
            case rel => exact ⟨q2 + 1, by have := HQ.out; omega, by omega, by omega, HG7.out.far (p := ⟨b8, 1, none⟩) hne _, HG8.out.set_ 1 _, hBx.setCell (p := ⟨b8, 1, none⟩) l8 _⟩
          · have hq1 : ((q1 : Int) == (q2 : Int)) = false := by simp; omega
            have HQ := Lib.hid hq
            clear hq
            go_wp2_with fail
            go_meet
            case rel => exact ⟨q2, HQ.out, by omega, by omega, HG7.out, HG8.out, hBx⟩
        case rest =>
          obtain ⟨q, hne12, hq1, hq2, G7, G8, hBx2⟩ := hcut
          have g0 : wc.cell? ⟨b7, 0, none⟩ = some (.int .i64 K1) := G7.cell_of (i := 0) rfl
          have g1 : wc.cell? ⟨b7, 1, none⟩ = some (.int .i64 q1) := G7.cell_of (i := 1) rfl
          have g2 : wc.cell? ⟨b7, 2, none⟩ = some (.slice P1 n1 c1) := G7.cell_of (i := 2) rfl
          have HE7 := Lib.hid G7
          have HE8 := Lib.hid G8
          have HRA := Lib.hid (Reads.more (Reads.below HR1.out hBx2) hBx2.size)
          have HRB := Lib.hid (Reads.more (Reads.below HR2.out hBx2) hBx2.size)
          have HFA := Lib.hid (Reads.more (Reads.below HF.out hBx2) hBx2.size)
          have hn14 := hbig1
          have hn24 := hbig2
          clear G7 G8 HG7 HG8 x1 y1 fy hbig1 hbig2
          go_wp2_with fail
          refine (encode_fit K1 q1 P1 n1 c1 p1 HN1.out hK11 hK12 hS11 (by omega) (by omega) wc HRA.out).mono ?_
          rintro e w1 ⟨A1, d1, rfl, ho1, hB1⟩
          obtain ⟨N1, hN1⟩ : ∃ N, N = sizeOfRec n1 := ⟨_, rfl⟩
          have hz1 := sizeOfRec_pos n1
          rw [← hN1] at ho1 hz1 ⊢
          have hb8 := HE8.out.below hB1 HE8.out.lt
          have f0 : w1.cell? ⟨b8, 0, none⟩ = some (.int .i64 K2) := hb8.cell_of (i := 0) rfl
          have f1 : w1.cell? ⟨b8, 1, none⟩ = some (.int .i64 q) := hb8.cell_of (i := 1) rfl
          have f2 : w1.cell? ⟨b8, 2, none⟩ = some (.slice P2 n2 c2) := hb8.cell_of (i := 2) rfl
          have HO1 := Lib.hid ho1
          have HNS1 := Lib.hid hN1
          clear ho1 hN1 hb8 g0 g1 g2
          go_wp2_with fail
          refine (encode_fit K2 q P2 n2 c2 p2 HN2.out hK21 hK22 hq1 (by omega) (by omega) w1 (Reads.more (Reads.below HRB.out hB1) hB1.size)).mono ?_
          rintro e w2 ⟨A2, d2, rfl, ho2, hB2⟩
          obtain ⟨N2, hN2⟩ : ∃ N, N = sizeOfRec n2 := ⟨_, rfl⟩
          have hz2 := sizeOfRec_pos n2
          rw [← hN2] at ho2 hz2 ⊢
          have HNS2 := Lib.hid hN2
          obtain ⟨L1, hL1⟩ : ∃ L1, L1 = encSecs K1 q1 p1 := ⟨_, rfl⟩
          obtain ⟨M2, hM2⟩ : ∃ M2, M2 = encSecs K2 q p2 := ⟨_, rfl⟩
          have hll1 : L1.length = N1 := by rw [hL1, encSecs_len, HN1.out, ← HNS1.out]
          have hll2 : M2.length = N2 := by rw [hM2, encSecs_len, HN2.out, ← HNS2.out]
          have hrs1 : RS w2 w2.heap.size A1 L1 := by
            have h := (HO1.out.below hB2).reads
            rw [← hL1] at h
            unfold RS; rw [hll1]; exact h
          have hrs2 : RS w2 w2.heap.size A2 M2 := by
            have h := ho2.reads
            rw [← hM2] at h
            unfold RS; rw [hll2]; exact h
          have hBw2 := hB1.trans (hB2.mono hB1.size)
          have HRS1 := Lib.hid hrs1
          have HRS2 := Lib.hid hrs2
          have HL1 := Lib.hid hll1
          have HM2 := Lib.hid hll2
          have HEQ1 := Lib.hid hL1
          have HEQ2 := Lib.hid hM2
          have HF2 := Lib.hid (Reads.more (Reads.below HFA.out hBw2) hBw2.size)
          have HE7w := Lib.hid (HE7.out.below hBw2 HE7.out.lt)
          have HE8w := Lib.hid (HE8.out.below hBw2 HE8.out.lt)
          have HRAw := Lib.hid (Reads.more (Reads.below HRA.out hBw2) hBw2.size)
          have HRBw := Lib.hid (Reads.more (Reads.below HRB.out hBw2) hBw2.size)
          obtain ⟨mx, hmx, hmx0, hmx1, hmx2⟩ : ∃ mx : Nat, (if N1 < N2 then (N2 : Int) else (N1 : Int)) = (mx : Int) ∧ (if (N1 : Int) < (N2 : Int) then (N2 : Int) else (N1 : Int)) = (mx : Int) ∧ (mx = N1 ∨ mx = N2) ∧ N1 ≤ mx ∧ N2 ≤ mx := by
            by_cases h : N1 < N2
            · exact ⟨N2, by rw [if_pos h], by rw [if_pos (by omega)], .inr rfl, by omega, by omega⟩
            · exact ⟨N1, by rw [if_neg h], by rw [if_neg (by omega)], .inl rfl, by omega, by omega⟩
          clear hrs1 hrs2 hll1 hll2 hL1 hM2 f0 f1 f2 hN2 ho2
          go_wp2_with fail
          go_loopw [13, 14] (fun v13 v14 wr => ∃ (i : Nat) (X : List Sec) (B : Option Addr) (d : Nat), v14 = .int .i64 i ∧ i ≤ mx ∧ X.length = i ∧ v13 = .slice B i d ∧ (∀ j, j < i → X[j]? = mixAt L1 M2 fr j) ∧ Own wr w2.heap.size 47 8 B i d (secsCells X) ∧ Below w2.heap.size w2 wr)
            (fun _ v14 _ => mx - (intOf v14).toNat)
          case atStart => exact ⟨0, [], none, 0, rfl, Nat.zero_le _, rfl, rfl, fun j h => absurd h (by omega), Own.nil_ _ _ _ _, Below.refl _ _⟩
          case round =>
            obtain ⟨i, X, B, d, rfl, hi, hXl, rfl, hmix, ho, hB⟩ := hrel
            have HXL := Lib.hid hXl
            have HMIX := Lib.hid hmix
            have HO := Lib.hid ho
            clear hXl hmix ho
            by_cases hlt : i < mx
            · have hlt' : (i : Int) < (mx : Int) := by omega
              have hi0 : (0 : Int) ≤ (i : Int) := by omega
              go_upto_region 14 with fail
              go_cut [15] from 59 to 104 (fun v wx => v = .bool ((fr[i]?).getD false) ∧ wx = wr)
              case first =>
                by_cases hfi : i < nf
                · have hfi' : (i : Int) < (nf : Int) := by omega
                  obtain ⟨hfl, hfr⟩ := HF2.out
                  obtain ⟨bf, of, hA, hbf, hcf⟩ := hfr (by omega)
                  subst hA
                  have hg : (fr[i]?) = some (fr[i]'(by rw [HNF.out]; exact hfi)) := List.getElem?_eq_getElem _
                  have hcell : wr.cell? ⟨bf, of + i, none⟩ = some (.bool (fr[i]'(by rw [HNF.out]; exact hfi))) := (hB.cell (p := ⟨bf, of + i, none⟩) hbf).trans (hcf i _ (by rw [List.getElem?_map, hg]; rfl))
                  have hgd : (fr[i]?).getD false = fr[i]'(by rw [HNF.out]; exact hfi) := by rw [hg]; rfl
                  generalize fr[i]'(by rw [HNF.out]; exact hfi) = bb at hcell hgd
                  have HGD := Lib.hid hgd
                  clear hg hcf hfr hfl hgd
                  cases bb
                  · go_wp2_with fail
                    go_meet
                    case rel => exact ⟨by rw [HGD.out], rfl⟩
                  · go_wp2_with fail
                    go_meet
                    case rel => exact ⟨by rw [HGD.out], rfl⟩
                · have hfi' : ¬ (i : Int) < (nf : Int) := by omega
                  have hg : (fr[i]?) = none := List.getElem?_eq_none (by rw [HNF.out]; omega)
                  have HGD : Hid ((fr[i]?).getD false = false) := Lib.hid (by rw [hg]; rfl)
                  clear hg
                  go_wp2_with fail
                  go_meet
                  case rel => exact ⟨by rw [HGD.out], rfl⟩
              case rest =>
                obtain ⟨rfl, hwc⟩ := hcut
                obtain rfl : wr = wc := hwc.symm
                obtain ⟨sb, hsb⟩ : ∃ sb, sb = (fr[i]?).getD false := ⟨_, rfl⟩
                rw [← hsb]
                have HSB := Lib.hid hsb
                clear hsb
                by_cases hiN1 : i < N1
                · have hc1 : ¬ (N1 : Int) ≤ (i : Int) := by omega
                  cases sb
                  · have hmixat : mixAt L1 M2 fr i = L1[i]? := by
                      unfold mixAt
                      rw [if_neg]
                      rintro (h | ⟨h, _⟩)
                      · rw [HL1.out] at h; omega
                      · rw [← HSB.out] at h; cases h
                    have HMA := Lib.hid hmixat
                    clear hmixat
                    obtain ⟨bb, oo, hA, hbb, hcc⟩ := ((HRS1.out.below hB).more hB.size).at_ (k := i) (by rw [HL1.out]; omega)
                    have hix : (i : Int) < (N1 : Int) := by omega
                    generalize hti : L1[i]'(by rw [HL1.out]; omega) = t at hcc
                    have hgx : L1[i]? = some t := by rw [List.getElem?_eq_getElem (by rw [HL1.out]; omega), hti]
                    have HGX := Lib.hid hgx
                    have HCC := Lib.hid hcc
                    clear hti hgx hcc
                    subst hA
                    go_wp2_with (first
                      | ((with_reducible show Go.wpList _ _ _ (Go.Oper.mk _ (Go.Op.load _ _) _ _ _ _ :: _) _ _); refine wpList_load_mid rfl 47 (.tmp 101) rfl bb (oo + i * 8) rfl (secCells t) _ HCC.out under_sec rfl (info_sec _) ?_)
                      | ((with_reducible show Go.wpList _ _ _ (Go.Oper.mk _ (Go.Op.buildSlice _ _ _) _ _ _ _ :: _) _ _); refine wpList_build_sec wr rfl (.tmp 102) rfl t rfl ?_)
                      | ((with_reducible show Go.wpList _ _ _ (Go.Oper.mk _ (Go.Op.call { callee := Go.Callee.builtin Go.Builtin.append, args := _, argTypes := _ }) _ _ _ _ :: _) _ _)
                         refine wpList_app _ rfl (.tmp 98) (.tmp 103) 28 rfl 47 8 8 elemSec w2.heap.size B i d _ rfl (HO.out.alloc _) (wr.heap.size + 1) (some ⟨wr.heap.size, 0, none⟩) 1 1 (secCells t) rfl (reads_sec _ _) (secCells_one _) (i + 1) rfl (secsCells (X ++ [t])) (by simp [secsCells]) (by simp only [maxLen]; omega) (by omega) (by have := hB.size; simp; omega) ?_
                         intro A9 c9 w9 ho9 hg9 hl9
                         have hB9 : Below w2.heap.size w2 w9 := below_app (hB.alloc hB.size _) (by have := hB.size; simp; omega) (fun j hj => (HO.out.block j hj).1) hg9
                         have HO9 := Lib.hid ho9
                         clear ho9 hg9 hl9))
                    go_roundw
                    case rel =>
                      refine ⟨i + 1, X ++ [t], A9, c9, by go_num, by omega, by rw [List.length_append, HXL.out]; rfl, rfl, fun j hj => ?_, HO9.out, hB9⟩
                      by_cases hji : j < i
                      · rw [List.getElem?_append_left (by rw [HXL.out]; exact hji)]; exact HMIX.out j hji
                      · obtain rfl : j = i := by omega
                        rw [List.getElem?_append_right (by rw [HXL.out]; omega), HXL.out, Nat.sub_self, HMA.out, HGX.out]
                        rfl
                    case measure => simp [intOf]; omega
                  · by_cases hiN2 : i < N2
                    · have hc2 : (i : Int) < (N2 : Int) := by omega
                      have hmixat : mixAt L1 M2 fr i = M2[i]? := by
                        unfold mixAt
                        rw [if_pos]
                        exact .inr ⟨HSB.out.symm, by rw [HM2.out]; exact hiN2⟩
                      have HMA := Lib.hid hmixat
                      clear hmixat
                      obtain ⟨bb, oo, hA, hbb, hcc⟩ := ((HRS2.out.below hB).more hB.size).at_ (k := i) (by rw [HM2.out]; omega)
                      have hix : (i : Int) < (N2 : Int) := by omega
                      generalize hti : M2[i]'(by rw [HM2.out]; omega) = t at hcc
                      have hgx : M2[i]? = some t := by rw [List.getElem?_eq_getElem (by rw [HM2.out]; omega), hti]
                      have HGX := Lib.hid hgx
                      have HCC := Lib.hid hcc
                      clear hti hgx hcc
                      subst hA
                      go_wp2_with (first
                        | ((with_reducible show Go.wpList _ _ _ (Go.Oper.mk _ (Go.Op.load _ _) _ _ _ _ :: _) _ _); refine wpList_load_mid rfl 47 (.tmp 94) rfl bb (oo + i * 8) rfl (secCells t) _ HCC.out under_sec rfl (info_sec _) ?_)
                        | ((with_reducible show Go.wpList _ _ _ (Go.Oper.mk _ (Go.Op.buildSlice _ _ _) _ _ _ _ :: _) _ _); refine wpList_build_sec wr rfl (.tmp 95) rfl t rfl ?_)
                        | ((with_reducible show Go.wpList _ _ _ (Go.Oper.mk _ (Go.Op.call { callee := Go.Callee.builtin Go.Builtin.append, args := _, argTypes := _ }) _ _ _ _ :: _) _ _)
                           refine wpList_app _ rfl (.tmp 91) (.tmp 96) 28 rfl 47 8 8 elemSec w2.heap.size B i d _ rfl (HO.out.alloc _) (wr.heap.size + 1) (some ⟨wr.heap.size, 0, none⟩) 1 1 (secCells t) rfl (reads_sec _ _) (secCells_one _) (i + 1) rfl (secsCells (X ++ [t])) (by simp [secsCells]) (by simp only [maxLen]; omega) (by omega) (by have := hB.size; simp; omega) ?_
                           intro A9 c9 w9 ho9 hg9 hl9
                           have hB9 : Below w2.heap.size w2 w9 := below_app (hB.alloc hB.size _) (by have := hB.size; simp; omega) (fun j hj => (HO.out.block j hj).1) hg9
                           have HO9 := Lib.hid ho9
                           clear ho9 hg9 hl9))
                      go_roundw
                      case rel =>
                        refine ⟨i + 1, X ++ [t], A9, c9, by go_num, by omega, by rw [List.length_append, HXL.out]; rfl, rfl, fun j hj => ?_, HO9.out, hB9⟩
                        by_cases hji : j < i
                        · rw [List.getElem?_append_left (by rw [HXL.out]; exact hji)]; exact HMIX.out j hji
                        · obtain rfl : j = i := by omega
                          rw [List.getElem?_append_right (by rw [HXL.out]; omega), HXL.out, Nat.sub_self, HMA.out, HGX.out]
                          rfl
                      case measure => simp [intOf]; omega
                    · have hc2 : ¬ (i : Int) < (N2 : Int) := by omega
                      have hmixat : mixAt L1 M2 fr i = L1[i]? := by
                        unfold mixAt
                        rw [if_neg]
                        rintro (h | ⟨_, h⟩)
                        · rw [HL1.out] at h; omega
                        · rw [HM2.out] at h; omega
                      have HMA := Lib.hid hmixat
                      clear hmixat
                      obtain ⟨bb, oo, hA, hbb, hcc⟩ := ((HRS1.out.below hB).more hB.size).at_ (k := i) (by rw [HL1.out]; omega)
                      have hix : (i : Int) < (N1 : Int) := by omega
                      generalize hti : L1[i]'(by rw [HL1.out]; omega) = t at hcc
                      have hgx : L1[i]? = some t := by rw [List.getElem?_eq_getElem (by rw [HL1.out]; omega), hti]
                      have HGX := Lib.hid hgx
                      have HCC := Lib.hid hcc
                      clear hti hgx hcc
                      subst hA
                      go_wp2_with (first
                        | ((with_reducible show Go.wpList _ _ _ (Go.Oper.mk _ (Go.Op.load _ _) _ _ _ _ :: _) _ _); refine wpList_load_mid rfl 47 (.tmp 101) rfl bb (oo + i * 8) rfl (secCells t) _ HCC.out under_sec rfl (info_sec _) ?_)
                        | ((with_reducible show Go.wpList _ _ _ (Go.Oper.mk _ (Go.Op.buildSlice _ _ _) _ _ _ _ :: _) _ _); refine wpList_build_sec wr rfl (.tmp 102) rfl t rfl ?_)
                        | ((with_reducible show Go.wpList _ _ _ (Go.Oper.mk _ (Go.Op.call { callee := Go.Callee.builtin Go.Builtin.append, args := _, argTypes := _ }) _ _ _ _ :: _) _ _)
                           refine wpList_app _ rfl (.tmp 98) (.tmp 103) 28 rfl 47 8 8 elemSec w2.heap.size B i d _ rfl (HO.out.alloc _) (wr.heap.size + 1) (some ⟨wr.heap.size, 0, none⟩) 1 1 (secCells t) rfl (reads_sec _ _) (secCells_one _) (i + 1) rfl (secsCells (X ++ [t])) (by simp [secsCells]) (by simp only [maxLen]; omega) (by omega) (by have := hB.size; simp; omega) ?_
                           intro A9 c9 w9 ho9 hg9 hl9
                           have hB9 : Below w2.heap.size w2 w9 := below_app (hB.alloc hB.size _) (by have := hB.size; simp; omega) (fun j hj => (HO.out.block j hj).1) hg9
                           have HO9 := Lib.hid ho9
                           clear ho9 hg9 hl9))
                      go_roundw
                      case rel =>
                        refine ⟨i + 1, X ++ [t], A9, c9, by go_num, by omega, by rw [List.length_append, HXL.out]; rfl, rfl, fun j hj => ?_, HO9.out, hB9⟩
                        by_cases hji : j < i
                        · rw [List.getElem?_append_left (by rw [HXL.out]; exact hji)]; exact HMIX.out j hji
                        · obtain rfl : j = i := by omega
                          rw [List.getElem?_append_right (by rw [HXL.out]; omega), HXL.out, Nat.sub_self, HMA.out, HGX.out]
                          rfl
                      case measure => simp [intOf]; omega
                · have hc1 : (N1 : Int) ≤ (i : Int) := by omega
                  have hmixat : mixAt L1 M2 fr i = M2[i]? := by
                    unfold mixAt
                    rw [if_pos]
                    exact .inl (by rw [HL1.out]; omega)
                  have HMA := Lib.hid hmixat
                  have hc3 : i < N2 := by omega
                  have hc4 : (i : Int) < (N2 : Int) := by omega
                  clear hmixat
                  obtain ⟨bb, oo, hA, hbb, hcc⟩ := ((HRS2.out.below hB).more hB.size).at_ (k := i) (by rw [HM2.out]; omega)
                  have hix : (i : Int) < (N2 : Int) := by omega
                  generalize hti : M2[i]'(by rw [HM2.out]; omega) = t at hcc
                  have hgx : M2[i]? = some t := by rw [List.getElem?_eq_getElem (by rw [HM2.out]; omega), hti]
                  have HGX := Lib.hid hgx
                  have HCC := Lib.hid hcc
                  clear hti hgx hcc
                  subst hA
                  go_wp2_with (first
                    | ((with_reducible show Go.wpList _ _ _ (Go.Oper.mk _ (Go.Op.load _ _) _ _ _ _ :: _) _ _); refine wpList_load_mid rfl 47 (.tmp 94) rfl bb (oo + i * 8) rfl (secCells t) _ HCC.out under_sec rfl (info_sec _) ?_)
                    | ((with_reducible show Go.wpList _ _ _ (Go.Oper.mk _ (Go.Op.buildSlice _ _ _) _ _ _ _ :: _) _ _); refine wpList_build_sec wr rfl (.tmp 95) rfl t rfl ?_)
                    | ((with_reducible show Go.wpList _ _ _ (Go.Oper.mk _ (Go.Op.call { callee := Go.Callee.builtin Go.Builtin.append, args := _, argTypes := _ }) _ _ _ _ :: _) _ _)
                       refine wpList_app _ rfl (.tmp 91) (.tmp 96) 28 rfl 47 8 8 elemSec w2.heap.size B i d _ rfl (HO.out.alloc _) (wr.heap.size + 1) (some ⟨wr.heap.size, 0, none⟩) 1 1 (secCells t) rfl (reads_sec _ _) (secCells_one _) (i + 1) rfl (secsCells (X ++ [t])) (by simp [secsCells]) (by simp only [maxLen]; omega) (by omega) (by have := hB.size; simp; omega) ?_
                       intro A9 c9 w9 ho9 hg9 hl9
                       have hB9 : Below w2.heap.size w2 w9 := below_app (hB.alloc hB.size _) (by have := hB.size; simp; omega) (fun j hj => (HO.out.block j hj).1) hg9
                       have HO9 := Lib.hid ho9
                       clear ho9 hg9 hl9))
                  go_roundw
                  case rel =>
                    refine ⟨i + 1, X ++ [t], A9, c9, by go_num, by omega, by rw [List.length_append, HXL.out]; rfl, rfl, fun j hj => ?_, HO9.out, hB9⟩
                    by_cases hji : j < i
                    · rw [List.getElem?_append_left (by rw [HXL.out]; exact hji)]; exact HMIX.out j hji
                    · obtain rfl : j = i := by omega
                      rw [List.getElem?_append_right (by rw [HXL.out]; omega), HXL.out, Nat.sub_self, HMA.out, HGX.out]
                      rfl
                  case measure => simp [intOf]; omega
            · obtain rfl : i = mx := by omega
              have hnlt : ¬ (i : Int) < (i : Int) := by omega
              have hcap := HO.out.cap
              have hcap2 := own_cap HO.out
              have hrsX : RS wr wr.heap.size B X := by
                have h := HO.out.reads
                unfold RS; rw [HXL.out]; exact h
              have hlaw := mix_law K1 q1 p1 K2 q p2 X fr hK11 hK12 hS11 (by omega) (by rw [HN1.out]; omega) hK21 hK22 hq1 (by omega) (by rw [HN2.out]; omega) hne12 (fun j hj => by rw [← HEQ1.out, ← HEQ2.out]; exact HMIX.out j (by rw [← HXL.out]; exact hj)) (by rw [HXL.out]; omega)
              have HRSX := Lib.hid hrsX
              have HCAP := Lib.hid hcap
              clear hrsX hcap hlt
              rcases hlaw with hbad | hgood | hgood
              · have HBAD := Lib.hid hbad
                clear hbad
                go_wp2_with fail
                refine (decode_any B i d X HXL.out HCAP.out hcap2 wr HRSX.out).mono ?_
                rintro e w5 ⟨P5, c5, rfl, ho5, hB5⟩
                obtain ⟨er, her⟩ : ∃ er, er = (dec X).err := ⟨_, rfl⟩
                have her0 : er ≠ 0 := by rw [her]; exact HBAD.out
                have her1 : ((er : Int) == 0) = false := by simpa using her0
                have her2 : ¬ (er : Int) = 0 := by omega
                have her3 : ((er : Int) != 0) = true := by simpa using her0
                rw [← her]
                clear her ho5
                generalize (dec X).kind = xk
                generalize (dec X).seq = xq
                generalize (dec X).n = xn
                generalize (dec X).payload.length = xl
                have hB5' : Below w5.heap.size w5 (w5.alloc (.cells #[.int .i64 xk, .int .i64 xq, .slice P5 xl c5] 27)) := (Below.refl _ w5).alloc (Nat.le_refl _) _
                go_wp2_with fail
                refine (awake_any _).mono ?_
                rintro e w6 ⟨rfl, hB6⟩
                have hBr6 := hB5.trans ((hB5'.mono hB5.size).trans (hB6.mono (Nat.le_trans hB5.size hB5'.size)))
                have hB26 := hB.trans (hBr6.mono hB.size)
                have hend : Below w.heap.size w w6 := hB0.trans ((hBx2.mono hB0.size).trans ((hBw2.mono (Nat.le_trans hB0.size hBx2.size)).trans (hB26.mono (Nat.le_trans (Nat.le_trans hB0.size hBx2.size) hBw2.size))))
                go_wp2_with fail
                go_ret
                exact ⟨rfl, hend⟩
              · have HGD := Lib.hid hgood
                clear hgood
                go_wp2_with fail
                refine (decode_is B i d X 0 K1 q1 p1 _ n1 HGD.out HN1.out HXL.out HCAP.out hcap2 wr HRSX.out).mono ?_
                rintro e w5 ⟨P5, c5, rfl, ho5, hB5⟩
                obtain ⟨W5, hW5⟩ : ∃ W5, w5.alloc (.cells #[.int .i64 K1, .int .i64 q1, .slice P5 n1 c5] 27) = W5 := ⟨_, rfl⟩
                have hB5' : Below w5.heap.size w5 W5 := by rw [← hW5]; exact (Below.refl _ w5).alloc (Nat.le_refl _) _
                have hb5 : Blk W5 w5.heap.size 27 #[.int .i64 K1, .int .i64 q1, .slice P5 n1 c5] := by rw [← hW5]; exact Blk.new _ _ _
                have HB5 := Lib.hid hb5
                have HO5 := Lib.hid (ho5.below hB5')
                clear hb5 ho5
                go_wp2_with fail
                refine (awake_any W5).mono ?_
                rintro e w6 ⟨rfl, hB6⟩
                have hb5 := HB5.out.below hB6 HB5.out.lt
                have hBr6 := hB5.trans ((hB5'.mono hB5.size).trans (hB6.mono (Nat.le_trans hB5.size hB5'.size)))
                have hB26 := hB.trans (hBr6.mono hB.size)
                have hb7 := HE7w.out.below hB26 HE7w.out.lt
                have hb8 := HE8w.out.below hB26 HE8w.out.lt
                have z0 : w6.cell? ⟨w5.heap.size, 0, none⟩ = some (.int .i64 K1) := hb5.cell_of (i := 0) rfl
                have z1 : w6.cell? ⟨w5.heap.size, 1, none⟩ = some (.int .i64 q1) := hb5.cell_of (i := 1) rfl
                have z2 : w6.cell? ⟨w5.heap.size, 2, none⟩ = some (.slice P5 n1 c5) := hb5.cell_of (i := 2) rfl
                have g0 : w6.cell? ⟨b7, 0, none⟩ = some (.int .i64 K1) := hb7.cell_of (i := 0) rfl
                have g1 : w6.cell? ⟨b7, 1, none⟩ = some (.int .i64 q1) := hb7.cell_of (i := 1) rfl
                have g2 : w6.cell? ⟨b7, 2, none⟩ = some (.slice P1 n1 c1) := hb7.cell_of (i := 2) rfl
                have f0 : w6.cell? ⟨b8, 0, none⟩ = some (.int .i64 K2) := hb8.cell_of (i := 0) rfl
                have f1 : w6.cell? ⟨b8, 1, none⟩ = some (.int .i64 q) := hb8.cell_of (i := 1) rfl
                have f2 : w6.cell? ⟨b8, 2, none⟩ = some (.slice P2 n2 c2) := hb8.cell_of (i := 2) rfl
                have hend : Below w.heap.size w w6 := hB0.trans ((hBx2.mono hB0.size).trans ((hBw2.mono (Nat.le_trans hB0.size hBx2.size)).trans (hB26.mono (Nat.le_trans (Nat.le_trans hB0.size hBx2.size) hBw2.size))))
                have hq1x : RB w6 w6.heap.size P1 p1 := Reads.more (Reads.below HRAw.out hB26) hB26.size
                have hq2x : RB w6 w6.heap.size P2 p2 := Reads.more (Reads.below HRBw.out hB26) hB26.size
                have hq5 : RB w6 w6.heap.size P5 p1 := by
                  have h := (HO5.out.below hB6).reads
                  unfold RB; rw [HN1.out]; exact h
                have HQ1 := Lib.hid hq1x
                have HQ2 := Lib.hid hq2x
                have HQ5 := Lib.hid hq5
                clear hb5 hb7 hb8 hq1x hq2x hq5
                go_wp2_with fail
                refine (rsame_any K1 q1 P5 n1 c5 p1 K1 q1 P1 n1 c1 p1 HN1.out HN1.out w6 HQ5.out HQ1.out).mono ?_
                rintro e w7 ⟨rfl, hB7⟩
                rw [decide_eq_true ⟨rfl, rfl, rfl⟩]
                go_wp2_with fail
                go_ret
                exact ⟨rfl, below_then hend hB7⟩
              · have HGD := Lib.hid hgood
                clear hgood
                go_wp2_with fail
                refine (decode_is B i d X 0 K2 q p2 _ n2 HGD.out HN2.out HXL.out HCAP.out hcap2 wr HRSX.out).mono ?_
                rintro e w5 ⟨P5, c5, rfl, ho5, hB5⟩
                obtain ⟨W5, hW5⟩ : ∃ W5, w5.alloc (.cells #[.int .i64 K2, .int .i64 q, .slice P5 n2 c5] 27) = W5 := ⟨_, rfl⟩
                have hB5' : Below w5.heap.size w5 W5 := by rw [← hW5]; exact (Below.refl _ w5).alloc (Nat.le_refl _) _
                have hb5 : Blk W5 w5.heap.size 27 #[.int .i64 K2, .int .i64 q, .slice P5 n2 c5] := by rw [← hW5]; exact Blk.new _ _ _
                have HB5 := Lib.hid hb5
                have HO5 := Lib.hid (ho5.below hB5')
                clear hb5 ho5
                go_wp2_with fail
                refine (awake_any W5).mono ?_
                rintro e w6 ⟨rfl, hB6⟩
                have hb5 := HB5.out.below hB6 HB5.out.lt
                have hBr6 := hB5.trans ((hB5'.mono hB5.size).trans (hB6.mono (Nat.le_trans hB5.size hB5'.size)))
                have hB26 := hB.trans (hBr6.mono hB.size)
                have hb7 := HE7w.out.below hB26 HE7w.out.lt
                have hb8 := HE8w.out.below hB26 HE8w.out.lt
                have z0 : w6.cell? ⟨w5.heap.size, 0, none⟩ = some (.int .i64 K2) := hb5.cell_of (i := 0) rfl
                have z1 : w6.cell? ⟨w5.heap.size, 1, none⟩ = some (.int .i64 q) := hb5.cell_of (i := 1) rfl
                have z2 : w6.cell? ⟨w5.heap.size, 2, none⟩ = some (.slice P5 n2 c5) := hb5.cell_of (i := 2) rfl
                have g0 : w6.cell? ⟨b7, 0, none⟩ = some (.int .i64 K1) := hb7.cell_of (i := 0) rfl
                have g1 : w6.cell? ⟨b7, 1, none⟩ = some (.int .i64 q1) := hb7.cell_of (i := 1) rfl
                have g2 : w6.cell? ⟨b7, 2, none⟩ = some (.slice P1 n1 c1) := hb7.cell_of (i := 2) rfl
                have f0 : w6.cell? ⟨b8, 0, none⟩ = some (.int .i64 K2) := hb8.cell_of (i := 0) rfl
                have f1 : w6.cell? ⟨b8, 1, none⟩ = some (.int .i64 q) := hb8.cell_of (i := 1) rfl
                have f2 : w6.cell? ⟨b8, 2, none⟩ = some (.slice P2 n2 c2) := hb8.cell_of (i := 2) rfl
                have hend : Below w.heap.size w w6 := hB0.trans ((hBx2.mono hB0.size).trans ((hBw2.mono (Nat.le_trans hB0.size hBx2.size)).trans (hB26.mono (Nat.le_trans (Nat.le_trans hB0.size hBx2.size) hBw2.size))))
                have hq1x : RB w6 w6.heap.size P1 p1 := Reads.more (Reads.below HRAw.out hB26) hB26.size
                have hq2x : RB w6 w6.heap.size P2 p2 := Reads.more (Reads.below HRBw.out hB26) hB26.size
                have hq5 : RB w6 w6.heap.size P5 p2 := by
                  have h := (HO5.out.below hB6).reads
                  unfold RB; rw [HN2.out]; exact h
                have HQ1 := Lib.hid hq1x
                have HQ2 := Lib.hid hq2x
                have HQ5 := Lib.hid hq5
                clear hb5 hb7 hb8 hq1x hq2x hq5
                go_wp2_with fail
                refine (rsame_any K2 q P5 n2 c5 p2 K1 q1 P1 n1 c1 p1 HN2.out HN1.out w6 HQ5.out HQ1.out).mono ?_
                rintro e w7 ⟨rfl, hB7⟩
                rw [decide_eq_false (by rintro ⟨_, h, _⟩; omega)]
                have hb5 := (HB5.out.below hB6 HB5.out.lt).below hB7 (Nat.lt_of_lt_of_le HB5.out.lt hB6.size)
                have hb8 := (HE8w.out.below hB26 HE8w.out.lt).below hB7 (Nat.lt_of_lt_of_le HE8w.out.lt hB26.size)
                have y0 : w7.cell? ⟨w5.heap.size, 0, none⟩ = some (.int .i64 K2) := hb5.cell_of (i := 0) rfl
                have y1 : w7.cell? ⟨w5.heap.size, 1, none⟩ = some (.int .i64 q) := hb5.cell_of (i := 1) rfl
                have y2 : w7.cell? ⟨w5.heap.size, 2, none⟩ = some (.slice P5 n2 c5) := hb5.cell_of (i := 2) rfl
                have x0 : w7.cell? ⟨b8, 0, none⟩ = some (.int .i64 K2) := hb8.cell_of (i := 0) rfl
                have x1 : w7.cell? ⟨b8, 1, none⟩ = some (.int .i64 q) := hb8.cell_of (i := 1) rfl
                have x2 : w7.cell? ⟨b8, 2, none⟩ = some (.slice P2 n2 c2) := hb8.cell_of (i := 2) rfl
                clear hb5 hb8 z0 z1 z2 f0 f1 f2 g0 g1 g2
                go_wp2_with fail
                refine (rsame_any K2 q P5 n2 c5 p2 K2 q P2 n2 c2 p2 HN2.out HN2.out w7 (Reads.more (Reads.below HQ5.out hB7) hB7.size) (Reads.more (Reads.below HQ2.out hB7) hB7.size)).mono ?_
                rintro e w8 ⟨rfl, hB8⟩
                rw [decide_eq_true ⟨rfl, rfl, rfl⟩]
                go_wp2_with fail
                go_ret
                exact ⟨rfl, below_then (below_then hend hB7) hB8⟩
end Go.Proofs.Ytejoofeoffehmaa
