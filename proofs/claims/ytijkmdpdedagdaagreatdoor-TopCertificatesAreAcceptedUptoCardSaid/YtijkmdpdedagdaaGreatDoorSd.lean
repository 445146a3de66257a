/-
  SUCCESSION: build, in the plain walk. Own work.
-/
import Derived.Test.YtijkmdpdedagdaaGreatDoorSc
import Derived.Test.YtijkmdpdedagdaaGreatDoorEf
set_option linter.unusedVariables false
set_option linter.unusedSimpArgs false
namespace Go.Proofs
open Go Go.Pi Go.RowKit Go.Shelf Go.Tp Go.Lib
set_option maxRecDepth 100000 in
set_option maxHeartbeats 16000000 in
theorem Tryz.sbuild (l : List Rl) (h : GoodR l) : Con Tryz.prog Tryz.L 16 [relsD l] (gD (unitsF l) (arcsF l)) := by
  have mixed : Tryz.prog.follows .mixedOrders = true := by kernel_rfl
  have t0 := Tryz.underlying30; have a0 := Tryz.isAgg30; have z0 := Tryz.sizeOf30; have v0 := Tryz.zeroValue30; have u0 := run_underlying Tryz.underlying30
  have t1 := Tryz.underlying9; have a1 := Tryz.isAgg9; have z1 := Tryz.sizeOf9; have v1 := Tryz.zeroValue9; have u1 := run_underlying Tryz.underlying9
  have t2 := Tryz.underlying42; have a2 := Tryz.isAgg42; have z2 := Tryz.sizeOf42; have v2 := Tryz.zeroValue42; have u2 := run_underlying Tryz.underlying42
  have t3 := Tryz.underlying4; have a3 := Tryz.isAgg4; have z3 := Tryz.sizeOf4; have v3 := Tryz.zeroValue4; have u3 := run_underlying Tryz.underlying4
  have t4 := Tryz.underlying3; have a4 := Tryz.isAgg3; have z4 := Tryz.sizeOf3; have v4 := Tryz.zeroValue3; have u4 := run_underlying Tryz.underlying3
  have t5 := Tryz.underlying24
  have t6 := Tryz.underlying77; have a6 := Tryz.isAgg77; have z6 := Tryz.sizeOf77; have v6 := Tryz.zeroValue77; have u6 := run_underlying Tryz.underlying77
  have t7 := Tryz.underlying79; have a7 := Tryz.isAgg79; have z7 := Tryz.sizeOf79; have v7 := Tryz.zeroValue79; have u7 := run_underlying Tryz.underlying79
  have t8 := Tryz.underlying74; have a8 := Tryz.isAgg74; have z8 := Tryz.sizeOf74; have v8 := Tryz.zeroValue74; have u8 := run_underlying Tryz.underlying74
  have t9 := Tryz.underlying75; have a9 := Tryz.isAgg75; have z9 := Tryz.sizeOf75; have v9 := Tryz.zeroValue75; have u9 := run_underlying Tryz.underlying75
  have t10 := Tryz.underlying52; have a10 := Tryz.isAgg52; have z10 := Tryz.sizeOf52; have v10 := Tryz.zeroValue52; have u10 := run_underlying Tryz.underlying52
  have t11 := Tryz.underlying44
  have hip : (Tryz.prog.info? 79).map (fun i => (i.zero, i.size, i.bytes)) = some (some (.agg #[.int .i64 0, .int .i64 0, .int .i64 0]), 3, 24) := by kernel_rfl
  obtain ⟨ip, hip1, hip2, hip3, hip4⟩ := info_parts hip
  have hipn : (Tryz.prog.info? 74).map (fun i => (i.zero, i.size, i.bytes)) = some (some (.slice none 0 0), 1, 24) := by kernel_rfl
  obtain ⟨ipn, hipn1, hipn2, hipn3, hipn4⟩ := info_parts hipn
  have rmm : ∀ w : World, (Instr.makeMap 52 none).run Tryz.prog w = .ok (.map (some w.heap.size)) (w.alloc (.map #[] 0)) := fun w => rfl
  obtain ⟨hl, hR, hus⟩ := h
  refine ⟨⟨by kernel_rfl, rfl⟩, fun S W vs hS hL hrep => ?_⟩
  have cu := (Tryz.sunits Tryz.sortOk l hl).2 S W vs hS hL hrep
  obtain ⟨va, r1, rfl, hra, t1'⟩ := hrep.uncons
  obtain rfl : r1 = [] := List.length_eq_zero_iff.1 t1'.1.symm
  clear t1' hrep
  obtain ⟨ad, cap, rfl, HC⟩ := rel_cells hra
  have HC' : Hid (∀ j x, l[j]? = some x → ∃ b off, ad = some ⟨b, off, none⟩ ∧ b < W.heap.size ∧ W.cell? ⟨b, off + j * 3, none⟩ = some (.int .i64 x.k) ∧ W.cell? ⟨b, off + j * 3 + 1, none⟩ = some (.string ⟨x.u.toArray⟩) ∧ W.cell? ⟨b, off + j * 3 + 2, none⟩ = some (.string ⟨x.l.toArray⟩) ∧ x.u.length ≤ maxLen ∧ x.l.length ≤ maxLen) := by
    intro j x hj
    obtain ⟨b, off, e1, e2, e3, e4, e5, e6⟩ := HC j x hj
    exact ⟨b, off, e1, hS b _ (e2 0 (by decide)), e3, e4, e5, e6⟩
  clear HC hra
  show Calls _ _ #[.slice ad l.length cap] _ _
  go_enter Tryz.func16, Tryz.ntmps16
  go_wp2_with (go_at_call 18; refine Calls.mono cu ?_; rintro e W1 ⟨vn, rfl, hb1, hr1⟩; obtain ⟨adn, capn, rfl, HN0⟩ := str_cells hr1)
  have HB1 : Hid (Below W.heap.size W W1) := hb1
  have HN : Hid (∀ (j : Nat) (x : List UInt8), (unitsF l)[j]? = some x → ∃ b off, adn = some ⟨b, off, none⟩ ∧ b < W1.heap.size ∧ W1.cell? ⟨b, off + j, none⟩ = some (.string ⟨x.toArray⟩) ∧ x.length ≤ maxLen) := by
    intro j x hj
    obtain ⟨b, off, e1, e2, e3, e4⟩ := HN0 j x hj
    exact ⟨b, off, e1, e2.elim (fun e => Nat.lt_of_lt_of_le (hS b _ e) hb1.size) (fun e => e.2), e3, e4⟩
  have HR : Hid (Res Tryz.prog S W W1 (strsD (unitsF l)) (.slice adn (unitsF l).length capn)) := hr1
  have HU : Hid ((unitsF l).Nodup ∧ ∀ x ∈ l, x.l ∈ unitsF l ∧ x.u ∈ unitsF l) := by
    refine ⟨(usort_sorted (names l)).imp fun h e => ?_, fun x hx => ⟨usort_mem.2 ?_, usort_mem.2 ?_⟩⟩
    · subst e; exact List.lt_irrefl _ h
    · exact List.mem_flatMap.2 ⟨x, hx, by simp⟩
    · exact List.mem_flatMap.2 ⟨x, hx, by simp⟩
  have hm0 := MapI.made W1 Tryz.prog 9 3
  rw [← numK_zero (unitsF l)] at hm0
  have HG0 : GrX (fun _ => False) W1 (W1.alloc (.map #[] 0)) := .alloc _ _
  clear hr1 HN0 cu
  generalize hus' : unitsF l = us at *
  have hn1 := Nat.zero_le us.length
  go_loopg [19] us.length (fun gg s19 wr => ∃ k : Nat, s19 = .int .i64 k ∧ k ≤ us.length ∧ us.length ≤ gg + k ∧ MapI Tryz.prog 9 3 wr W1.heap.size k (numK us k) ∧ BoxV wr (W1.heap.size + 1) 77 #[.slice adn us.length capn, .map (some W1.heap.size), .slice none 0 0, .slice none 0 0] ∧ Below W1.heap.size W1 wr)
  case atStart => exact ⟨0, rfl, by omega, by omega, hm0.kept (X := fun _ => False) (.alloc _ _) id, by have := heap_alloc_new (W1.alloc (.map #[] 0)) (.cells #[.slice adn us.length capn, .map (some W1.heap.size), .slice none 0 0, .slice none 0 0] 77); rwa [World.size_alloc] at this, ((Below.refl _ _).alloc (Nat.le_refl _) _).alloc (by simp) _⟩
  case round =>
    obtain ⟨k, rfl, hk, hgk, hmap, hbox, hbw⟩ := hrel
    by_cases hkl : k < us.length
    · have hkz : (k : Int) < (us.length : Int) := by omega
      have hx : us[k]? = some (us[k]'hkl) := List.getElem?_eq_getElem hkl
      generalize us[k]'hkl = x at hx
      obtain ⟨b, off, rfl, hb, e3, e4⟩ := HN.out k x hx
      have d3 := (hbw.cell (p := ⟨b, off + k, none⟩) hb).trans e3
      have d4 := hbox.cell (j := 1) rfl
      have l1 : b < wr.heap.size := Nat.lt_of_lt_of_le hb hbw.size
      have l2 := hbox.lt
      obtain ⟨w2, hput, hm2, hg2⟩ := hmap.put (t := 52) t1 t4 t10 (by unfold maxLen; omega) e4 (x := (k : Int)) (by simp [Lit.wf, IntKind.min, IntKind.max, IntKind.signed, IntKind.bits]; omega)
      have HX : Hid (us[k]? = some x ∧ Below W1.heap.size W1 wr ∧ BoxV wr (W1.heap.size + 1) 77 #[.slice (some ⟨b, off, none⟩) us.length capn, .map (some W1.heap.size), .slice none 0 0, .slice none 0 0]) := ⟨hx, hbw, hbox⟩
      clear hbw hbox hmap e3 hx
      go_wp2
      go_roundg (us.length - (k + 1))
      case measure => omega
      case rel =>
        have hgx : GrX (fun q => some q = some W1.heap.size) wr w2 := .ofGrown hg2
        refine ⟨k + 1, by go_num, by omega, by omega, ?_, HX.out.2.2.kept hgx (by simp), hgx.below HX.out.2.1 (fun q hq => by cases hq; exact Nat.le_refl _) HX.out.2.1.size⟩
        rw [← numK_succ HU.out.1 HX.out.1]; exact hm2
    · obtain rfl : k = us.length := by omega
      clear hm0
      have d0 := hbox.cell (j := 0) rfl
      have d3 := hbox.cell (j := 3) rfl
      have f3 := hbox.frozen 3
      have l2 := hbox.lt
      have HX : Hid (MapI Tryz.prog 9 3 wr W1.heap.size us.length (numK us us.length) ∧ Below W1.heap.size W1 wr ∧ BoxV wr (W1.heap.size + 1) 77 #[.slice adn us.length capn, .map (some W1.heap.size), .slice none 0 0, .slice none 0 0]) := ⟨hmap, hbw, hbox⟩
      clear hbw hbox hmap
      have hmk := run_makeSlice wr 75 74 ipn (.slice none 0 0) t9 hipn1 hipn2 .i64 .i64 (us.length : Int) (us.length : Int) (by omega) (by omega) (by rw [hipn3]; omega) (by rw [hipn4]; omega) (by omega)
      rw [hipn3, Int.toNat_natCast, Nat.mul_one] at hmk
      generalize hA : madeCells (Value.cells (.slice none 0 0)) us.length = A at hmk
      have hAL : A = (List.replicate us.length (Value.slice none 0 0)).toArray := by
        rw [← hA]
        unfold madeCells
        apply Array.ext'
        simp [Value.cells, Nat.mod_one, List.map_const']
      obtain ⟨wo, hwo⟩ : ∃ wo, wo = wr := ⟨_, rfl⟩
      subst hwo
      have hst := GraI.start (P := Tryz.prog) (kS := 9) (kI := 3) (eA := 79) (eN := 74) (eG := 77) (us := us) HX.out.2.1 HX.out.1 HX.out.2.2 (by omega) (Nat.le_refl _) (by decide)
      go_wp2
      go_loopg [42] l.length (fun gg s42 wr2 => ∃ (i : Nat) (va : Value) (vs : List Value), s42 = .int .i64 i ∧ i ≤ l.length ∧ l.length ≤ gg + i ∧ GraI Tryz.prog 9 3 79 74 77 W1 wr2 (W1.heap.size + 1) wo.heap.size W1.heap.size us.length (.slice adn us.length capn) va vs us (numK us us.length) (arcsK us l i) ((List.range us.length).map (nxt (arcsK us l i))))
      case atStart =>
        refine ⟨0, .slice none 0 0, List.replicate us.length (.slice none 0 0), rfl, by omega, by omega, ?_⟩
        have : (List.range us.length).map (nxt (arcsK us l 0)) = List.replicate us.length [] := by
          show (List.range us.length).map (fun _ => []) = _
          rw [List.map_const']; simp
        rw [this]
        exact hst
      case round =>
        clear hst
        obtain ⟨i, va, vs, rfl, hi, hgi, hI⟩ := hrel
        by_cases hil : i < l.length
        · have hiz : (i : Int) < (l.length : Int) := by omega
          have hx : l[i]? = some (l[i]'hil) := List.getElem?_eq_getElem hil
          generalize l[i]'hil = x at hx
          obtain ⟨b, off, rfl, hb, e3, e4, e5, e6, e7⟩ := HC'.out i x hx
          have hBW : Below W.heap.size W wr := HB1.out.trans (hI.bel.mono HB1.out.size)
          have d3 := (hBW.cell (p := ⟨b, off + i * 3, none⟩) hb).trans e3
          have d4 := (hBW.cell (p := ⟨b, off + i * 3 + 1, none⟩) hb).trans e4
          have d5 := (hBW.cell (p := ⟨b, off + i * 3 + 2, none⟩) hb).trans e5
          have l1 : b < wr.heap.size := Nat.lt_of_lt_of_le hb hBW.size
          by_cases hk4 : x.k = 4
          · have hkz : ((x.k : Int) == (4 : Int)) = true := by simp [hk4]
            have hkz2 : (x.k : Int) = 4 := by omega
            have HI : Hid (GraI Tryz.prog 9 3 79 74 77 W1 wr (W1.heap.size + 1) wo.heap.size W1.heap.size us.length (.slice adn us.length capn) va vs us (numK us us.length) (arcsK us l i) ((List.range us.length).map (nxt (arcsK us l i))) ∧ l[i]? = some x ∧ x.k = 4) := ⟨hI, hx, hk4⟩
            clear hI hx hk4 hBW e3 e4 e5
            go_wp2
            go_roundg (l.length - (i + 1))
            case measure => omega
            case rel =>
              refine ⟨i + 1, va, vs, by go_num, by omega, by omega, ?_⟩
              rw [arcsK_against HI.out.2.1 HI.out.2.2]
              exact HI.out.1.kept (.alloc _ _)
          · have hkz : ((x.k : Int) == (4 : Int)) = false := by simp; omega
            have hkz2 : ¬(x.k : Int) = 4 := by omega
            have d6 := hI.sbox.cell (j := 1) rfl
            have l2 := hI.sbox.lt
            have l3 : W1.heap.size < wr.heap.size := hI.map.lt
            have mk0 := hI.map
            have mkd : ∀ w : World, MapI Tryz.prog 9 3 w W1.heap.size us.length (numK us us.length) → MapI Tryz.prog 9 3 w.drew W1.heap.size us.length (numK us us.length) := fun w h => h
            have mka : ∀ (w : World) (o : Obj), MapI Tryz.prog 9 3 w W1.heap.size us.length (numK us us.length) → MapI Tryz.prog 9 3 (w.alloc o) W1.heap.size us.length (numK us us.length) := fun w o h => h.kept (X := fun _ => False) (.alloc _ _) id
            obtain ⟨hul, huu⟩ := HU.out.2 x (List.mem_of_getElem? hx)
            obtain ⟨na, hna⟩ : ∃ na, na = us.idxOf x.l := ⟨_, rfl⟩
            obtain ⟨nb, hnb⟩ : ∃ nb, nb = us.idxOf x.u := ⟨_, rfl⟩
            have hna2 : na < us.length := by rw [hna]; exact List.idxOf_lt_length_of_mem hul
            have hnb2 : nb < us.length := by rw [hnb]; exact List.idxOf_lt_length_of_mem huu
            have lk1 : ∀ w : World, MapI Tryz.prog 9 3 w W1.heap.size us.length (numK us us.length) → (Instr.lookup 52 (.map (some W1.heap.size)) (.string ⟨x.l.toArray⟩) false).run Tryz.prog w = .ok (.int .i64 (na : Int)) w := fun w h => by
              rw [h.look (t := 52) t1 t4 t10 (v4 w) e7, numK_all hul, hna]
            have lk2 : ∀ w : World, MapI Tryz.prog 9 3 w W1.heap.size us.length (numK us us.length) → (Instr.lookup 52 (.map (some W1.heap.size)) (.string ⟨x.u.toArray⟩) false).run Tryz.prog w = .ok (.int .i64 (nb : Int)) w := fun w h => by
              rw [h.look (t := 52) t1 t4 t10 (v4 w) e6, numK_all huu, hnb]
            have HI : Hid (GraI Tryz.prog 9 3 79 74 77 W1 wr (W1.heap.size + 1) wo.heap.size W1.heap.size us.length (.slice adn us.length capn) va vs us (numK us us.length) (arcsK us l i) ((List.range us.length).map (nxt (arcsK us l i))) ∧ l[i]? = some x ∧ x.k ≠ 4 ∧ na = us.idxOf x.l ∧ nb = us.idxOf x.u) := ⟨hI, hx, hk4, hna, hnb⟩
            clear hI hx hk4 hBW e3 e4 e5 hul huu hna hnb
            have mk1 := mka wr (.cells #[.int .i64 x.k, .string ⟨x.u.toArray⟩, .string ⟨x.l.toArray⟩] 42) mk0
            go_wp2_with fail
            have hwb : (wr.alloc (.cells #[.int .i64 x.k, .string ⟨x.u.toArray⟩, .string ⟨x.l.toArray⟩] 42)).heap.size = wr.heap.size + 1 := by simp
            apply wp_merge (fun a w => a = _ ∧ w = _)
            ·
              go_region_held3 (fun w' => w'.cell? ⟨W1.heap.size + 1, 1, none⟩ = some (.map (some W1.heap.size)) ∧ w'.cell? ⟨wr.heap.size, 1, none⟩ = some (.string ⟨x.u.toArray⟩) ∧ w'.cell? ⟨wr.heap.size, 2, none⟩ = some (.string ⟨x.l.toArray⟩) ∧ MapI Tryz.prog 9 3 w' W1.heap.size us.length (numK us us.length)) (go_keep) (fail)
              all_goals exact ⟨rfl, rfl⟩
            · rintro _ _ ⟨rfl, rfl⟩
              go_wp2_with fail
              have hI2 := (((HI.out.1.kept (.alloc _ (.cells #[.int .i64 x.k, .string ⟨x.u.toArray⟩, .string ⟨x.l.toArray⟩] 42))).kept (.alloc _ (.cells #[.int .i64 i, .int .i64 na, .int .i64 nb] 79))).kept (gr_drew _))
              have hb8 : BoxV ((wr.alloc (.cells #[.int .i64 x.k, .string ⟨x.u.toArray⟩, .string ⟨x.l.toArray⟩] 42)).alloc (.cells #[.int .i64 i, .int .i64 na, .int .i64 nb] 79)).drew (wr.heap.size + 1) 79 #[.int .i64 i, .int .i64 na, .int .i64 nb] := by
                have := heap_alloc_new (wr.alloc (.cells #[.int .i64 x.k, .string ⟨x.u.toArray⟩, .string ⟨x.l.toArray⟩] 42)) (.cells #[.int .i64 i, .int .i64 na, .int .i64 nb] 79)
                rw [hwb] at this
                exact this
              have hnl : (arcsK us l i).length ≤ 200 := Nat.le_trans (arcsK_len i) (by omega)
              generalize hW2 : ((wr.alloc (.cells #[.int .i64 x.k, .string ⟨x.u.toArray⟩, .string ⟨x.l.toArray⟩] 42)).alloc (.cells #[.int .i64 i, .int .i64 na, .int .i64 nb] 79)).drew = W2 at *
              obtain ⟨adA, cA, rfl⟩ := own_shape1 hI2.aown
              have c1 := hI2.sbox.cell (j := 2) rfl
              have c2 := hI2.sbox.frozen 2
              have c3 := hb8.cell (j := 0) rfl
              have c4 := hb8.cell (j := 1) rfl
              have c5 := hb8.cell (j := 2) rfl
              have l4 := hI2.sbox.lt
              have l5 := hb8.lt
              have HI2 : Hid (GraI Tryz.prog 9 3 79 74 77 W1 W2 (W1.heap.size + 1) wo.heap.size W1.heap.size us.length (.slice adn us.length capn) (.slice adA (arcsK us l i).length cA) vs us (numK us us.length) (arcsK us l i) ((List.range us.length).map (nxt (arcsK us l i))) ∧ BoxV W2 (wr.heap.size + 1) 79 #[.int .i64 i, .int .i64 na, .int .i64 nb]) := ⟨hI2, hb8⟩
              clear hI2 hb8 hW2 mk0 mk1 mka mkd lk1 lk2 d3 d4 d5 d6
              apply wp_merge3 (A := _) (V := fun g c1 (w1 : World) => w1.setCell ⟨W1.heap.size + 1, 2, none⟩ (.slice (some ⟨g, 0, none⟩) ((arcsK us l i).length + 1) c1)) (F := fun g c1 (w1 : World) => GraI Tryz.prog 9 3 79 74 77 W1 (w1.setCell ⟨W1.heap.size + 1, 2, none⟩ (.slice (some ⟨g, 0, none⟩) ((arcsK us l i).length + 1) c1)) (W1.heap.size + 1) wo.heap.size W1.heap.size us.length (.slice adn us.length capn) (.slice (some ⟨g, 0, none⟩) ((arcsK us l i).length + 1) c1) vs us (numK us us.length) (arcsK us l i ++ [⟨i, na, nb⟩]) ((List.range us.length).map (nxt (arcsK us l i))) ∧ GrX (fun b => some b = Value.ownBlock (.slice adA (arcsK us l i).length cA) ∨ b = W1.heap.size + 1) W2 (w1.setCell ⟨W1.heap.size + 1, 2, none⟩ (.slice (some ⟨g, 0, none⟩) ((arcsK us l i).length + 1) c1)))
              ·
                go_region_law (refine step_append_lies _ rfl (.tmp 70) (.tmp 72) 74 rfl W1.heap.size 79 ip (.agg #[.int .i64 0, .int .i64 0, .int .i64 0]) 3 24 Tryz.underlying74 hip1 hip2 hip3 hip4 rfl (by decide) (.slice adA (arcsK us l i).length cA) (arcsK us l i).length (arsC (arcsK us l i)) (by simp [Act.eval, Act.put]) (own_gen (o := .cells #[.int .i64 i, .int .i64 na, .int .i64 nb] 79) HI2.out.1.aown rfl) ⟨W2.heap.size, 0, none⟩ 1 1 [.int .i64 i, .int .i64 na, .int .i64 nb] (by simp [Act.eval, Act.put]) rfl (news_gen W2 _ #[.int .i64 i, .int .i64 na, .int .i64 nb] 79 _ rfl rfl) (by simp [Value.oneCell']) (by decide) (by unfold maxLen; omega) (by omega) (by simp; omega) _ rfl ?_; intro g1 c1 w1 ho1 hg1' hl1 hlt3; obtain ⟨⟨i1, i2⟩, b1⟩ := GraI.arcA (o := .cells #[.int .i64 i, .int .i64 na, .int .i64 nb] 79) (x := ⟨i, na, nb⟩) HI2.out.1 (by decide) (by decide) (by decide) (by rfl) (by rfl) (by rfl) (by rfl) hg1' ho1 hl1; have k1 := b1.cell (j := 2) rfl; have k2 := b1.frozen 2)
                all_goals exact ⟨g1, c1, w1, ⟨i1, i2⟩, rfl, rfl⟩
              · clear c1 c2 c3 c4 c5 l4 l5
                rintro gA kA w1 ⟨i1, i2⟩
                generalize w1.setCell ⟨W1.heap.size + 1, 2, none⟩ (.slice (some ⟨gA, 0, none⟩) ((arcsK us l i).length + 1) kA) = W3 at *
                have hb8 := HI2.out.2.kept i2 (by
                  rintro (e | e)
                  · have := (HI.out.1.aown.lt _ e.symm).2
                    omega
                  · omega)
                obtain ⟨u, hu⟩ : ∃ u, vs[na]? = some u := ⟨_, List.getElem?_eq_getElem (by rw [i1.len]; exact hna2)⟩
                have hnx : ((List.range us.length).map (nxt (arcsK us l i)))[na]? = some (nxt (arcsK us l i) na) := by rw [List.getElem?_map, List.getElem?_range hna2]; rfl
                have hou := i1.each na u _ hu hnx
                obtain ⟨adU, cU, rfl⟩ := own_shape1 hou
                have hnl2 : (nxt (arcsK us l i) na).length ≤ 200 := Nat.le_trans (List.length_filter_le ..) hnl
                have c1 := i1.sbox.cell (j := 3) rfl
                have c2 := i1.nbox.frozen na
                have c3 := hb8.cell (j := 0) rfl
                have c4 := hb8.cell (j := 1) rfl
                have c5 := hb8.cell (j := 2) rfl
                have c6 := i1.nbox.cell (j := na) (by simpa using hu)
                have l4 := i1.sbox.lt
                have l5 := hb8.lt
                have l6 := i1.nbox.lt
                have haz : (na : Int) < (us.length : Int) := by omega
                have HI3 : Hid (GraI Tryz.prog 9 3 79 74 77 W1 W3 (W1.heap.size + 1) wo.heap.size W1.heap.size us.length (.slice adn us.length capn) (.slice (some ⟨gA, 0, none⟩) ((arcsK us l i).length + 1) kA) vs us (numK us us.length) (arcsK us l i ++ [⟨i, na, nb⟩]) ((List.range us.length).map (nxt (arcsK us l i))) ∧ BoxV W3 (wr.heap.size + 1) 79 #[.int .i64 i, .int .i64 na, .int .i64 nb] ∧ W3.ownsRow W1.heap.size 79 3 (.slice adU (nxt (arcsK us l i) na).length cU) (nxt (arcsK us l i) na).length (arsC (nxt (arcsK us l i) na)) ∧ vs[na]? = some (.slice adU (nxt (arcsK us l i) na).length cU) ∧ ((List.range us.length).map (nxt (arcsK us l i)))[na]? = some (nxt (arcsK us l i) na)) := ⟨i1, hb8, hou, hu, hnx⟩
                have HNS : Hid (¬some (W1.heap.size + 1) = Value.ownBlock (.slice adU (nxt (arcsK us l i) na).length cU)) := fun e => i1.sbox.ne_own hou (by decide) e.symm
                have HNE : Hid (¬some (wr.heap.size + 1) = Value.ownBlock (.slice adU (nxt (arcsK us l i) na).length cU)) := fun e => by
                  have := ((HI.out.1.each na _ _ hu hnx).lt _ e.symm).2
                  omega
                have hN1 : wo.heap.size ≠ W1.heap.size + 1 := i1.nbox.ne_box i1.sbox (by decide)
                have hN2 : wo.heap.size ≠ wr.heap.size + 1 := by have := HI.out.1.nbox.lt; omega
                have hN3 : W1.heap.size + 1 ≠ wo.heap.size := fun e => hN1 e.symm
                have hN4 : wr.heap.size + 1 ≠ wo.heap.size := fun e => hN2 e.symm
                clear i1 i2 hb8 hou hu hnx
                go_wp2_with fail
                obtain ⟨SS, hSS⟩ : ∃ SS : World → Prop, SS = fun w' => w'.cell? ⟨W1.heap.size + 1, 3, none⟩ = some (.slice (some ⟨wo.heap.size, 0, none⟩) us.length us.length) ∧ w'.cell? ⟨wr.heap.size + 1, 0, none⟩ = some (.int .i64 i) ∧ w'.cell? ⟨wr.heap.size + 1, 1, none⟩ = some (.int .i64 na) ∧ w'.cell? ⟨wr.heap.size + 1, 2, none⟩ = some (.int .i64 nb) ∧ w'.cell? ⟨wo.heap.size, na, none⟩ = some (.slice adU (nxt (arcsK us l i) na).length cU) := ⟨_, rfl⟩
                have hS3 : SS W3.drew := by rw [hSS]; exact ⟨c1, c3, c4, c5, c6⟩
                refine wp_region_any (by kernel_rfl) ?_
                change wpAny _ _ _ _ _ _ _ (World.drew _)
                refine wpAny_of_T (S := SS) (x := 18) _ _ _ _ ?_
                refine wpAnyT_take (i := 0) [17, 3, 2, 1, 0] (v := ?v0) rfl (by kernel_rfl) (by kernel_rfl) (fun _ _ _ h => h) (Or.inl ⟨by rfl, ?hy0⟩) hS3 ?rest0
                case hy0 => (intro w hSw; rw [hSS] at hSw; (try dsimp only at hSw); obtain ⟨s1, s2, s3, s4, s5⟩ := hSw; go_simp; try with_reducible rfl)
                case' rest0 => simp only [Act.put, List.setIfInBounds_toArray, List.set_cons_zero, List.set_cons_succ]
                refine wpAnyT_take (i := 1) [17, 3, 2, 1] (v := ?v1) rfl (by kernel_rfl) (by kernel_rfl) (fun _ _ _ h => h) (Or.inl ⟨by rfl, ?hy1⟩) hS3 ?rest1
                case hy1 => (intro w hSw; rw [hSS] at hSw; (try dsimp only at hSw); obtain ⟨s1, s2, s3, s4, s5⟩ := hSw; go_simp; try with_reducible rfl)
                case' rest1 => simp only [Act.put, List.setIfInBounds_toArray, List.set_cons_zero, List.set_cons_succ]
                refine wpAnyT_take (i := 2) [17, 3, 2] (v := ?v2) rfl (by kernel_rfl) (by kernel_rfl) (fun _ _ _ h => h) (Or.inl ⟨by rfl, ?hy2⟩) hS3 ?rest2
                case hy2 => (intro w hSw; rw [hSS] at hSw; (try dsimp only at hSw); obtain ⟨s1, s2, s3, s4, s5⟩ := hSw; go_simp; try with_reducible rfl)
                case' rest2 => simp only [Act.put, List.setIfInBounds_toArray, List.set_cons_zero, List.set_cons_succ]
                refine wpAnyT_take (i := 3) [17, 3] (v := ?v3) rfl (by kernel_rfl) (by kernel_rfl) (fun _ _ _ h => h) (Or.inl ⟨by rfl, ?hy3⟩) hS3 ?rest3
                case hy3 => (intro w hSw; rw [hSS] at hSw; (try dsimp only at hSw); obtain ⟨s1, s2, s3, s4, s5⟩ := hSw; go_simp; try with_reducible rfl)
                case' rest3 => simp only [Act.put, List.setIfInBounds_toArray, List.set_cons_zero, List.set_cons_succ]
                refine wpAnyT_take (i := 4) [17, 5, 4] (v := ?v4) rfl (by kernel_rfl) (by kernel_rfl) (fun _ _ _ h => h) (Or.inl ⟨by rfl, ?hy4⟩) hS3 ?rest4
                case hy4 => (intro w hSw; rw [hSS] at hSw; (try dsimp only at hSw); obtain ⟨s1, s2, s3, s4, s5⟩ := hSw; go_simp; try with_reducible rfl)
                case' rest4 => simp only [Act.put, List.setIfInBounds_toArray, List.set_cons_zero, List.set_cons_succ]
                refine wpAnyT_take (i := 5) [17, 5] (v := ?v5) rfl (by kernel_rfl) (by kernel_rfl) (fun _ _ _ h => h) (Or.inl ⟨by rfl, ?hy5⟩) hS3 ?rest5
                case hy5 => (intro w hSw; rw [hSS] at hSw; (try dsimp only at hSw); obtain ⟨s1, s2, s3, s4, s5⟩ := hSw; go_simp; try with_reducible rfl)
                case' rest5 => simp only [Act.put, List.setIfInBounds_toArray, List.set_cons_zero, List.set_cons_succ]
                refine wpAnyT_take (i := 6) [16, 13, 12, 9, 8, 7, 6] (v := ?v6) rfl (by kernel_rfl) (by kernel_rfl) (fun _ _ _ h => h) (Or.inl ⟨by rfl, ?hy6⟩) hS3 ?rest6
                case hy6 => (intro w hSw; rw [hSS] at hSw; (try dsimp only at hSw); obtain ⟨s1, s2, s3, s4, s5⟩ := hSw; go_simp; try with_reducible rfl)
                case' rest6 => simp only [Act.put, List.setIfInBounds_toArray, List.set_cons_zero, List.set_cons_succ]
                refine wpAnyT_take (i := 7) [16, 13, 12, 9, 8, 7] (v := ?v7) rfl (by kernel_rfl) (by kernel_rfl) (fun _ _ _ h => h) (Or.inl ⟨by rfl, ?hy7⟩) hS3 ?rest7
                case hy7 => (intro w hSw; rw [hSS] at hSw; (try dsimp only at hSw); obtain ⟨s1, s2, s3, s4, s5⟩ := hSw; go_simp; try with_reducible rfl)
                case' rest7 => simp only [Act.put, List.setIfInBounds_toArray, List.set_cons_zero, List.set_cons_succ]
                refine wpAnyT_take (i := 8) [16, 13, 12, 9, 8] (v := ?v8) rfl (by kernel_rfl) (by kernel_rfl) (fun _ _ _ h => h) (Or.inl ⟨by rfl, ?hy8⟩) hS3 ?rest8
                case hy8 => (intro w hSw; rw [hSS] at hSw; (try dsimp only at hSw); obtain ⟨s1, s2, s3, s4, s5⟩ := hSw; go_simp; try with_reducible rfl)
                case' rest8 => simp only [Act.put, List.setIfInBounds_toArray, List.set_cons_zero, List.set_cons_succ]
                refine wpAnyT_take (i := 9) [16, 13, 12, 9] (v := ?v9) rfl (by kernel_rfl) (by kernel_rfl) (fun _ _ _ h => h) (Or.inl ⟨by rfl, ?hy9⟩) hS3 ?rest9
                case hy9 => (intro w hSw; rw [hSS] at hSw; (try dsimp only at hSw); obtain ⟨s1, s2, s3, s4, s5⟩ := hSw; go_simp; try with_reducible rfl)
                case' rest9 => simp only [Act.put, List.setIfInBounds_toArray, List.set_cons_zero, List.set_cons_succ]
                refine wpAnyT_take (i := 10) [16, 13, 12, 11, 10] (v := ?v10) rfl (by kernel_rfl) (by kernel_rfl) (fun _ _ _ h => h) (Or.inl ⟨by rfl, ?hy10⟩) hS3 ?rest10
                case hy10 => (intro w hSw; rw [hSS] at hSw; (try dsimp only at hSw); obtain ⟨s1, s2, s3, s4, s5⟩ := hSw; go_simp; try with_reducible rfl)
                case' rest10 => simp only [Act.put, List.setIfInBounds_toArray, List.set_cons_zero, List.set_cons_succ]
                refine wpAnyT_take (i := 11) [16, 13, 12, 11] (v := ?v11) rfl (by kernel_rfl) (by kernel_rfl) (fun _ _ _ h => h) (Or.inl ⟨by rfl, ?hy11⟩) hS3 ?rest11
                case hy11 => (intro w hSw; rw [hSS] at hSw; (try dsimp only at hSw); obtain ⟨s1, s2, s3, s4, s5⟩ := hSw; go_simp; try with_reducible rfl)
                case' rest11 => simp only [Act.put, List.setIfInBounds_toArray, List.set_cons_zero, List.set_cons_succ]
                refine wpAnyT_take (i := 12) [16, 13, 12] (v := ?v12) rfl (by kernel_rfl) (by kernel_rfl) (fun _ _ _ h => h) (Or.inl ⟨by rfl, ?hy12⟩) hS3 ?rest12
                case hy12 => (intro w hSw; rw [hSS] at hSw; (try dsimp only at hSw); obtain ⟨s1, s2, s3, s4, s5⟩ := hSw; go_simp; try with_reducible rfl)
                case' rest12 => simp only [Act.put, List.setIfInBounds_toArray, List.set_cons_zero, List.set_cons_succ]
                refine wpAnyT_take (i := 13) [16, 13] (v := ?v13) rfl (by kernel_rfl) (by kernel_rfl) (fun _ _ _ h => h) (Or.inl ⟨by rfl, ?hy13⟩) hS3 ?rest13
                case hy13 => (intro w hSw; rw [hSS] at hSw; (try dsimp only at hSw); obtain ⟨s1, s2, s3, s4, s5⟩ := hSw; go_simp; try with_reducible rfl)
                case' rest13 => simp only [Act.put, List.setIfInBounds_toArray, List.set_cons_zero, List.set_cons_succ]
                refine wpAnyT_take (i := 14) [16, 15, 14] (v := ?v14) rfl (by kernel_rfl) (by kernel_rfl) (fun _ _ _ h => h) (Or.inl ⟨by rfl, ?hy14⟩) hS3 ?rest14
                case hy14 => (intro w hSw; rw [hSS] at hSw; (try dsimp only at hSw); obtain ⟨s1, s2, s3, s4, s5⟩ := hSw; go_simp; try with_reducible rfl)
                case' rest14 => simp only [Act.put, List.setIfInBounds_toArray, List.set_cons_zero, List.set_cons_succ]
                refine wpAnyT_one (i := 15) (by kernel_rfl) rfl (fun K hK => ?_)
                go_simp
                refine hK _ _ (.inr ?_) ?_
                · rw [hSS]
                  have ga : GrX (fun _ => False) W3 (W3.drew.alloc (.cells #[.int .i64 i, .int .i64 na, .int .i64 nb] 79)) := (gr_drew W3).trans (.alloc _ _) fun _ e => .inl e
                  exact ⟨(HI3.out.1.sbox.kept ga id).cell (j := 3) rfl, (HI3.out.2.1.kept ga id).cell (j := 0) rfl, (HI3.out.2.1.kept ga id).cell (j := 1) rfl, (HI3.out.2.1.kept ga id).cell (j := 2) rfl, (HI3.out.1.nbox.kept ga id).cell (j := na) (by simpa using HI3.out.2.2.2.1)⟩
                clear hK K
                refine wpAnyT_one (i := 16) (by kernel_rfl) rfl (fun K hK => ?_)
                refine step_append_lies _ rfl (.tmp 89) (.tmp 91) 74 rfl W1.heap.size 79 ip (.agg #[.int .i64 0, .int .i64 0, .int .i64 0]) 3 24 Tryz.underlying74 hip1 hip2 hip3 hip4 rfl (by decide) (.slice adU (nxt (arcsK us l i) na).length cU) (nxt (arcsK us l i) na).length (arsC (nxt (arcsK us l i) na)) (by simp [Act.eval, Act.put]) (own_gen (o := .cells #[.int .i64 i, .int .i64 na, .int .i64 nb] 79) HI3.out.2.2.1 rfl) ⟨W3.heap.size, 0, none⟩ 1 1 [.int .i64 i, .int .i64 na, .int .i64 nb] (by simp [Act.eval, Act.put]) rfl (news_gen W3 _ #[.int .i64 i, .int .i64 na, .int .i64 nb] 79 _ rfl rfl) (by simp [Value.oneCell']) (by decide) (by unfold maxLen; omega) (by omega) (by simp; omega) _ rfl ?_
                intro g1 c1 w1 ho1 hg1' hl1 hlt3
                obtain ⟨⟨j1, j2⟩, b1, j3⟩ := GraI.nextA (o := .cells #[.int .i64 i, .int .i64 na, .int .i64 nb] 79) (x := ⟨i, na, nb⟩) HI3.out.1 (by decide) (by decide) (by decide) HI3.out.2.2.2.1 HI3.out.2.2.2.2 (by rfl) (by rfl) (by rfl) (by rfl) hg1' ho1 hl1
                have k1 := b1.cell (j := na) (by simpa using HI3.out.2.2.2.1)
                have k2 := b1.frozen na
                have m1 := (HI3.out.1.sbox.kept j3 HNS.out).cell (j := 3) rfl
                have m2 := (HI3.out.2.1.kept j3 HNE.out).cell (j := 1) rfl
                have m3 := (HI3.out.2.1.kept j3 HNE.out).cell (j := 0) rfl
                have m4 := (HI3.out.2.1.kept j3 HNE.out).cell (j := 2) rfl
                have hS4 : SS w1 := by rw [hSS]; exact ⟨m1, m3, m2, m4, k1⟩
                refine hK _ _ (.inr hS4) ?_
                clear hK K
                refine wpAnyT_one (i := 17) (by kernel_rfl) rfl (fun K hK => ?_)
                go_simp
                refine hK _ _ (.inr hS4) ?_
                clear hK K
                refine wpAnyT_one (i := 18) (by kernel_rfl) rfl (fun K hK => ?_)
                go_simp
                refine hK _ _ (.inl rfl) ?_
                clear hK K
                refine wpAnyT_done (by kernel_rfl) ?_ _
                go_wp2_with fail
                go_roundg (l.length - (i + 1))
                case measure => omega
                case rel =>
                  refine ⟨i + 1, .slice (some ⟨gA, 0, none⟩) ((arcsK us l i).length + 1) kA, vs.set na (.slice (some ⟨g1, 0, none⟩) ((nxt (arcsK us l i) na).length + 1) c1), by go_num, by omega, by omega, ?_⟩
                  have e1 : arcsK us l (i + 1) = arcsK us l i ++ [⟨i, na, nb⟩] := by rw [arcsK_arc HI.out.2.1 HI.out.2.2.1, HI.out.2.2.2.1, HI.out.2.2.2.2]; rfl
                  rw [e1, ← nxt_set]
                  exact j1
        · obtain rfl : i = l.length := by omega
          have HI := hI
          clear hI
          go_wp2
          go_ret
          subst hus'
          refine ⟨_, rfl, HB1.out.trans (HI.bel.mono HB1.out.size), ?_⟩
          show Rep _ wr (gD (unitsF l) (arcsK (unitsF l) l l.length)) _
          have hs1 := HI.bel.size
          have hr0 : Rep (fun b j => S b j ∨ (W.heap.size ≤ b ∧ b < W1.heap.size)) W1 (strsD (unitsF l)) (.slice adn (unitsF l).length capn) := HR.out
          refine rep_graph HI hus (hr0.mono (fun b j h => h.imp id fun e => ⟨e.1, Nat.lt_of_lt_of_le e.2 hs1⟩) fun b o h => HI.bel.cell (p := ⟨b, o, none⟩) (h.elim (fun e => Nat.lt_of_lt_of_le (hS b o e) HB1.out.size) fun e => e.2)) (fun b j h1 h2 => .inr ⟨Nat.le_trans HB1.out.size h1, h2⟩)
end Go.Proofs
