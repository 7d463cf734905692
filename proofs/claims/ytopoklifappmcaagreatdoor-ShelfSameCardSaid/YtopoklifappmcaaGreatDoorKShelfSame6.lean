/- Two states are the same just if their pairs are, where both may be; the code and the document say the same of any two states. -/
import Derived.Test.YtopoklifappmcaaGreatDoorRows
import Derived.Test.YtopoklifappmcaaGreatDoorCards
import Derived.Test.YtopoklifappmcaaGreatDoorTie
import Derived.SevenTiedAt
import Derived.ProofKit
import Derived.LaidMore
import Derived.Lay
import Derived.MakeChecks
import Derived.Test.YtopoklifappmcaaGreatDoorKShelfSame5
section
set_option linter.unusedVariables false
set_option maxRecDepth 100000
namespace Go.Proofs.YtopoklifappmcaaGreatDoor
open Go Go.Fw
abbrev bursarlaw27_awake.row : Row := closedRow 13 (.b true)
theorem bursarlaw27_awake.row_ok : RowOK P G1 bursarlaw27_awake.row := closed_ok e0_ok j0_ok (T := [strconv_Itoa.row, strconv_FormatUint.row, strings_Repeat.row, strconv_Atoi.row, strconv_ParseUint.row]) ⟨(strconv_Itoa.row_ok.more g01), ⟨(strconv_FormatUint.row_ok.more g01), ⟨(strings_Repeat.row_ok.more g01), ⟨strconv_Atoi.row_ok, ⟨strconv_ParseUint.row_ok, trivial⟩⟩⟩⟩⟩ 300 (by kernel_rfl)
abbrev bursarlaw27_ShelfSame.As : Shs := (.cons (.x T_api_State) (.cons (.x T_api_State) .nil))
abbrev bursarlaw27_ShelfSame.m : Back := [(false, .b)]
noncomputable abbrev bursarlaw27_ShelfSame.H : HK := hk P G1 E0 J0 [bursarref27_Same.row, bursarlaw27_awake.row, bursarref09_SamePairs.row, bursarlaw27_Few.row, shelf_Pairs.row, shelf_Same.row] noLoops 4
theorem bursarlaw27_ShelfSame.rows : TabOK P G1 (tabF [bursarref27_Same.row, bursarlaw27_awake.row, bursarref09_SamePairs.row, bursarlaw27_Few.row, shelf_Pairs.row, shelf_Same.row]) := rows_ok (ws := [bursarref27_Same.row, bursarlaw27_awake.row, bursarref09_SamePairs.row, bursarlaw27_Few.row, shelf_Pairs.row, shelf_Same.row]) ⟨(bursarref27_Same.row_ok.more g01), ⟨bursarlaw27_awake.row_ok, ⟨(bursarref09_SamePairs.row_ok.more g01), ⟨(bursarlaw27_Few.row_ok.more g01), ⟨(shelf_Pairs.row_ok.more g01), ⟨(shelf_Same.row_ok.more g01), trivial⟩⟩⟩⟩⟩⟩
theorem bursarlaw27_ShelfSame.hok : HKOK P bursarlaw27_ShelfSame.H := hk_ok e0_ok j0_ok bursarlaw27_ShelfSame.rows (fun g n => noLoops_ok g n) 4
noncomputable def bursarlaw27_ShelfSame.f (a : ((Int × (Int × (Int × ((List (Int × (Int × (ByteArray × (ByteArray × (ByteArray × Int)))))) × ((List (ByteArray × (ByteArray × (ByteArray × (Int × (Int × (Int × Bool))))))) × ((List (Int × (ByteArray × (ByteArray × (ByteArray × Int))))) × ((List (Int × (ByteArray × (ByteArray × (ByteArray × Int))))) × (List (ByteArray × (ByteArray × (ByteArray × (Int × (Int × Int))))))))))))) × (Int × (Int × (Int × ((List (Int × (Int × (ByteArray × (ByteArray × (ByteArray × Int)))))) × ((List (ByteArray × (ByteArray × (ByteArray × (Int × (Int × (Int × Bool))))))) × ((List (Int × (ByteArray × (ByteArray × (ByteArray × Int))))) × ((List (Int × (ByteArray × (ByteArray × (ByteArray × Int))))) × (List (ByteArray × (ByteArray × (ByteArray × (Int × (Int × Int))))))))))))))) : Option Bool := (((bursarlaw27_Few.f a.1)).bind fun x2 => (((bursarlaw27_Few.f a.2)).bind fun x3 => (((shelf_Pairs.f x2)).bind fun x4 => (((shelf_Pairs.f x3)).bind fun x5 => (((shelf_Same.f (x2, x3))).bind fun x6 => (((bursarref27_Same.f (x2, x3))).bind fun x7 => (bif (!(x6 == x7)) then (some false) else (bif (x4.2 != (0 : Int)) then (some true) else (bif (x5.2 != (0 : Int)) then (some true) else (((bursarref09_SamePairs.f (x4.1, x5.1))).bind fun x8 => (((shelf_Same.f (x2, x3))).bind fun x9 => (bif (x8 == x9) then (some true) else (some false)))))))))))))
theorem bursarlaw27_ShelfSame.ok : ∀ a : Vals bursarlaw27_ShelfSame.As.tys, fnK P bursarlaw27_ShelfSame.H (lp []) 6 bursarlaw27_ShelfSame.As bursarlaw27_ShelfSame.m a some = bursarlaw27_ShelfSame.f a := fun a => by kernel_rfl
noncomputable abbrev bursarlaw27_ShelfSame.row : Row := fnRow 6 bursarlaw27_ShelfSame.As bursarlaw27_ShelfSame.m bursarlaw27_ShelfSame.f
theorem bursarlaw27_ShelfSame.row_ok : RowOK P G1 bursarlaw27_ShelfSame.row := row_told bursarlaw27_ShelfSame.hok (lp_of (l := []) trivial) (fun _ => rfl) bursarlaw27_ShelfSame.ok
end Go.Proofs.YtopoklifappmcaaGreatDoor
end
section
set_option linter.unusedVariables false
set_option linter.unusedSimpArgs false
set_option synthInstance.maxSize 100000
set_option synthInstance.maxHeartbeats 1000000
namespace Go.Proofs.YtopoklifappmcaaGreatDoor
open Go Go.Fw
theorem pairs_len {a : St} (s : Small a) (m : ParS a) : (pairsS a).length ≤ 100000 := by
  have h1 := s.np
  have h2 := s.nh
  have h3 := s.nd
  have h4 := s.ne
  have h5 := s.nc
  unfold pairsS
  simp only [List.length_append, List.length_map, List.length_range, List.length_cons, List.length_nil]
  omega
theorem ShelfSame_is (a b : St) (ha : ∀ x ∈ a.2.2.2.2.1, Am x.2.2.2.1) (hb : ∀ x ∈ b.2.2.2.2.1, Am x.2.2.2.1) : bursarlaw27_ShelfSame.f (a, b) = some true := by
  have sa := fewS_small ha
  have sb := fewS_small hb
  unfold bursarlaw27_ShelfSame.f
  simp only [few27_is, Option.bind_some, shelfPairs_is sa, shelfPairs_is sb, shelfSame_is sa, refSame_is sa]
  have e : (decide (fewS a = fewS b) == decide (fewS a = fewS b)) = true := by rw [beq_self_eq_true]
  rw [e]
  cases ma : mayS (fewS a)
  · rfl
  cases mb : mayS (fewS b)
  · rfl
  simp only [cond_true, Bool.not_true, cond_false, bne_self_eq_false, samePairs_is (pairs_len sa (mayS_parts ma)), pairs_inj ma mb sa sb, Option.bind_some, beq_self_eq_true]
end Go.Proofs.YtopoklifappmcaaGreatDoor
end
section
set_option linter.unusedVariables false
set_option linter.unusedSimpArgs false
namespace Go.Proofs.YtopoklifappmcaaGreatDoor.shelfSame
open Go Go.Fw Go.ChangeShapes Go.WideShapes Go.ChangeAt Go.RowKit
theorem own : ownKnob Tryz.prog.godebug = none := by kernel_rfl
theorem laidOut : laidOutB Tryz.prog = true := by kernel_rfl
set_option maxRecDepth 100000 in
theorem told {W : World} (h : laidMetH Tryz.prog Rows.shelfSameRow.laid W) : Glob ⟨W, fun b => b < W.heap.size, fun _ => False, fun _ => 0, fun _ => 0, G1⟩ := by
  rw [MakeChecks.laidMetH_plain _ _ _ (by kernel_rfl)] at h
  have f3 := globAt_tab (P := Tryz.prog) (g := 3) (k := .u64) (zs := [1, 10, 100, 1000, 10000, 100000, 1000000, 10000000, 100000000, 1000000000, 10000000000, 100000000000, 1000000000000, 10000000000000, 100000000000000, 1000000000000000, 10000000000000000, 100000000000000000, 1000000000000000000, 10000000000000000000]) (by kernel_rfl) (Lib.tabIs_of_head (g := 3) (by kernel_rfl) (by kernel_rfl) Tryz.underlying239 Tryz.underlying128 (by kernel_rfl) (by kernel_rfl) (laidMet.tail (laidMet.tail h)))
  have f2 := globAt_err (P := Tryz.prog) (g := 2) (by kernel_rfl) (laid_err (g := 2) (laidMet.tail (laidMet.tail (laidMet.tail (laidMet.tail h)))) (by kernel_rfl) (by kernel_rfl) Tryz.underlying157)
  have f1 := globAt_err (P := Tryz.prog) (g := 1) (by kernel_rfl) (laid_err (g := 1) (laidMet.tail (laidMet.tail (laidMet.tail (laidMet.tail (laidMet.tail h))))) (by kernel_rfl) (by kernel_rfl) Tryz.underlying157)
  exact (glob_cons f3 (glob_cons f1 (glob_cons f2 glob_none')))
set_option maxRecDepth 100000 in
theorem lifted (os : Os) (started : os.Started) (H : Type) (enc : TypeId × Value → H) :
    ReturnsInHanded {} Tryz.checked os 6 .any (fun w args => (Rows.shelfSameSpec.pre enc Tryz.prog Tryz.f6 [] false w args ∧ laidMetH Tryz.prog Rows.shelfSameRow.laid w) ∧ sizedMet enc Tryz.prog Tryz.f6 (OpenSpec.ofChange Rows.shelfSameSpec) false w args)
      (Rows.shelfSameSpec.post enc Tryz.prog Tryz.f6 false true false false) := by
  refine returnsInHanded_of_change_and (C := Tryz.checked) (X := fun w _ => laidMetH Tryz.prog Rows.shelfSameRow.laid w) (fun _ _ _ hh h => h.of_heap hh) own started (by kernel_rfl) Tryz.func6
    (ChangeSpec.witness_shaped (enc := enc) (C := Tryz.checked) (os := os) (X := fun w _ => laidMetH Tryz.prog Rows.shelfSameRow.laid w) false (World.laidAll Tryz.prog os Rows.shelfSameRow.laid) #[.agg #[.int .i64 0, .int .i64 0, .int .i64 0, .slice none 0 0, .slice none 0 0, .slice none 0 0, .slice none 0 0, .slice none 0 0], .agg #[.int .i64 0, .int .i64 0, .int .i64 0, .slice none 0 0, .slice none 0 0, .slice none 0 0, .slice none 0 0, .slice none 0 0]] 8 (World.laidAll_os _ _ _) (World.shaped_of_ZipB (by kernel_rfl) (by kernel_rfl)) (by kernel_rfl) (by kernel_rfl) (by kernel_rfl) (by rw [MakeChecks.laidMetH_plain _ _ _ (by kernel_rfl)]; exact laidMet_laidAll _ (by kernel_rfl) (by kernel_rfl))) ?_
  intro W base args ds gs before hval hW _ _ hL _
  exact law_call (P := Tryz.prog) (g := 6) (tb := Tryz.f6.resultTypes.getD 0 0) laidOut bursarlaw27_ShelfSame.row_ok (told hL) (by kernel_rfl) (fun a => by kernel_rfl) (by kernel_rfl) (by kernel_rfl) rfl
    (fun ds h => match ds, h with | [_, _], _ => ⟨rfl, rfl, rfl⟩) (fun a ha => ShelfSame_is a.1 a.2 (fun x hx => bounds_i64 (ha.1.2.2.2.2.1.2 x hx).2.2.2.1) (fun x hx => bounds_i64 (ha.2.2.2.2.2.1.2 x hx).2.2.2.1)) hval hW
set_option maxRecDepth 100000 in
theorem over : Rows.shelfSameRow.holds Tryz.pinned (OpenSpec.ofChange Rows.shelfSameSpec) :=
  OpenClaim.holds_of_wide 6 Tryz.f6 rfl rfl rfl rfl rfl rfl rfl ⟨rfl, rfl, rfl, rfl, rfl⟩ rfl rfl rfl rfl rfl (by kernel_rfl) Tryz.func6 (by kernel_rfl)
    (of_decide_eq_true (by kernel_rfl)) (by unfold Func.isWrapper; first | (rw [if_pos (by decide +kernel)]; kernel_rfl) | (rw [if_neg (by decide +kernel)]; exact ⟨rfl, rfl⟩))
    (fun os started H enc _ => lifted os started H enc)
theorem plainParams : (Tryz.f6.params.toList.all fun t => !(Tryz.prog.wantsStandIn t)) = true := by kernel_rfl
theorem card : Rows.ShelfSameCardSaid :=
  Claim7.holds_tied_plain_at .later [] [.data, .data, .data, .data, .sentinel, .sentinel, .pinned] true (true, "d28fed6dd794e10756b644249adc63d164d7b78fffd9b5724f1fe8cd8b24d80a") true
    over (fun _ h => by cases h) (by kernel_rfl) (fun _ h => by cases h) shelfSame_row_tie rfl ⟨rfl, rfl⟩ (by kernel_rfl) rfl
    (fun f fn hf hfn => by
      obtain rfl : f = 6 := Option.some.inj ((show Tryz.prog.funcNamed "bursar/bursarlaw27.ShelfSame" = some 6 by kernel_rfl).symm.trans hf) |>.symm
      obtain rfl : fn = Tryz.f6 := (Option.some.inj (Tryz.func6.symm.trans hfn)).symm
      exact ⟨by kernel_rfl, fun j t ht => by
        have h := List.all_eq_true.1 plainParams t (by rw [← Array.getElem?_toList] at ht; exact List.mem_of_getElem? ht)
        exact (show Tryz.prog.wantsStandIn t = false by simpa using h)⟩)
    (by kernel_rfl)
end Go.Proofs.YtopoklifappmcaaGreatDoor.shelfSame
namespace Go.Proofs.YtopoklifappmcaaGreatDoor
theorem shelfSame_holds : Rows.ShelfSameCardSaid := shelfSame.card
#print axioms shelfSame_holds
end Go.Proofs.YtopoklifappmcaaGreatDoor
end
