/- Trades of two messages have the same key just if their class, trace, reference, acquirer and time are the same. -/
import Derived.Test.YtpoiijkodpnobaaGreatDoorRows
import Derived.Test.YtpoiijkodpnobaaGreatDoorCards
import Derived.Test.YtpoiijkodpnobaaGreatDoorTie
import Derived.SevenTiedAt
import Derived.ProofKit
import Derived.LaidMore
import Derived.Lay
import Derived.MakeChecks
import Derived.Test.YtpoiijkodpnobaaGreatDoorKTradeKeys5
section
set_option linter.unusedVariables false
set_option linter.unusedSimpArgs false
set_option maxHeartbeats 1000000
set_option maxRecDepth 10000
namespace Go.Proofs.YtpoiijkodpnobaaGreatDoor
open Go Go.Fw
theorem orT {s : ByteArray} {w : Nat} : bs (orL s w) = bif decide (s = bs []) then bs (List.replicate w 48) else s := by
  unfold orL
  cases decide (s = bs [])
  · rw [cond_false, cond_false, ← eq_bs]
  · rfl
theorem keys_loop (x1 : ByteArray) (x2 : ByteArray) (x3 : ByteArray) (x4 : Int) (x5 : ByteArray) (x6 : ByteArray) (x7 : ByteArray) (x8 : ByteArray) (x9 : ByteArray) (x10 : Int) (x11 : Int) (x12 : ByteArray) (y1 : ByteArray) (y2 : ByteArray) (y3 : ByteArray) (y4 : Int) (y5 : ByteArray) (y6 : ByteArray) (y7 : ByteArray) (y8 : ByteArray) (y9 : ByteArray) (y10 : Int) (y11 : Int) (y12 : ByteArray) (r1 r2 a1 a2 : ByteArray) :
    bursarlaw20_TradeKeys.l10 ((0 : Int), x1, x2, x3, x4, x5, x6, x7, x8, x9, x10, x11, x12, y1, y2, y3, y4, y5, y6, y7, y8, y9, y10, y11, y12, r1, r2, a1, a2) = some (x1, x2, x3, x4, x5, x6, x7, x8, x9, x10, x11, x12, y1, y2, y3, y4, y5, y6, y7, y8, y9, y10, y11, y12, bs (orL r1 12), bs (orL r2 12), bs (orL a1 6), bs (orL a2 6)) := by
  have s0 : bursarlaw20_TradeKeys.t10 ((0 : Int), x1, x2, x3, x4, x5, x6, x7, x8, x9, x10, x11, x12, y1, y2, y3, y4, y5, y6, y7, y8, y9, y10, y11, y12, r1, r2, a1, a2) = some (.inl ((1 : Int), x1, x2, x3, x4, x5, x6, x7, x8, x9, x10, x11, x12, y1, y2, y3, y4, y5, y6, y7, y8, y9, y10, y11, y12, bs (orL r1 12), r2, bs (orL a1 6), a2)) := by
    unfold bursarlaw20_TradeKeys.t10
    simp only [texts_nil, orT]
    cases decide (r1 = bs []) <;> cases decide (a1 = bs []) <;> rfl
  have s1 : bursarlaw20_TradeKeys.t10 ((1 : Int), x1, x2, x3, x4, x5, x6, x7, x8, x9, x10, x11, x12, y1, y2, y3, y4, y5, y6, y7, y8, y9, y10, y11, y12, bs (orL r1 12), r2, bs (orL a1 6), a2) = some (.inl ((2 : Int), x1, x2, x3, x4, x5, x6, x7, x8, x9, x10, x11, x12, y1, y2, y3, y4, y5, y6, y7, y8, y9, y10, y11, y12, bs (orL r1 12), bs (orL r2 12), bs (orL a1 6), bs (orL a2 6))) := by
    obtain ⟨R, hR⟩ : ∃ R, bs (orL r1 12) = R := ⟨_, rfl⟩
    obtain ⟨A, hA⟩ : ∃ A, bs (orL a1 6) = A := ⟨_, rfl⟩
    rw [hR, hA]
    unfold bursarlaw20_TradeKeys.t10
    simp only [texts_nil, orT]
    cases decide (r2 = bs []) <;> cases decide (a2 = bs []) <;> rfl
  have s2 : bursarlaw20_TradeKeys.t10 ((2 : Int), x1, x2, x3, x4, x5, x6, x7, x8, x9, x10, x11, x12, y1, y2, y3, y4, y5, y6, y7, y8, y9, y10, y11, y12, bs (orL r1 12), bs (orL r2 12), bs (orL a1 6), bs (orL a2 6)) = some (.inr (x1, x2, x3, x4, x5, x6, x7, x8, x9, x10, x11, x12, y1, y2, y3, y4, y5, y6, y7, y8, y9, y10, y11, y12, bs (orL r1 12), bs (orL r2 12), bs (orL a1 6), bs (orL a2 6))) := rfl
  unfold bursarlaw20_TradeKeys.l10
  rw [rounds_next s0, rounds_next s1, rounds_end s2]
theorem bt_one {s : ByteArray} (h : s.size = 4) : (s.extract 1 2).data.toList = [s.data.toList.getD 1 0] := by
  obtain ⟨l, rfl⟩ : ∃ l, s = bs l := ⟨_, eq_bs s⟩
  rw [bs_size] at h
  rw [bs_extract, bs_list, bs_list]
  match l, h with
  | [a, b, c, d], _ => rfl
theorem key_same {m n : Msg} {x y : Tr} (hx : ReadT m x) (hy : ReadT n y) : decide (bs (keyL x) = bs (keyL y)) =
    ((bt x.1 1 == bt y.1 1) && (decide (x.2.2.2.2.2.1 = y.2.2.2.2.2.1) && (decide (bs (orL x.2.2.2.2.2.2.2.1 12) = bs (orL y.2.2.2.2.2.2.2.1 12)) && (decide (bs (orL x.2.2.2.2.2.2.1 6) = bs (orL y.2.2.2.2.2.2.1 6)) && decide (x.2.2.2.2.1 = y.2.2.2.2.1))))) := by
  have e1 := bt_one hx.four
  have e2 := bt_one hy.four
  rw [Bool.eq_iff_iff]
  simp only [decide_eq_true_eq, Bool.and_eq_true, beq_iff_eq, bs_inj]
  have hs1 : x.2.2.2.2.2.1.data.toList.length = 6 := hx.stan
  have hs2 : y.2.2.2.2.2.1.data.toList.length = 6 := hy.stan
  have hr1 := orL_16 hx.rrn
  have hr2 := orL_16 hy.rrn
  have ha1 := orL_16 hx.acq
  have ha2 := orL_16 hy.acq
  have data : ∀ s t : ByteArray, s.data.toList = t.data.toList → s = t := fun s t h => by rw [eq_bs s, h, ← eq_bs t]
  unfold keyL
  rw [e1, e2]
  constructor
  · intro h
    obtain ⟨h, h5⟩ := List.append_inj h (by simp only [List.length_append, List.length_cons, List.length_nil]; omega)
    obtain ⟨h, h4⟩ := List.append_inj h (by simp only [List.length_append, List.length_cons, List.length_nil]; omega)
    obtain ⟨h, h3⟩ := List.append_inj h (by simp only [List.length_append, List.length_cons, List.length_nil]; omega)
    obtain ⟨h1, h2⟩ := List.append_inj h (by simp)
    refine ⟨?_, data _ _ h2, h3, h4, data _ _ h5⟩
    unfold bt
    injection h1 with h1
    rw [h1]
  · rintro ⟨h1, h2, h3, h4, h5⟩
    have : x.1.data.toList.getD 1 0 = y.1.data.toList.getD 1 0 := by
      unfold bt at h1
      exact UInt8.toNat.inj (by omega)
    rw [this, h2, h3, h4, h5]
theorem TradeKeys_is (a : Msg × Msg) : bursarlaw20_TradeKeys.f a = some true := by
  obtain ⟨m, hf, hg⟩ := few19_is a.1
  obtain ⟨n, hf', hg'⟩ := few19_is a.2
  unfold bursarlaw20_TradeKeys.f
  simp only [hf, hf', Option.bind_some, awake20]
  rcases read_cases hg with ⟨e, he, h1, h2⟩ | ⟨i, hp, hw, ha, ho, h1, h2⟩
  · have e1 : (e != 0) = true := by simpa using he
    rcases read_cases hg' with ⟨e', he', h1', h2'⟩ | ⟨i', hp', hw', ha', ho', h1', h2'⟩ <;> simp only [h1, h1', Option.bind_some, e1, cond_true]
  · have hr := readT_of hg hp hw ho
    obtain ⟨x, hx⟩ : ∃ x, trT m (m.1.extract 0 3 ++ bs [48]) (mAt i).1 = x := ⟨_, rfl⟩
    rw [hx] at h1 hr
    rcases read_cases hg' with ⟨e', he', h1', h2'⟩ | ⟨i', hp', hw', ha', ho', h1', h2'⟩
    · have e1 : (e' != 0) = true := by simpa using he'
      simp only [h1, h1', Option.bind_some, e1, cond_true, bne_self_eq_false, cond_false]
    · have hr' := readT_of hg' hp' hw' ho'
      obtain ⟨y, hy⟩ : ∃ y, trT n (n.1.extract 0 3 ++ bs [48]) (mAt i').1 = y := ⟨_, rfl⟩
      rw [hy] at h1' hr'
      have k1 := tradeKey_is hr.key
      have k2 := tradeKey_is hr'.key
      have ks := key_same hr hr'
      have l35 : (((bs (keyL x)).size : Int) == 35) = true := by rw [bs_size, hr.len]; rfl
      have f1 : ((x.1.size : Int) != 4) = false := by rw [hr.four]; rfl
      have f2 : ((y.1.size : Int) != 4) = false := by rw [hr'.four]; rfl
      have d1 : decide ((1 : Int) < (x.1.size : Int)) = true := by rw [hr.four]; rfl
      have d2 : decide ((1 : Int) < (y.1.size : Int)) = true := by rw [hr'.four]; rfl
      obtain ⟨XK, hXK⟩ : ∃ K, bs (keyL x) = K := ⟨_, rfl⟩
      obtain ⟨YK, hYK⟩ : ∃ K, bs (keyL y) = K := ⟨_, rfl⟩
      rw [hXK] at k1 ks l35
      rw [hYK] at k2 ks
      obtain ⟨x1, x2, x3, x4, x5, x6, x7, x8, x9, x10, x11, x12⟩ := x
      obtain ⟨y1, y2, y3, y4, y5, y6, y7, y8, y9, y10, y11, y12⟩ := y
      simp only at k1 k2 ks f1 f2 d1 d2
      simp only [h1, h1', Option.bind_some, bne_self_eq_false, cond_false, f1, f2, keys_loop, d1, d2, Bool.and_self, cond_true, k1, k2, texts_eq, ks, l35]
      cases (bt x1 1 == bt y1 1) <;> cases decide (x6 = y6) <;> cases decide (bs (orL x8 12) = bs (orL y8 12)) <;> cases decide (bs (orL x7 6) = bs (orL y7 6)) <;> cases decide (x5 = y5) <;> rfl
end Go.Proofs.YtpoiijkodpnobaaGreatDoor
end
section
set_option linter.unusedVariables false
set_option linter.unusedSimpArgs false
namespace Go.Proofs.YtpoiijkodpnobaaGreatDoor.tradeKeys
open Go Go.Fw Go.ChangeShapes Go.WideShapes Go.ChangeAt Go.RowKit
theorem own : ownKnob Tryz.prog.godebug = none := by kernel_rfl
theorem laidOut : laidOutB Tryz.prog = true := by kernel_rfl
set_option maxRecDepth 100000 in
theorem told {W : World} (h : laidMetH Tryz.prog Rows.tradeKeysRow.laid W) : Glob ⟨W, fun b => b < W.heap.size, fun _ => False, fun _ => 0, fun _ => 0, G1⟩ := by
  rw [MakeChecks.laidMetH_plain _ _ _ (by kernel_rfl)] at h
  have f4 := globAt_tab (P := Tryz.prog) (g := 4) (k := .u64) (zs := [1, 10, 100, 1000, 10000, 100000, 1000000, 10000000, 100000000, 1000000000, 10000000000, 100000000000, 1000000000000, 10000000000000, 100000000000000, 1000000000000000, 10000000000000000, 100000000000000000, 1000000000000000000, 10000000000000000000]) (by kernel_rfl) (Lib.tabIs_of_head (g := 4) (by kernel_rfl) (by kernel_rfl) Tryz.underlying237 Tryz.underlying95 (by kernel_rfl) (by kernel_rfl) (laidMet.tail (laidMet.tail h)))
  have f3 := globAt_err (P := Tryz.prog) (g := 3) (by kernel_rfl) (laid_err (g := 3) (laidMet.tail (laidMet.tail (laidMet.tail (laidMet.tail h)))) (by kernel_rfl) (by kernel_rfl) Tryz.underlying141)
  have f2 := globAt_err (P := Tryz.prog) (g := 2) (by kernel_rfl) (laid_err (g := 2) (laidMet.tail (laidMet.tail (laidMet.tail (laidMet.tail (laidMet.tail h))))) (by kernel_rfl) (by kernel_rfl) Tryz.underlying141)
  have f8 := globAt_tab (P := Tryz.prog) (g := 8) (k := .u8) (zs := [0, 0, 0, 0, 0, 0, 0, 0, 0, 1, 1, 1, 1, 1, 0, 0, 0, 0, 0, 0, 0, 0, 0, 0, 0, 0, 0, 0, 0, 0, 0, 0, 1, 0, 0, 0, 0, 0, 0, 0, 0, 0, 0, 0, 0, 0, 0, 0, 0, 0, 0, 0, 0, 0, 0, 0, 0, 0, 0, 0, 0, 0, 0, 0, 0, 0, 0, 0, 0, 0, 0, 0, 0, 0, 0, 0, 0, 0, 0, 0, 0, 0, 0, 0, 0, 0, 0, 0, 0, 0, 0, 0, 0, 0, 0, 0, 0, 0, 0, 0, 0, 0, 0, 0, 0, 0, 0, 0, 0, 0, 0, 0, 0, 0, 0, 0, 0, 0, 0, 0, 0, 0, 0, 0, 0, 0, 0, 0, 0, 0, 0, 0, 0, 0, 0, 0, 0, 0, 0, 0, 0, 0, 0, 0, 0, 0, 0, 0, 0, 0, 0, 0, 0, 0, 0, 0, 0, 0, 0, 0, 0, 0, 0, 0, 0, 0, 0, 0, 0, 0, 0, 0, 0, 0, 0, 0, 0, 0, 0, 0, 0, 0, 0, 0, 0, 0, 0, 0, 0, 0, 0, 0, 0, 0, 0, 0, 0, 0, 0, 0, 0, 0, 0, 0, 0, 0, 0, 0, 0, 0, 0, 0, 0, 0, 0, 0, 0, 0, 0, 0, 0, 0, 0, 0, 0, 0, 0, 0, 0, 0, 0, 0, 0, 0, 0, 0, 0, 0, 0, 0, 0, 0, 0, 0, 0, 0, 0, 0, 0, 0, 0, 0, 0, 0, 0, 0]) (by kernel_rfl) (Lib.tabIs_of_head (g := 8) (by kernel_rfl) (by kernel_rfl) Tryz.underlying228 Tryz.underlying5 (by kernel_rfl) (by kernel_rfl) (laidMet.tail (laidMet.tail (laidMet.tail (laidMet.tail (laidMet.tail (laidMet.tail (laidMet.tail h))))))))
  exact (glob_cons f4 (glob_cons f8 (glob_cons f2 (glob_cons f3 glob_none'))))
set_option maxRecDepth 100000 in
theorem lifted (os : Os) (started : os.Started) (H : Type) (enc : TypeId × Value → H) :
    ReturnsInHanded {} Tryz.checked os 4 .any (fun w args => (Rows.tradeKeysSpec.pre enc Tryz.prog Tryz.f4 [] false w args ∧ laidMetH Tryz.prog Rows.tradeKeysRow.laid w) ∧ sizedMet enc Tryz.prog Tryz.f4 (OpenSpec.ofChange Rows.tradeKeysSpec) false w args)
      (Rows.tradeKeysSpec.post enc Tryz.prog Tryz.f4 false true false false) := by
  refine returnsInHanded_of_change_and (C := Tryz.checked) (X := fun w _ => laidMetH Tryz.prog Rows.tradeKeysRow.laid w) (fun _ _ _ hh h => h.of_heap hh) own started (by kernel_rfl) Tryz.func4
    (ChangeSpec.witness_shaped (enc := enc) (C := Tryz.checked) (os := os) (X := fun w _ => laidMetH Tryz.prog Rows.tradeKeysRow.laid w) false (World.laidAll Tryz.prog os Rows.tradeKeysRow.laid) #[.agg #[.string ByteArray.empty, .slice none 0 0], .agg #[.string ByteArray.empty, .slice none 0 0]] 8 (World.laidAll_os _ _ _) (World.shaped_of_ZipB (by kernel_rfl) (by kernel_rfl)) (by kernel_rfl) (by kernel_rfl) (by kernel_rfl) (by rw [MakeChecks.laidMetH_plain _ _ _ (by kernel_rfl)]; exact laidMet_laidAll _ (by kernel_rfl) (by kernel_rfl))) ?_
  intro W base args ds gs before hval hW _ _ hL _
  exact law_call (P := Tryz.prog) (g := 4) (tb := Tryz.f4.resultTypes.getD 0 0) laidOut bursarlaw20_TradeKeys.row_ok (told hL) (by kernel_rfl) (fun a => by kernel_rfl) (by kernel_rfl) (by kernel_rfl) rfl
    (fun ds h => match ds, h with | [_, _], _ => ⟨rfl, rfl, rfl⟩) (fun a ha => TradeKeys_is a) hval hW
set_option maxRecDepth 100000 in
theorem over : Rows.tradeKeysRow.holds Tryz.pinned (OpenSpec.ofChange Rows.tradeKeysSpec) :=
  OpenClaim.holds_of_wide 4 Tryz.f4 rfl rfl rfl rfl rfl rfl rfl ⟨rfl, rfl, rfl, rfl, rfl⟩ rfl rfl rfl rfl rfl (by kernel_rfl) Tryz.func4 (by kernel_rfl)
    (of_decide_eq_true (by kernel_rfl)) (by unfold Func.isWrapper; first | (rw [if_pos (by decide +kernel)]; kernel_rfl) | (rw [if_neg (by decide +kernel)]; exact ⟨rfl, rfl⟩))
    (fun os started H enc _ => lifted os started H enc)
theorem plainParams : (Tryz.f4.params.toList.all fun t => !(Tryz.prog.wantsStandIn t)) = true := by kernel_rfl
theorem card : Rows.TradeKeysCardSaid :=
  Claim7.holds_tied_plain_at .later [] [.data, .data, .data, .data, .sentinel, .sentinel, .listed, .data, .pinned] true (true, "bf724d4f18b19264e7bd250bb3244673d72c77338245170921484629fefa8bc9") true
    over (fun _ h => by cases h) (by kernel_rfl) (fun _ h => by cases h) tradeKeys_row_tie rfl ⟨rfl, rfl⟩ (by kernel_rfl) rfl
    (fun f fn hf hfn => by
      obtain rfl : f = 4 := Option.some.inj ((show Tryz.prog.funcNamed "bursar/bursarlaw20.TradeKeys" = some 4 by kernel_rfl).symm.trans hf) |>.symm
      obtain rfl : fn = Tryz.f4 := (Option.some.inj (Tryz.func4.symm.trans hfn)).symm
      exact ⟨by kernel_rfl, fun j t ht => by
        have h := List.all_eq_true.1 plainParams t (by rw [← Array.getElem?_toList] at ht; exact List.mem_of_getElem? ht)
        exact (show Tryz.prog.wantsStandIn t = false by simpa using h)⟩)
    (by kernel_rfl)
end Go.Proofs.YtpoiijkodpnobaaGreatDoor.tradeKeys
namespace Go.Proofs.YtpoiijkodpnobaaGreatDoor
theorem tradeKeys_holds : Rows.TradeKeysCardSaid := tradeKeys.card
#print axioms tradeKeys_holds
end Go.Proofs.YtpoiijkodpnobaaGreatDoor
end
