/- Part 5 of what the proof of this statement stands on: Trades of two messages have the same key just if their class, trace, reference, acquirer and time are the same. -/
import Derived.Laws.Strings
import Derived.Shelf.Strconv.ErrVarAll
import Derived.Test.YtpoiijkodpnobaaGreatDoorProg
import Derived.Shelf.Strconv.ErrVarParseInt
import Derived.Test.YtpoiijkodpnobaaGreatDoorKTradeKeys4
section
set_option linter.unusedVariables false
set_option linter.unusedSimpArgs false
namespace Go.Proofs.YtpoiijkodpnobaaGreatDoor
open Go Go.Fw
def allT : List ByteArray := [bs [48, 49, 48, 48], bs [48, 49, 48, 49], bs [48, 49, 49, 48], bs [48, 49, 50, 48], bs [48, 49, 50, 49], bs [48, 49, 51, 48], bs [48, 50, 48, 48], bs [48, 50, 48, 49], bs [48, 50, 49, 48], bs [48, 50, 50, 48], bs [48, 50, 50, 49], bs [48, 50, 51, 48], bs [48, 52, 48, 48], bs [48, 52, 48, 49], bs [48, 52, 49, 48], bs [48, 52, 50, 48], bs [48, 52, 50, 49], bs [48, 52, 51, 48], bs [48, 53, 48, 48], bs [48, 53, 48, 49], bs [48, 53, 49, 48], bs [48, 53, 50, 48], bs [48, 53, 50, 49], bs [48, 53, 51, 48], bs [48, 54, 48, 48], bs [48, 54, 48, 49], bs [48, 54, 49, 48], bs [48, 56, 48, 48], bs [48, 56, 48, 49], bs [48, 56, 49, 48]]
def allM : List M := [(1, (false, (false, false))), (1, (false, (false, true))), (1, (false, (true, false))), (1, (true, (false, false))), (1, (true, (false, true))), (1, (true, (true, false))), (2, (false, (false, false))), (2, (false, (false, true))), (2, (false, (true, false))), (2, (true, (false, false))), (2, (true, (false, true))), (2, (true, (true, false))), (4, (false, (false, false))), (4, (false, (false, true))), (4, (false, (true, false))), (4, (true, (false, false))), (4, (true, (false, true))), (4, (true, (true, false))), (5, (false, (false, false))), (5, (false, (false, true))), (5, (false, (true, false))), (5, (true, (false, false))), (5, (true, (false, true))), (5, (true, (true, false))), (6, (false, (false, false))), (6, (false, (false, true))), (6, (false, (true, false))), (8, (false, (false, false))), (8, (false, (false, true))), (8, (false, (true, false)))]
def m0 : M := (0, (false, (false, false)))
def tAt (i : Nat) : ByteArray := allT.getD i (bs [])
def mAt (i : Nat) : M := allM.getD i m0
def firstI (p : Nat → Bool) : Option Nat := (List.range 30).find? p
theorem firstI_some {p : Nat → Bool} {i : Nat} (h : firstI p = some i) : i < 30 ∧ p i = true := by
  unfold firstI at h
  exact ⟨List.mem_range.1 (List.mem_of_find?_eq_some h), List.find?_some h⟩
theorem firstI_none {p : Nat → Bool} (h : firstI p = none) : ∀ i, i < 30 → p i = false := by
  unfold firstI at h
  intro i hi
  have := List.find?_eq_none.1 h i (List.mem_range.2 hi)
  simpa using this
theorem rounds_find {S R : Type} {t : S → Option (S ⊕ R)} (st : Nat → S) (p : Nat → Bool) (out : Nat → R) (fin : R) (h : ∀ i, i < 30 → p i = false → t (st i) = some (.inl (st (i + 1)))) (hp : ∀ i, i < 30 → p i = true → t (st i) = some (.inr (out i))) (hf : t (st 30) = some (.inr fin)) :
    rounds t (st 0) = some (match firstI p with | some i => out i | none => fin) := by
  have go : ∀ k, k ≤ 30 → rounds t (st 0) = match (List.range k).find? p with | some i => some (out i) | none => rounds t (st k) := by
    intro k
    induction k with
    | zero => intro _; rfl
    | succ k ih =>
      intro hk
      rw [ih (by omega), List.range_succ, List.find?_append]
      cases (List.range k).find? p with
      | some i => rfl
      | none =>
        cases hx : p k with
        | false => simp [hx, rounds_next (h k (by omega) hx)]
        | true => simp [hx, rounds_end (hp k (by omega) hx)]
  rw [go 30 (Nat.le_refl _), rounds_end hf]
  unfold firstI
  cases (List.range 30).find? p <;> rfl
theorem text_at : ∀ i, i < 30 → textM (mAt i) = tAt i := by decide +kernel
theorem may_at : ∀ i, i < 30 → mayM (mAt i) = true := by decide +kernel
theorem may_in (m : M) (h : mayM m = true) : ∃ i, i < 30 ∧ mAt i = m := by
  obtain ⟨c, a, b, d⟩ := m
  have hc : c = 1 ∨ c = 2 ∨ c = 4 ∨ c = 5 ∨ c = 6 ∨ c = 8 := by
    simp only [mayM, Bool.and_eq_true, Bool.or_eq_true, beq_iff_eq] at h
    omega
  rcases hc with rfl | rfl | rfl | rfl | rfl | rfl <;> cases a <;> cases b <;> cases d <;> first | (cases h; done) | decide +kernel
theorem ref_hit : ∀ i, i < 30 → bursarref18_Parse.t4 (tAt i, (allT, ((i : Int), m0))) = some (.inr (.inl (true, mAt i))) := by
  have h : ∀ i, i < 30 → (match bursarref18_Parse.t4 (tAt i, (allT, ((i : Int), m0))) with
    | some (.inr (.inl x)) => decide (x = (true, mAt i))
    | _ => false) = true := by decide +kernel
  intro i hi
  have h := h i hi
  split at h
  · rename_i x hx
    rw [hx, of_decide_eq_true h]
  · cases h
def whose (s : ByteArray) : Option Nat := firstI fun i => decide (tAt i = s)
theorem mtiRefParse_is (s : ByteArray) : bursarref18_Parse.f s = some (match whose s with | some i => (mAt i, true) | none => (m0, false)) := by
  have h := rounds_find (t := bursarref18_Parse.t4) (fun i => (s, (allT, ((i : Int), m0)))) (fun i => decide (tAt i = s)) (fun i => .inl (true, mAt i)) (.inr m0) (fun i hi hp => by
    have d1 : decide ((i : Int) < ((List.length allT : Nat) : Int)) = true := decide_eq_true (by show (i : Int) < 30; omega)
    have d2 : decide ((0 : Int) ≤ (i : Int)) = true := decide_eq_true (by omega)
    have w := wrap_up (n := i) (by omega)
    have e : (ByteArray.toList (List.getD allT i (bs [])) == ByteArray.toList s) = false := by rw [texts_eq]; exact hp
    simp only [bursarref18_Parse.t4, d1, d2, Int.toNat_natCast, e, w, Bool.and_self, cond_true, cond_false]) (fun i hi hp => by
    have e : tAt i = s := of_decide_eq_true hp
    subst e
    exact ref_hit i hi) (by rfl)
  unfold bursarref18_Parse.f bursarref18_Parse.l4
  refine (congrArg (fun x => Option.bind x _) h).trans ?_
  unfold whose
  cases firstI fun i => decide (tAt i = s) <;> rfl
def index (m : M) : Option Nat := firstI fun i => decide (mAt i = m)
def decM (s : ByteArray) : M := (IntKind.wrap .i64 (IntKind.wrap .u8 (bt s 1 - 48)), ((bitsOp .and .u8 (IntKind.wrap .u8 (bt s 2 - 48)) 2 != 0), ((bitsOp .and .u8 (IntKind.wrap .u8 (bt s 2 - 48)) 1 != 0), (bt s 3 == 49))))
theorem dec_at : ∀ i, i < 30 → (tAt i).size = 4 ∧ decM (tAt i) = mAt i := by decide +kernel
theorem mtiParse_is (s : ByteArray) : mti_Parse.f s = some (match whose s with | some i => (mAt i, 0) | none => (m0, 17)) := by
  have key : mti_Parse.f s = bif decide (s.size = 4) then (bif mayM (decM s) && decide (textM (decM s) = s) then some (decM s, 0) else some (m0, 17)) else some (m0, 17) := by
    unfold mti_Parse.f
    by_cases h4 : s.size = 4
    · have d0 : ((s.size : Int) != 4) = false := by simp; omega
      have d1 : decide ((1 : Int) < (s.size : Int)) = true := decide_eq_true (by omega)
      have d2 : decide ((2 : Int) < (s.size : Int)) = true := decide_eq_true (by omega)
      have d3 : decide ((3 : Int) < (s.size : Int)) = true := decide_eq_true (by omega)
      have em : mti_May.f (decM s) = some (mayM (decM s)) := May_is _
      have et : mti_text.f (decM s) = some (textM (decM s)) := text_M _
      unfold decM at em et
      simp only [d0, d1, d2, d3, em, et, decide_eq_true h4, texts_eq, Bool.and_self, cond_true, cond_false, Option.bind_some]
      unfold decM m0
      cases mayM _ with
      | false => rfl
      | true =>
        simp only [Bool.not_true, cond_false, Bool.true_and]
        cases decide (textM _ = s) <;> rfl
    · have d0 : ((s.size : Int) != 4) = true := by simp; omega
      rw [d0, decide_eq_false h4]; rfl
  rw [key]
  cases hx : whose s with
  | some i =>
    obtain ⟨hi, hp⟩ := firstI_some hx
    have e : tAt i = s := of_decide_eq_true hp
    subst e
    obtain ⟨h4, hd⟩ := dec_at i hi
    rw [decide_eq_true h4, hd, may_at i hi, text_at i hi, decide_eq_true rfl]; rfl
  | none =>
    have hn := firstI_none hx
    cases decide (s.size = 4) with
    | false => rfl
    | true =>
      cases hm : mayM (decM s) with
      | false => rfl
      | true =>
        obtain ⟨i, hi, e⟩ := may_in _ hm
        have ht := text_at i hi
        have h1 := hn i hi
        have : decide (textM (decM s) = s) = false := by
          rw [← e, ht]; exact h1
        rw [this]; rfl
end Go.Proofs.YtpoiijkodpnobaaGreatDoor
end
section
set_option linter.unusedVariables false
set_option maxRecDepth 100000
namespace Go.Proofs.YtpoiijkodpnobaaGreatDoor
open Go Go.Fw
abbrev iso_numbers.As : Shs := (.cons (.x (.l (.g (.p (.i .i64) .s)))) .nil)
abbrev iso_numbers.m : Back := [(false, (.l (.i .i64)))]
noncomputable abbrev iso_numbers.H : HK := hk P G0 E0 J0 [] noLoops 4
theorem iso_numbers.rows : TabOK P G0 (tabF []) := rows_ok (ws := []) trivial
theorem iso_numbers.hok : HKOK P iso_numbers.H := hk_ok e0_ok j0_ok iso_numbers.rows (fun g n => noLoops_ok g n) 4
noncomputable abbrev iso_numbers.sh4 : SSh := ⟨[(3, (.own 0 1)), (6, (.x (.l (.g (.p (.i .i64) .s))))), (7, (.x (.i .i64))), (8, (.x (.i .i64)))], [.arrN (.i .i64)]⟩
noncomputable abbrev iso_numbers.os4 : PEnds := [((.exit 0), ⟨[(3, (.x (.l (.i .i64))))], []⟩)]
noncomputable def iso_numbers.t4 (s : ((List (Int × ByteArray)) × (Int × (Int × (List Int))))) : Option (((List (Int × ByteArray)) × (Int × (Int × (List Int)))) ⊕ ((List Int))) := (bif (decide ((s.2.2.1 < s.2.1))) then (bif ((decide (((0 : Int) ≤ s.2.2.1))) && (decide ((s.2.2.1 < ((List.length s.1) : Int))))) then (bif ((true && (Nat.ble (((List.length s.2.2.2) + (List.length ((List.getD s.1 (Int.toNat s.2.2.1) (Ty.dflt T_api_Account)).1 :: []))) * 8) 140737488355328)) && (Nat.ble ((List.length s.2.2.2) + (List.length ((List.getD s.1 (Int.toNat s.2.2.1) (Ty.dflt T_api_Account)).1 :: []))) 140737488355328)) then (some (.inl (s.1, (s.2.1, ((IntKind.wrap .i64 (s.2.2.1 + (1 : Int))), (s.2.2.2 ++ ((List.getD s.1 (Int.toNat s.2.2.1) (Ty.dflt T_api_Account)).1 :: []))))))) else none) else none) else (some (.inr s.2.2.2)))
theorem iso_numbers.t4_ok : ∀ s : Vals iso_numbers.sh4.tys, turnK P iso_numbers.H (lp []) (bodyAt (codeOf P 138) 4) 0 iso_numbers.sh4 iso_numbers.os4 s some = iso_numbers.t4 s := by rintro ⟨s0, s1, s2, s3⟩; cases s3 <;> kernel_rfl
noncomputable def iso_numbers.l4 : ((List (Int × ByteArray)) × (Int × (Int × (List Int)))) → Option ((List Int)) := rounds iso_numbers.t4
noncomputable def iso_numbers.f (a : (List (Int × ByteArray))) : Option (List Int) := (((iso_numbers.l4 (a, (((List.length a) : Int), ((0 : Int), []))))).bind fun x1 => (some x1))
theorem iso_numbers.ok : ∀ a : Vals iso_numbers.As.tys, fnK P iso_numbers.H (lp [(4, (NodeT.summ ⟨iso_numbers.sh4, iso_numbers.os4, iso_numbers.l4⟩ 0))]) 138 iso_numbers.As iso_numbers.m a some = iso_numbers.f a := fun a => by kernel_rfl
noncomputable abbrev iso_numbers.row : Row := fnRow 138 iso_numbers.As iso_numbers.m iso_numbers.f
theorem iso_numbers.row_ok : RowOK P G0 iso_numbers.row := row_told iso_numbers.hok (lp_of (l := [(4, (NodeT.summ ⟨iso_numbers.sh4, iso_numbers.os4, iso_numbers.l4⟩ 0))]) ⟨(loop_sum iso_numbers.hok (by kernel_rfl) (by kernel_rfl) (l := []) trivial iso_numbers.sh4 iso_numbers.os4 (by kernel_rfl) iso_numbers.t4 iso_numbers.t4_ok), trivial⟩) (fun _ => rfl) iso_numbers.ok
abbrev iso_pack.As : Shs := (.cons (.x T_api_Message) .nil)
abbrev iso_pack.m : Back := [(false, .s), (false, (.i .i64))]
noncomputable abbrev iso_pack.H : HK := hk P G1 E0 J0 [mti_Parse.row, bitmap_Map.row, iso_numbers.row, spec_Pack.row] noLoops 4
theorem iso_pack.rows : TabOK P G1 (tabF [mti_Parse.row, bitmap_Map.row, iso_numbers.row, spec_Pack.row]) := rows_ok (ws := [mti_Parse.row, bitmap_Map.row, iso_numbers.row, spec_Pack.row]) ⟨(mti_Parse.row_ok.more g01), ⟨bitmap_Map.row_ok, ⟨(iso_numbers.row_ok.more g01), ⟨spec_Pack.row_ok, trivial⟩⟩⟩⟩
theorem iso_pack.hok : HKOK P iso_pack.H := hk_ok e0_ok j0_ok iso_pack.rows (fun g n => noLoops_ok g n) 4
noncomputable abbrev iso_pack.sh12 : SSh := ⟨[(8, (.x .s)), (36, (.x (.l (.g (.p (.i .i64) .s))))), (37, (.x (.i .i64))), (38, (.x (.i .i64)))], []⟩
noncomputable abbrev iso_pack.os12 : PEnds := [(.ret, ⟨[(2, (.x .s)), (3, (.x (.i .i64)))], []⟩), ((.exit 0), ⟨[(8, (.x .s))], []⟩)]
noncomputable def iso_pack.t12 (s : (ByteArray × ((List (Int × ByteArray)) × (Int × Int)))) : Option ((ByteArray × ((List (Int × ByteArray)) × (Int × Int))) ⊕ ((ByteArray × Int) ⊕ ByteArray)) := (bif (decide ((s.2.2.2 < s.2.2.1))) then (bif ((decide (((0 : Int) ≤ s.2.2.2))) && (decide ((s.2.2.2 < ((List.length s.2.1) : Int))))) then (((spec_Pack.f (List.getD s.2.1 (Int.toNat s.2.2.2) (Ty.dflt T_api_Account)))).bind fun x4 => (bif (x4.2 != (0 : Int)) then (some (.inr (.inl ((bs []), (16 : Int))))) else (bif (Nat.ble (s.1.size + x4.1.size) 9223372036854775807) then (some (.inl ((s.1 ++ x4.1), (s.2.1, (s.2.2.1, (IntKind.wrap .i64 (s.2.2.2 + (1 : Int)))))))) else none))) else none) else (some (.inr (.inr s.1))))
theorem iso_pack.t12_ok : ∀ s : Vals iso_pack.sh12.tys, turnK P iso_pack.H (lp []) (bodyAt (codeOf P 105) 12) 0 iso_pack.sh12 iso_pack.os12 s some = iso_pack.t12 s := fun s => by kernel_rfl
noncomputable def iso_pack.l12 : (ByteArray × ((List (Int × ByteArray)) × (Int × Int))) → Option ((ByteArray × Int) ⊕ ByteArray) := rounds iso_pack.t12
noncomputable def iso_pack.f (a : (ByteArray × (List (Int × ByteArray)))) : Option (ByteArray × Int) := (((mti_Parse.f a.1)).bind fun x1 => (bif (x1.2 != (0 : Int)) then (some ((bs []), x1.2)) else (((iso_numbers.f a.2)).bind fun x2 => (((bitmap_Map.f x2)).bind fun x3 => (bif (x3.2 != (0 : Int)) then (some ((bs []), (16 : Int))) else (bif (Nat.ble (a.1.size + x3.1.size) 9223372036854775807) then (((iso_pack.l12 ((a.1 ++ x3.1), (a.2, (((List.length a.2) : Int), (0 : Int)))))).bind fun x4 => (match x4 with | .inl x5 => (some x5) | .inr x5 => (some (x5, (0 : Int))))) else none))))))
theorem iso_pack.ok : ∀ a : Vals iso_pack.As.tys, fnK P iso_pack.H (lp [(12, (NodeT.summ ⟨iso_pack.sh12, iso_pack.os12, iso_pack.l12⟩ 0))]) 105 iso_pack.As iso_pack.m a some = iso_pack.f a := fun a => by kernel_rfl
noncomputable abbrev iso_pack.row : Row := fnRow 105 iso_pack.As iso_pack.m iso_pack.f
theorem iso_pack.row_ok : RowOK P G1 iso_pack.row := row_told iso_pack.hok (lp_of (l := [(12, (NodeT.summ ⟨iso_pack.sh12, iso_pack.os12, iso_pack.l12⟩ 0))]) ⟨(loop_sum iso_pack.hok (by kernel_rfl) (by kernel_rfl) (l := []) trivial iso_pack.sh12 iso_pack.os12 (by kernel_rfl) iso_pack.t12 iso_pack.t12_ok), trivial⟩) (fun _ => rfl) iso_pack.ok
abbrev iso_Pack.As : Shs := (.cons (.x T_api_Message) .nil)
abbrev iso_Pack.m : Back := [(false, .s), (false, (.i .i64))]
noncomputable abbrev iso_Pack.H : HK := hk P G1 E0 J0 [iso_pack.row] noLoops 4
theorem iso_Pack.rows : TabOK P G1 (tabF [iso_pack.row]) := rows_ok (ws := [iso_pack.row]) ⟨iso_pack.row_ok, trivial⟩
theorem iso_Pack.hok : HKOK P iso_Pack.H := hk_ok e0_ok j0_ok iso_Pack.rows (fun g n => noLoops_ok g n) 4
noncomputable def iso_Pack.f (a : (ByteArray × (List (Int × ByteArray)))) : Option (ByteArray × Int) := (((iso_pack.f a)).bind fun x1 => (bif (x1.2 == (0 : Int)) then (bif (decide (((x1.1.size : Int) > (4000 : Int)))) then (some ((bs []), (9 : Int))) else (some x1)) else (some x1)))
theorem iso_Pack.ok : ∀ a : Vals iso_Pack.As.tys, fnK P iso_Pack.H (lp []) 62 iso_Pack.As iso_Pack.m a some = iso_Pack.f a := fun a => by kernel_rfl
noncomputable abbrev iso_Pack.row : Row := fnRow 62 iso_Pack.As iso_Pack.m iso_Pack.f
theorem iso_Pack.row_ok : RowOK P G1 iso_Pack.row := row_told iso_Pack.hok (lp_of (l := []) trivial) (fun _ => rfl) iso_Pack.ok
abbrev bursarlaw19_Few.As : Shs := (.cons (.x T_api_Message) .nil)
abbrev bursarlaw19_Few.m : Back := [(false, T_api_Message)]
noncomputable abbrev bursarlaw19_Few.H : HK := hk P G0 E0 J0 [] noLoops 4
theorem bursarlaw19_Few.rows : TabOK P G0 (tabF []) := rows_ok (ws := []) trivial
theorem bursarlaw19_Few.hok : HKOK P bursarlaw19_Few.H := hk_ok e0_ok j0_ok bursarlaw19_Few.rows (fun g n => noLoops_ok g n) 4
noncomputable abbrev bursarlaw19_Few.sh10 : SSh := ⟨[(1, (.pt 0 0)), (2, (.pt 1 0)), (3, (.own 2 2)), (4, (.x (.i .i64)))], [.box (.cons (.x .s) (.cons (.x (.l (.g (.p (.i .i64) .s)))) .nil)), .box (.cons (.x .s) (.cons (.own 3 2) .nil)), .arrN T_api_Account, .arrN T_api_Account]⟩
noncomputable abbrev bursarlaw19_Few.os10 : PEnds := [((.exit 0), ⟨[(1, (.pt 0 0)), (2, (.pt 1 0)), (3, (.x (.l (.g (.p (.i .i64) .s)))))], [.box (.cons (.x .s) (.cons (.x (.l (.g (.p (.i .i64) .s)))) .nil)), .box (.cons (.x .s) (.cons (.own 2 2) .nil)), .arrN T_api_Account]⟩)]
noncomputable def bursarlaw19_Few.t10 (s : (Int × (ByteArray × ((List (Int × ByteArray)) × (ByteArray × ((List (Int × ByteArray)) × (List (Int × ByteArray)))))))) : Option ((Int × (ByteArray × ((List (Int × ByteArray)) × (ByteArray × ((List (Int × ByteArray)) × (List (Int × ByteArray))))))) ⊕ (((List (Int × ByteArray)) × (ByteArray × ((List (Int × ByteArray)) × (ByteArray × (List (Int × ByteArray)))))))) := (bif (decide ((s.1 < ((List.length s.2.2.1) : Int)))) then (bif ((decide (((0 : Int) ≤ s.1))) && (decide ((s.1 < ((List.length s.2.2.1) : Int))))) then (bif (decide ((((List.getD s.2.2.1 (Int.toNat s.1) (Ty.dflt T_api_Account)).2.size : Int) > (1001 : Int)))) then (bif (true && (decide (((1001 : Int) ≤ ((List.getD s.2.2.1 (Int.toNat s.1) (Ty.dflt T_api_Account)).2.size : Int))))) then (bif ((true && (Nat.ble (((List.length s.2.2.2.2.1) + (List.length (((List.getD s.2.2.1 (Int.toNat s.1) (Ty.dflt T_api_Account)).1, (ByteArray.extract (List.getD s.2.2.1 (Int.toNat s.1) (Ty.dflt T_api_Account)).2 0 1001)) :: []))) * 24) 140737488355328)) && (Nat.ble ((List.length s.2.2.2.2.1) + (List.length (((List.getD s.2.2.1 (Int.toNat s.1) (Ty.dflt T_api_Account)).1, (ByteArray.extract (List.getD s.2.2.1 (Int.toNat s.1) (Ty.dflt T_api_Account)).2 0 1001)) :: []))) 140737488355328)) then (some (.inl ((IntKind.wrap .i64 (s.1 + (1 : Int))), (s.2.1, (s.2.2.1, (s.2.2.2.1, ((s.2.2.2.2.1 ++ (((List.getD s.2.2.1 (Int.toNat s.1) (Ty.dflt T_api_Account)).1, (ByteArray.extract (List.getD s.2.2.1 (Int.toNat s.1) (Ty.dflt T_api_Account)).2 0 1001)) :: [])), s.2.2.2.2.2))))))) else none) else none) else (bif ((true && (Nat.ble (((List.length s.2.2.2.2.1) + (List.length ((List.getD s.2.2.1 (Int.toNat s.1) (Ty.dflt T_api_Account)) :: []))) * 24) 140737488355328)) && (Nat.ble ((List.length s.2.2.2.2.1) + (List.length ((List.getD s.2.2.1 (Int.toNat s.1) (Ty.dflt T_api_Account)) :: []))) 140737488355328)) then (some (.inl ((IntKind.wrap .i64 (s.1 + (1 : Int))), (s.2.1, (s.2.2.1, (s.2.2.2.1, ((s.2.2.2.2.1 ++ ((List.getD s.2.2.1 (Int.toNat s.1) (Ty.dflt T_api_Account)) :: [])), s.2.2.2.2.2))))))) else none)) else none) else (some (.inr (s.2.2.2.2.1, (s.2.1, (s.2.2.1, (s.2.2.2.1, s.2.2.2.2.2)))))))
theorem bursarlaw19_Few.t10_ok : ∀ s : Vals bursarlaw19_Few.sh10.tys, turnK P bursarlaw19_Few.H (lp []) (bodyAt (codeOf P 7) 10) 0 bursarlaw19_Few.sh10 bursarlaw19_Few.os10 s some = bursarlaw19_Few.t10 s := by rintro ⟨s0, s1, s2, s3, s4, s5⟩; cases s4 <;> cases s5 <;> kernel_rfl
noncomputable def bursarlaw19_Few.l10 : (Int × (ByteArray × ((List (Int × ByteArray)) × (ByteArray × ((List (Int × ByteArray)) × (List (Int × ByteArray))))))) → Option (((List (Int × ByteArray)) × (ByteArray × ((List (Int × ByteArray)) × (ByteArray × (List (Int × ByteArray))))))) := rounds bursarlaw19_Few.t10
noncomputable def bursarlaw19_Few.f (a : (ByteArray × (List (Int × ByteArray)))) : Option (ByteArray × (List (Int × ByteArray))) := (bif (decide ((((List.length a.2) : Int) > (130 : Int)))) then (bif (true && (decide (((130 : Int) ≤ ((List.length a.2) : Int))))) then (bif (decide (((a.1.size : Int) > (8 : Int)))) then (bif (true && (decide (((8 : Int) ≤ (a.1.size : Int))))) then (((bursarlaw19_Few.l10 ((0 : Int), ((ByteArray.extract a.1 0 8), ((List.take 130 (List.drop 0 a.2)), ((bs []), ([], []))))))).bind fun x1 => (match x1.2.2.2.2 with | [] => (some (x1.2.1, x1.1)) | x2 :: x3 => (some (x1.2.1, x1.1)))) else none) else (((bursarlaw19_Few.l10 ((0 : Int), (a.1, ((List.take 130 (List.drop 0 a.2)), ((bs []), ([], []))))))).bind fun x1 => (match x1.2.2.2.2 with | [] => (some (x1.2.1, x1.1)) | x2 :: x3 => (some (x1.2.1, x1.1))))) else none) else (bif (decide (((a.1.size : Int) > (8 : Int)))) then (bif (true && (decide (((8 : Int) ≤ (a.1.size : Int))))) then (((bursarlaw19_Few.l10 ((0 : Int), ((ByteArray.extract a.1 0 8), (a.2, ((bs []), ([], []))))))).bind fun x1 => (match x1.2.2.2.2 with | [] => (some (x1.2.1, x1.1)) | x2 :: x3 => (some (x1.2.1, x1.1)))) else none) else (((bursarlaw19_Few.l10 ((0 : Int), (a.1, (a.2, ((bs []), ([], []))))))).bind fun x1 => (match x1.2.2.2.2 with | [] => (some (x1.2.1, x1.1)) | x2 :: x3 => (some (x1.2.1, x1.1))))))
theorem bursarlaw19_Few.ok : ∀ a : Vals bursarlaw19_Few.As.tys, fnK P bursarlaw19_Few.H (lp [(10, (NodeT.summ ⟨bursarlaw19_Few.sh10, bursarlaw19_Few.os10, bursarlaw19_Few.l10⟩ 0))]) 7 bursarlaw19_Few.As bursarlaw19_Few.m a some = bursarlaw19_Few.f a := fun a => by kernel_rfl
noncomputable abbrev bursarlaw19_Few.row : Row := fnRow 7 bursarlaw19_Few.As bursarlaw19_Few.m bursarlaw19_Few.f
theorem bursarlaw19_Few.row_ok : RowOK P G0 bursarlaw19_Few.row := row_told bursarlaw19_Few.hok (lp_of (l := [(10, (NodeT.summ ⟨bursarlaw19_Few.sh10, bursarlaw19_Few.os10, bursarlaw19_Few.l10⟩ 0))]) ⟨(loop_sum bursarlaw19_Few.hok (by kernel_rfl) (by kernel_rfl) (l := []) trivial bursarlaw19_Few.sh10 bursarlaw19_Few.os10 (by kernel_rfl) bursarlaw19_Few.t10 bursarlaw19_Few.t10_ok), trivial⟩) (fun _ => rfl) bursarlaw19_Few.ok
end Go.Proofs.YtpoiijkodpnobaaGreatDoor
end
section
set_option linter.unusedVariables false
set_option linter.unusedSimpArgs false
namespace Go.Proofs.YtpoiijkodpnobaaGreatDoor
open Go Go.Fw
abbrev Fld := Int × ByteArray
abbrev Msg := ByteArray × List Fld
theorem dflt_fld : (Ty.dflt (.g (.p (.i .i64) .s)) : Int × ByteArray) = (0, bs []) := rfl
noncomputable def pkE (f : Fld) : ByteArray × Int := (spec_Pack.f f).getD (bs [], 1)
noncomputable def pkL (f : Fld) : List UInt8 := (pkE f).1.data.toList
theorem pkE0_is {f : Fld} (hs : f.2.size ≤ 5000) : spec_Pack.f f = some (pkE f) ∧ (pkL f).length ≤ 1002 ∧ pkE f = (bs (pkL f), (pkE f).2) := by
  obtain ⟨n, s0⟩ := f
  obtain ⟨s, rfl⟩ : ∃ s : List UInt8, s0 = bs s := ⟨_, eq_bs s0⟩
  have hs : s.length ≤ 5000 := by simpa [bs_size] using hs
  obtain ⟨k, v, l, hR, hO, hk⟩ := of_is n
  have hp := pack_is hO hk hs
  have he : pkE (n, bs s) = (bif decide (k = 0) then (bs [], 7) else bif mayF k v l s then (bs (digs v s.length ++ s), 0) else (bs [], 16)) := by unfold pkE; rw [hp]; rfl
  refine ⟨by rw [he, hp], ?_⟩
  unfold pkL
  rw [he]
  by_cases h0 : k = 0
  · rw [decide_eq_true h0]
    exact ⟨by simp [bs_size], rfl⟩
  · rw [decide_eq_false h0]
    simp only [cond_false]
    cases hm : mayF k v l s
    · exact ⟨by simp [bs_size], rfl⟩
    · obtain ⟨h1, h2, h3, h4, h5, h6, h7, h8⟩ := mayF_len hk hm
      have hl := digs_len h3 s.length
      have e : (bs (digs v s.length ++ s)).data.toList = digs v s.length ++ s := bs_list _
      refine ⟨by simp only [cond_true, e, List.length_append]; omega, by simp only [cond_true, e]⟩
theorem refPkE_is {f : Fld} (hs : f.2.size ≤ 5000) : bursarref16_Pack.f f = some (pkE f) := by
  obtain ⟨n, s0⟩ := f
  obtain ⟨s, rfl⟩ : ∃ s : List UInt8, s0 = bs s := ⟨_, eq_bs s0⟩
  have hs : s.length ≤ 5000 := by simpa [bs_size] using hs
  obtain ⟨k, v, l, hR, hO, hk⟩ := of_is n
  rw [refPack_is hR hk hs]
  unfold pkE
  rw [pack_is hO hk hs]
  rfl
noncomputable def okP (l : List Fld) : Bool := (List.range l.length).all fun i => (pkE (l.getD i (0, bs []))).2 == 0
noncomputable def bodyM (l : List Fld) : List UInt8 := (l.map pkL).flatten
theorem bodyM_up (l : List Fld) {i : Nat} (h : i < l.length) : bodyM (l.take (i + 1)) = bodyM (l.take i) ++ pkL (l.getD i (0, bs [])) := by
  unfold bodyM
  rw [take_up (0, bs []) h, List.map_append, List.flatten_append]
  simp
def goodM (m : Msg) : Prop := m.2.length ≤ 130 ∧ ∀ f ∈ m.2, f.2.size ≤ 1001
theorem goodM.at {m : Msg} (h : goodM m) {i : Nat} (hi : i < m.2.length) : (m.2.getD i (0, bs [])).2.size ≤ 5000 := by
  have := h.2 (m.2.getD i (0, bs [])) (by rw [getD_at hi]; exact List.getElem_mem hi)
  omega
theorem bodyM_len {l : List Fld} (h : ∀ f ∈ l, f.2.size ≤ 1001) : (bodyM l).length ≤ 1002 * l.length := by
  unfold bodyM
  induction l with
  | nil => simp
  | cons f l ih =>
    have := (pkE0_is (f := f) (by have := h f List.mem_cons_self; omega)).2.1
    have := ih fun x hx => h x (List.mem_cons_of_mem _ hx)
    simp only [List.map_cons, List.flatten_cons, List.length_append, List.length_cons]
    omega
theorem numbers_is {l : List Fld} (hl : l.length ≤ 1000) : iso_numbers.f l = some (l.map (·.1)) := by
  have h := rounds_map (t := iso_numbers.t4) l (0, bs []) (fun f : Fld => f.1) (fun acc i => (l, (l.length : Int), ((i : Nat) : Int), acc)) (fun acc => acc) (fun i hi => by
    have hm : ((l.take i).map (fun f : Fld => f.1)).length ≤ 1000 := by simp; omega
    simp only [iso_numbers.t4, inb hi, cond_true, ge0' i, Bool.and_self, Int.toNat_natCast, wrap_up (show i < 9223372036854775807 by omega), List.length_cons, List.length_nil]
    rw [Nat.ble_eq_true_of_le (by omega), Nat.ble_eq_true_of_le (by omega)]
    rfl) (fun _ _ => by simp only [iso_numbers.t4, outb, cond_false])
  have h0 : iso_numbers.l4 (l, (l.length : Int), 0, []) = some (l.map (·.1)) := h
  unfold iso_numbers.f
  rw [h0]
  rfl
theorem whose_len {s : ByteArray} {i : Nat} (h : whose s = some i) : s.size = 4 := by
  obtain ⟨h1, h2⟩ := firstI_some h
  rw [← of_decide_eq_true h2]
  exact (dec_at i h1).1
def headM (l : List Fld) : List UInt8 := octs8 (mapL (l.map (·.1)))
theorem headM_len (l : List Fld) : (headM l).length = bif wide (l.map (·.1)) then 16 else 8 := octs_size
noncomputable def packF (m : Msg) : ByteArray × Int := match whose m.1 with
  | none => (bs [], 17)
  | some _ => bif mayL (m.2.map (·.1)) && okP m.2 then (bif decide (4000 < 4 + (headM m.2).length + (bodyM m.2).length) then (bs [], 9) else (bs (m.1.data.toList ++ headM m.2 ++ bodyM m.2), 0)) else (bs [], 16)
theorem pack_rounds {m : Msg} (hg : goodM m) {h : List UInt8} (hh : h.length ≤ 100) : iso_pack.l12 (bs h, m.2, (m.2.length : Int), 0) = some (bif okP m.2 then .inr (bs (h ++ bodyM m.2)) else .inl (bs [], 16)) := by
  obtain ⟨mt, l⟩ := m
  have hl : l.length ≤ 130 := hg.1
  have hf := rounds_first (t := iso_pack.t12) (fun i => (bs (h ++ bodyM (l.take i)), l, (l.length : Int), ((i : Nat) : Int))) (fun i => bif (pkE (l.getD i (0, bs []))).2 == 0 then none else some (.inl (bs [], (16 : Int)))) (.inr (bs (h ++ bodyM l))) l.length (fun i hi _ => by
    obtain ⟨p1, p2, p4⟩ := pkE0_is (f := l.getD i (0, bs [])) (hg.at hi)
    have hb : (bodyM (l.take i)).length ≤ 1002 * (l.take i).length := bodyM_len fun f hf => hg.2 f (List.mem_of_mem_take hf)
    have hb' : (l.take i).length ≤ 130 := by simp; omega
    have hbt : (h ++ bodyM (l.take i)).length ≤ 131000 := by simp only [List.length_append]; omega
    simp only [iso_pack.t12, inb hi, cond_true, ge0' i, Bool.and_self, Int.toNat_natCast, dflt_fld, p1, Option.bind_some, bne]
    rw [bodyM_up l hi, p4]
    cases (pkE (l.getD i (0, bs []))).2 == 0
    · rfl
    · simp only [Bool.not_true, cond_false, cond_true, bs_append, bs_size, wrap_up (show i < 9223372036854775807 by omega)]
      rw [Nat.ble_eq_true_of_le (by omega), List.append_assoc]
      rfl) (fun _ => by simp only [iso_pack.t12, outb, cond_false, List.take_length])
  have hf' : iso_pack.l12 (bs (h ++ bodyM (l.take 0)), l, (l.length : Int), 0) = _ := hf
  have e0 : h ++ bodyM (l.take 0) = h := by unfold bodyM; simp
  rw [e0] at hf'
  show iso_pack.l12 (bs h, l, (l.length : Int), 0) = _
  rw [hf']
  unfold okP
  rcases find_not (n := l.length) (p := fun i => (pkE (l.getD i (0, bs []))).2 == 0) (g := fun i => Sum.inl (β := ByteArray) (bs [], (16 : Int))) with ⟨i, _, h1, h2⟩ | ⟨h1, h2⟩ <;> rw [h1, h2] <;> rfl
theorem isoPack_is {m : Msg} (hg : goodM m) : iso_Pack.f m = some (packF m) := by
  have hl := hg.1
  unfold iso_Pack.f iso_pack.f packF
  rw [mtiParse_is]
  cases hw : whose m.1 with
  | none => rfl
  | some i =>
    have h4 : m.1.data.toList.length = 4 := by have := whose_len hw; simpa using this
    have hn : (m.2.map (fun f : Fld => f.1)).length ≤ 1000 := by simp; omega
    have hh := headM_len m.2
    have hh' : (headM m.2).length ≤ 16 := by rw [hh]; cases wide (m.2.map (·.1)) <;> simp
    simp only [Option.bind_some, bne_self_eq_false, cond_false, numbers_is (show m.2.length ≤ 1000 by omega), map_is hn]
    cases mayL (m.2.map (·.1))
    · rfl
    · have ha : m.1 ++ bs (octs8 (mapL (m.2.map (·.1)))) = bs (m.1.data.toList ++ headM m.2) := by
        conv => lhs; lhs; rw [eq_bs m.1]
        rw [bs_append]; rfl
      simp only [cond_true, bne_self_eq_false, cond_false, ha]
      rw [Nat.ble_eq_true_of_le (by rw [bs_size]; have := whose_len hw; unfold headM at hh'; omega), cond_true, pack_rounds hg (by simp only [List.length_append]; omega)]
      cases okP m.2
      · rfl
      · simp only [cond_true, Option.bind_some, bs_size, Bool.and_self, BEq.rfl]
        by_cases c : 4000 < 4 + (headM m.2).length + (bodyM m.2).length
        · rw [decide_eq_true c, decide_eq_true (by simp only [List.length_append]; omega)]; rfl
        · rw [decide_eq_false c, decide_eq_false (by simp only [List.length_append]; omega)]; rfl
theorem packF_zero {m : Msg} (h : (packF m).2 = 0) : ∃ i, whose m.1 = some i ∧ mayL (m.2.map (·.1)) = true ∧ okP m.2 = true ∧ 4 + (headM m.2).length + (bodyM m.2).length ≤ 4000 ∧ (packF m).1 = bs (m.1.data.toList ++ headM m.2 ++ bodyM m.2) := by
  unfold packF at h ⊢
  cases hw : whose m.1 with
  | none => rw [hw] at h; cases h
  | some i =>
    rw [hw] at h
    simp only at h ⊢
    cases h1 : mayL (m.2.map (·.1))
    · rw [h1] at h; cases h
    · cases h2 : okP m.2
      · rw [h1, h2] at h; cases h
      · rw [h1, h2] at h
        simp only [Bool.and_self, cond_true] at h ⊢
        by_cases c : 4000 < 4 + (headM m.2).length + (bodyM m.2).length
        · rw [decide_eq_true c] at h; cases h
        · rw [decide_eq_false c]
          simp only [cond_false, and_true, true_and]
          exact ⟨i, rfl, by omega⟩
def cutV (f : Fld) : Fld := bif decide ((f.2.size : Int) > 1001) then (f.1, f.2.extract 0 1001) else f
theorem cutV_size (f : Fld) : (cutV f).2.size ≤ 1001 := by
  unfold cutV
  by_cases c : (f.2.size : Int) > 1001
  · rw [decide_eq_true c, cond_true, ByteArray.size_extract]; omega
  · rw [decide_eq_false c, cond_false]; omega
theorem few19_rounds {l : List Fld} (hl : l.length ≤ 130) (t : ByteArray) (z : ByteArray × List Fld × List Fld) (hz : z = (bs [], [], [])) :
    bursarlaw19_Few.l10 (0, t, l, z) = some (l.map cutV, t, l, bs [], []) := by
  subst hz
  have h := rounds_map (t := bursarlaw19_Few.t10) l (0, bs []) cutV (fun acc i => (((i : Nat) : Int), t, l, bs [], acc, ([] : List Fld))) (fun acc => (acc, t, l, bs [], ([] : List Fld))) (fun i hi => by
    have hm : ((l.take i).map cutV).length ≤ 1000 := by simp; omega
    unfold bursarlaw19_Few.t10
    rw [dflt_fld]
    simp only [inb hi, cond_true, ge0' i, Bool.and_self, Int.toNat_natCast, wrap_up (show i < 9223372036854775807 by omega), List.length_cons, List.length_nil]
    rw [Nat.ble_eq_true_of_le (by omega), Nat.ble_eq_true_of_le (by omega)]
    unfold cutV
    by_cases c : ((l.getD i (0, bs [])).2.size : Int) > 1001
    · rw [decide_eq_true c, decide_eq_true (show (1001 : Int) ≤ ((l.getD i (0, bs [])).2.size : Int) by omega)]
      rfl
    · rw [decide_eq_false c]
      rfl) (fun _ _ => by simp only [bursarlaw19_Few.t10, outb, cond_false])
  exact h
theorem few19_is (m : Msg) : ∃ x, bursarlaw19_Few.f m = some x ∧ goodM x := by
  obtain ⟨t, l⟩ := m
  have good : ∀ (t : ByteArray) (l : List Fld), l.length ≤ 130 → goodM (t, l.map cutV) := fun t l h => ⟨by simpa using h, fun f hf => by
    obtain ⟨g, _, rfl⟩ := List.mem_map.1 hf
    exact cutV_size g⟩
  have hc : (List.take 130 (List.drop 0 l)).length ≤ 130 := by simp; omega
  unfold bursarlaw19_Few.f
  by_cases c1 : (l.length : Int) > 130
  · by_cases c2 : (t.size : Int) > 8
    · simp only [decide_eq_true c1, decide_eq_true (show (130 : Int) ≤ (l.length : Int) by omega), decide_eq_true c2, decide_eq_true (show (8 : Int) ≤ (t.size : Int) by omega), Bool.and_self, cond_true, few19_rounds hc _ _ rfl, Option.bind_some]
      exact ⟨_, rfl, good _ _ hc⟩
    · simp only [decide_eq_true c1, decide_eq_true (show (130 : Int) ≤ (l.length : Int) by omega), decide_eq_false c2, Bool.and_self, cond_true, cond_false, few19_rounds hc _ _ rfl, Option.bind_some]
      exact ⟨_, rfl, good _ _ hc⟩
  · by_cases c2 : (t.size : Int) > 8
    · simp only [decide_eq_false c1, decide_eq_true c2, decide_eq_true (show (8 : Int) ≤ (t.size : Int) by omega), Bool.and_self, cond_true, cond_false, few19_rounds (show l.length ≤ 130 by omega) _ _ rfl, Option.bind_some]
      exact ⟨_, rfl, good _ _ (by omega)⟩
    · simp only [decide_eq_false c1, decide_eq_false c2, Bool.and_self, cond_true, cond_false, few19_rounds (show l.length ≤ 130 by omega) _ _ rfl, Option.bind_some]
      exact ⟨_, rfl, good _ _ (by omega)⟩
end Go.Proofs.YtpoiijkodpnobaaGreatDoor
end
section
set_option linter.unusedVariables false
set_option maxRecDepth 100000
namespace Go.Proofs.YtpoiijkodpnobaaGreatDoor
open Go Go.Fw
abbrev iso_Check.As : Shs := (.cons (.x T_api_Message) .nil)
abbrev iso_Check.m : Back := [(false, (.i .i64))]
noncomputable abbrev iso_Check.H : HK := hk P G1 E0 J0 [iso_Pack.row] noLoops 4
theorem iso_Check.rows : TabOK P G1 (tabF [iso_Pack.row]) := rows_ok (ws := [iso_Pack.row]) ⟨iso_Pack.row_ok, trivial⟩
theorem iso_Check.hok : HKOK P iso_Check.H := hk_ok e0_ok j0_ok iso_Check.rows (fun g n => noLoops_ok g n) 4
noncomputable def iso_Check.f (a : (ByteArray × (List (Int × ByteArray)))) : Option Int := (((iso_Pack.f a)).bind fun x1 => (some x1.2))
theorem iso_Check.ok : ∀ a : Vals iso_Check.As.tys, fnK P iso_Check.H (lp []) 27 iso_Check.As iso_Check.m a some = iso_Check.f a := fun a => by kernel_rfl
noncomputable abbrev iso_Check.row : Row := fnRow 27 iso_Check.As iso_Check.m iso_Check.f
theorem iso_Check.row_ok : RowOK P G1 iso_Check.row := row_told iso_Check.hok (lp_of (l := []) trivial) (fun _ => rfl) iso_Check.ok
noncomputable def bursarref19_Pack.t9 (s : (ByteArray × (Int × (ByteArray × ((List (Int × ByteArray)) × (List Int)))))) : Option ((ByteArray × (Int × (ByteArray × ((List (Int × ByteArray)) × (List Int))))) ⊕ ((ByteArray × Int) ⊕ ((List Int) × (ByteArray × (ByteArray × (List (Int × ByteArray))))))) := (bif (decide ((s.2.1 < ((List.length s.2.2.2.1) : Int)))) then (bif ((decide (((0 : Int) ≤ s.2.1))) && (decide ((s.2.1 < ((List.length s.2.2.2.1) : Int))))) then (bif ((decide (((0 : Int) ≤ s.2.1))) && (decide ((s.2.1 < ((List.length s.2.2.2.1) : Int))))) then (((bursarref16_Pack.f (List.getD s.2.2.2.1 (Int.toNat s.2.1) (Ty.dflt T_api_Account)))).bind fun x6 => (bif (x6.2 != (0 : Int)) then (some (.inr (.inl ((bs []), (16 : Int))))) else (bif ((decide (((0 : Int) ≤ s.2.1))) && (decide ((s.2.1 < ((List.length s.2.2.2.1) : Int))))) then (bif ((true && (Nat.ble (((List.length s.2.2.2.2) + (List.length ((List.getD s.2.2.2.1 (Int.toNat s.2.1) (Ty.dflt T_api_Account)).1 :: []))) * 8) 140737488355328)) && (Nat.ble ((List.length s.2.2.2.2) + (List.length ((List.getD s.2.2.2.1 (Int.toNat s.2.1) (Ty.dflt T_api_Account)).1 :: []))) 140737488355328)) then (bif (Nat.ble (s.1.size + x6.1.size) 9223372036854775807) then (some (.inl ((s.1 ++ x6.1), ((IntKind.wrap .i64 (s.2.1 + (1 : Int))), (s.2.2.1, (s.2.2.2.1, (s.2.2.2.2 ++ ((List.getD s.2.2.2.1 (Int.toNat s.2.1) (Ty.dflt T_api_Account)).1 :: [])))))))) else none) else none) else none))) else none) else none) else (some (.inr (.inr (s.2.2.2.2, (s.1, (s.2.2.1, s.2.2.2.1)))))))
noncomputable def bursarref19_Pack.l9 : (ByteArray × (Int × (ByteArray × ((List (Int × ByteArray)) × (List Int))))) → Option ((ByteArray × Int) ⊕ ((List Int) × (ByteArray × (ByteArray × (List (Int × ByteArray)))))) := rounds bursarref19_Pack.t9
noncomputable def bursarref19_Pack.f (a : (ByteArray × (List (Int × ByteArray)))) : Option (ByteArray × Int) := (((bursarref18_Parse.f a.1)).bind fun x1 => (bif (!x1.2) then (some ((bs []), (17 : Int))) else (((bursarref19_Pack.l9 ((bs []), ((0 : Int), (a.1, (a.2, [])))))).bind fun x2 => (match x2 with | .inl x3 => (some x3) | .inr x3 => (((bursarref17_May.f x3.1)).bind fun x4 => (bif (!x4) then (some ((bs []), (16 : Int))) else (((bursarref17_Map.f x3.1)).bind fun x5 => (bif (Nat.ble (x3.2.2.1.size + x5.size) 9223372036854775807) then (bif (Nat.ble ((x3.2.2.1 ++ x5).size + x3.2.1.size) 9223372036854775807) then (bif (decide (((((x3.2.2.1 ++ x5) ++ x3.2.1).size : Int) > (4000 : Int)))) then (some ((bs []), (9 : Int))) else (some (((x3.2.2.1 ++ x5) ++ x3.2.1), (0 : Int)))) else none) else none))))))))
end Go.Proofs.YtpoiijkodpnobaaGreatDoor
end
section
set_option linter.unusedVariables false
set_option linter.unusedSimpArgs false
namespace Go.Proofs.YtpoiijkodpnobaaGreatDoor
open Go Go.Fw
theorem refPack_rounds {m : Msg} (hg : goodM m) : bursarref19_Pack.l9 (bs [], 0, m.1, m.2, []) = some (bif okP m.2 then .inr (m.2.map (·.1), bs (bodyM m.2), m.1, m.2) else .inl (bs [], 16)) := by
  obtain ⟨mt, l⟩ := m
  have hl : l.length ≤ 130 := hg.1
  have hf := rounds_first (t := bursarref19_Pack.t9) (fun i => (bs (bodyM (l.take i)), ((i : Nat) : Int), mt, l, (l.take i).map (·.1))) (fun i => bif (pkE (l.getD i (0, bs []))).2 == 0 then none else some (.inl (bs [], (16 : Int)))) (.inr (l.map (·.1), bs (bodyM l), mt, l)) l.length (fun i hi _ => by
    have p1 := refPkE_is (f := l.getD i (0, bs [])) (hg.at hi)
    obtain ⟨_, p2, p4⟩ := pkE0_is (f := l.getD i (0, bs [])) (hg.at hi)
    have hb : (bodyM (l.take i)).length ≤ 1002 * (l.take i).length := bodyM_len fun f hf => hg.2 f (List.mem_of_mem_take hf)
    have hb' : (l.take i).length ≤ 130 := by simp; omega
    have hm : ((l.take i).map (fun f : Fld => f.1)).length ≤ 130 := by simp; omega
    have hup : (l.take (i + 1)).map (fun f : Fld => f.1) = (l.take i).map (fun f : Fld => f.1) ++ [(l.getD i (0, bs [])).1] := by rw [take_up (0, bs []) hi, List.map_append]; rfl
    simp only [bursarref19_Pack.t9, inb hi, cond_true, ge0' i, Bool.and_self, Int.toNat_natCast, dflt_fld, p1, Option.bind_some, bne]
    rw [bodyM_up l hi, hup, p4]
    cases (pkE (l.getD i (0, bs []))).2 == 0
    · rfl
    · simp only [Bool.not_true, cond_false, cond_true, bs_append, bs_size, wrap_up (show i < 9223372036854775807 by omega), List.length_cons, List.length_nil]
      rw [Nat.ble_eq_true_of_le (by omega), Nat.ble_eq_true_of_le (by omega), Nat.ble_eq_true_of_le (by omega)]
      rfl) (fun _ => by simp only [bursarref19_Pack.t9, outb, cond_false, List.take_length])
  have hf' : bursarref19_Pack.l9 (bs [], 0, mt, l, []) = _ := hf
  show bursarref19_Pack.l9 (bs [], 0, mt, l, []) = _
  rw [hf']
  unfold okP
  rcases find_not (n := l.length) (p := fun i => (pkE (l.getD i (0, bs []))).2 == 0) (g := fun i => Sum.inl (β := List Int × ByteArray × ByteArray × List Fld) (bs [], (16 : Int))) with ⟨i, _, h1, h2⟩ | ⟨h1, h2⟩ <;> rw [h1, h2] <;> rfl
theorem refIsoPack_is {m : Msg} (hg : goodM m) : bursarref19_Pack.f m = some (packF m) := by
  have hl := hg.1
  unfold bursarref19_Pack.f packF
  rw [mtiRefParse_is]
  cases hw : whose m.1 with
  | none => rfl
  | some i =>
    have h4 : m.1.data.toList.length = 4 := by have := whose_len hw; simpa using this
    have hn : (m.2.map (fun f : Fld => f.1)).length ≤ 1000 := by simp; omega
    have hh := headM_len m.2
    have hh' : (headM m.2).length ≤ 16 := by rw [hh]; cases wide (m.2.map (·.1)) <;> simp
    have hb : (bodyM m.2).length ≤ 1002 * m.2.length := bodyM_len hg.2
    simp only [Option.bind_some, Bool.not_true, cond_false, refPack_rounds hg]
    cases okP m.2
    · rw [Bool.and_false]; rfl
    · simp only [cond_true, Option.bind_some, refMay_is (show (m.2.map (fun f : Fld => f.1)).length < 9223372036854775807 by omega)]
      cases hmay : mayL (m.2.map (·.1))
      · rfl
      · have ha : m.1 ++ bs (octs8 (mapL (m.2.map (·.1)))) = bs (m.1.data.toList ++ headM m.2) := by
          conv => lhs; lhs; rw [eq_bs m.1]
          rw [bs_append]; rfl
        simp only [Bool.not_true, cond_false, refMap_is hn hmay, Option.bind_some, ha, bs_append, bs_size, Bool.and_self, cond_true]
        have hs4 := whose_len hw
        rw [Nat.ble_eq_true_of_le (by unfold headM at hh'; omega), Nat.ble_eq_true_of_le (by simp only [List.length_append]; omega)]
        simp only [cond_true]
        by_cases c : 4000 < 4 + (headM m.2).length + (bodyM m.2).length
        · rw [decide_eq_true c, decide_eq_true (by simp only [List.length_append]; omega)]; rfl
        · rw [decide_eq_false c, decide_eq_false (by simp only [List.length_append]; omega)]; rfl
theorem aw19c : bursarref16_Of.f 70 = some (1, 0, 3) := by kernel_rfl
end Go.Proofs.YtpoiijkodpnobaaGreatDoor
end
section
set_option linter.unusedVariables false
set_option maxRecDepth 100000
namespace Go.Proofs.YtpoiijkodpnobaaGreatDoor
open Go Go.Fw
abbrev iso_Get.As : Shs := (.cons (.x T_api_Message) (.cons (.x (.i .i64)) .nil))
abbrev iso_Get.m : Back := [(false, .s), (false, .b)]
noncomputable abbrev iso_Get.H : HK := hk P G0 E0 J0 [] noLoops 4
theorem iso_Get.rows : TabOK P G0 (tabF []) := rows_ok (ws := []) trivial
theorem iso_Get.hok : HKOK P iso_Get.H := hk_ok e0_ok j0_ok iso_Get.rows (fun g n => noLoops_ok g n) 4
noncomputable abbrev iso_Get.shi0 : SSh := ⟨[(0, (.x (.l (.g (.p (.i .i64) .s))))), (1, (.fn 141 (.cons (.pt 1 0) .nil))), (7, (.x (.i .i64))), (8, (.x (.i .i64)))], [.box (.cons (.x .s) (.cons (.x (.l (.g (.p (.i .i64) .s)))) .nil)), .box (.cons (.x (.i .i64)) .nil)]⟩
noncomputable abbrev iso_Get.osi0 : PEnds := [(.ret, ⟨[(4, (.x (.i .i64)))], [.box (.cons (.x .s) (.cons (.x (.l (.g (.p (.i .i64) .s)))) .nil)), .box (.cons (.x (.i .i64)) .nil)]⟩), ((.exit 0), ⟨[], [.box (.cons (.x .s) (.cons (.x (.l (.g (.p (.i .i64) .s)))) .nil)), .box (.cons (.x (.i .i64)) .nil)]⟩)]
noncomputable def iso_Get.ti0 (s : ((List (Int × ByteArray)) × (Int × (Int × (ByteArray × ((List (Int × ByteArray)) × Int)))))) : Option (((List (Int × ByteArray)) × (Int × (Int × (ByteArray × ((List (Int × ByteArray)) × Int))))) ⊕ ((Int × (ByteArray × ((List (Int × ByteArray)) × Int))) ⊕ (ByteArray × ((List (Int × ByteArray)) × Int)))) := (bif (decide ((s.2.2.1 < s.2.1))) then (bif ((decide (((0 : Int) ≤ s.2.2.1))) && (decide ((s.2.2.1 < ((List.length s.1) : Int))))) then (bif ((List.getD s.1 (Int.toNat s.2.2.1) (Ty.dflt T_api_Account)).1 == s.2.2.2.2.2) then (some (.inr (.inl s.2.2))) else (some (.inl (s.1, (s.2.1, ((IntKind.wrap .i64 (s.2.2.1 + (1 : Int))), s.2.2.2)))))) else none) else (some (.inr (.inr s.2.2.2))))
theorem iso_Get.ti0_ok : ∀ s : Vals iso_Get.shi0.tys, turnK P iso_Get.H (lp []) (bodyAt (codeOf P 140) 3) 2 iso_Get.shi0 iso_Get.osi0 s some = iso_Get.ti0 s := fun s => by kernel_rfl
noncomputable def iso_Get.li0 : ((List (Int × ByteArray)) × (Int × (Int × (ByteArray × ((List (Int × ByteArray)) × Int))))) → Option ((Int × (ByteArray × ((List (Int × ByteArray)) × Int))) ⊕ (ByteArray × ((List (Int × ByteArray)) × Int))) := rounds iso_Get.ti0
noncomputable abbrev iso_Get.L1 : ILp := [(140, 2, [(3, (NodeT.summ ⟨iso_Get.shi0, iso_Get.osi0, iso_Get.li0⟩ 2))])]
theorem iso_Get.L1ok : ILpOK P G0 iso_Get.L1 := ⟨⟨(loop_sum iso_Get.hok (by kernel_rfl) (by kernel_rfl) (l := []) trivial iso_Get.shi0 iso_Get.osi0 (by kernel_rfl) iso_Get.ti0 iso_Get.ti0_ok), trivial⟩, trivial⟩
noncomputable abbrev iso_Get.H1 : HK := hk P G0 E0 J0 [] (ilp iso_Get.L1) 4
theorem iso_Get.hok1 : HKOK P iso_Get.H1 := hk_ok e0_ok j0_ok iso_Get.rows (fun g n => ilp_ok iso_Get.L1ok g n) 4
noncomputable def iso_Get.f (a : ((ByteArray × (List (Int × ByteArray))) × Int)) : Option (ByteArray × Bool) := (((iso_Get.li0 (a.1.2, (((List.length a.1.2) : Int), ((0 : Int), (a.1.1, (a.1.2, a.2))))))).bind fun x2 => (match x2 with | .inl x3 => (bif (decide ((x3.1 < (0 : Int)))) then (some ((bs []), false)) else (bif ((decide (((0 : Int) ≤ x3.1))) && (decide ((x3.1 < ((List.length x3.2.2.1) : Int))))) then (some ((List.getD x3.2.2.1 (Int.toNat x3.1) (Ty.dflt T_api_Account)).2, true)) else none)) | .inr x3 => (some ((bs []), false))))
theorem iso_Get.ok : ∀ a : Vals iso_Get.As.tys, fnK P iso_Get.H1 (lp []) 107 iso_Get.As iso_Get.m a some = iso_Get.f a := fun a => by kernel_rfl
noncomputable abbrev iso_Get.row : Row := fnRow 107 iso_Get.As iso_Get.m iso_Get.f
theorem iso_Get.row_ok : RowOK P G0 iso_Get.row := row_told iso_Get.hok1 (lp_of (l := []) trivial) (fun _ => rfl) iso_Get.ok
noncomputable def bursarref19_Get.t3 (s : (Int × (Int × (ByteArray × (List (Int × ByteArray)))))) : Option ((Int × (Int × (ByteArray × (List (Int × ByteArray))))) ⊕ ((ByteArray × Bool) ⊕ Unit)) := (bif (decide ((s.2.1 < ((List.length s.2.2.2) : Int)))) then (bif ((decide (((0 : Int) ≤ s.2.1))) && (decide ((s.2.1 < ((List.length s.2.2.2) : Int))))) then (bif ((List.getD s.2.2.2 (Int.toNat s.2.1) (Ty.dflt T_api_Account)).1 == s.1) then (bif ((decide (((0 : Int) ≤ s.2.1))) && (decide ((s.2.1 < ((List.length s.2.2.2) : Int))))) then (some (.inr (.inl ((List.getD s.2.2.2 (Int.toNat s.2.1) (Ty.dflt T_api_Account)).2, true)))) else none) else (some (.inl (s.1, ((IntKind.wrap .i64 (s.2.1 + (1 : Int))), s.2.2))))) else none) else (some (.inr (.inr ()))))
noncomputable def bursarref19_Get.l3 : (Int × (Int × (ByteArray × (List (Int × ByteArray))))) → Option ((ByteArray × Bool) ⊕ Unit) := rounds bursarref19_Get.t3
noncomputable def bursarref19_Get.f (a : ((ByteArray × (List (Int × ByteArray))) × Int)) : Option (ByteArray × Bool) := (((bursarref19_Get.l3 (a.2, ((0 : Int), a.1)))).bind fun x2 => (match x2 with | .inl x3 => (some x3) | .inr x3 => (some ((bs []), false))))
end Go.Proofs.YtpoiijkodpnobaaGreatDoor
end
section
set_option linter.unusedVariables false
set_option linter.unusedSimpArgs false
namespace Go.Proofs.YtpoiijkodpnobaaGreatDoor
open Go Go.Fw
abbrev zF : Fld := (0, bs [])
theorem find_first {R : Type} {l : List Fld} {p : Fld → Bool} {g : Nat → R} :
    (List.range l.length).findSome? (fun i => bif p (l.getD i zF) then some (g i) else none) = (bif decide (l.findIdx p < l.length) then some (g (l.findIdx p)) else none) := by
  have hno : ∀ j, j < l.findIdx p → j < l.length → p (l.getD j zF) = false := fun j h1 h2 => by
    rw [getD_at h2]
    have := List.not_of_lt_findIdx h1
    simpa using this
  by_cases h : l.findIdx p < l.length
  · rw [decide_eq_true h, cond_true]
    refine range_some h (fun j hj => ?_) ?_
    · show (bif p (l.getD j zF) then some (g j) else none) = none
      rw [hno j hj (by omega)]; rfl
    · have := List.findIdx_getElem (w := h)
      show (bif p (l.getD (l.findIdx p) zF) then some (g (l.findIdx p)) else none) = _
      rw [getD_at h, this]; rfl
  · rw [decide_eq_false h, cond_false]
    have he : l.findIdx p = l.length := Nat.le_antisymm List.findIdx_le_length (by omega)
    refine range_none (Nat.le_refl _) fun j hj => ?_
    show (bif p (l.getD j zF) then some (g j) else none) = none
    rw [hno j (by omega) hj]; rfl
def getF (l : List Fld) (n : Int) : ByteArray × Bool := bif decide (l.findIdx (fun f => f.1 == n) < l.length) then ((l.getD (l.findIdx fun f => f.1 == n) zF).2, true) else (bs [], false)
theorem get_is {t : ByteArray} {l : List Fld} (hl : l.length ≤ 1000) (n : Int) : iso_Get.f ((t, l), n) = some (getF l n) := by
  have hf := rounds_first (t := iso_Get.ti0) (fun i => (l, (l.length : Int), ((i : Nat) : Int), t, l, n)) (fun i => bif (l.getD i zF).1 == n then some (.inl (((i : Nat) : Int), t, l, n)) else none) (.inr (t, l, n)) l.length (fun i hi _ => by
    simp only [iso_Get.ti0, inb hi, cond_true, ge0' i, Bool.and_self, Int.toNat_natCast, dflt_fld, wrap_up (show i < 9223372036854775807 by omega)]
    cases ((l.getD i zF).1 == n) <;> rfl) (fun _ => by simp only [iso_Get.ti0, outb, cond_false])
  have hf' : iso_Get.li0 (l, (l.length : Int), 0, t, l, n) = _ := hf
  unfold iso_Get.f getF
  simp only [hf', find_first (l := l) (p := fun f => f.1 == n) (g := fun i => Sum.inl (β := ByteArray × List Fld × Int) (((i : Nat) : Int), t, l, n))]
  by_cases h : l.findIdx (fun f => f.1 == n) < l.length
  · rw [decide_eq_true h]
    simp only [cond_true, Option.getD_some, Option.bind_some, decide_eq_false (show ¬ ((l.findIdx (fun f => f.1 == n) : Nat) : Int) < 0 by omega), cond_false, ge0', inb h, Bool.and_self, Int.toNat_natCast, dflt_fld]
  · rw [decide_eq_false h]
    rfl
theorem refGet_is {t : ByteArray} {l : List Fld} (hl : l.length ≤ 1000) (n : Int) : bursarref19_Get.f ((t, l), n) = some (getF l n) := by
  have hf := rounds_first (t := bursarref19_Get.t3) (fun i => (n, ((i : Nat) : Int), t, l)) (fun i => bif (l.getD i zF).1 == n then some (.inl ((l.getD i zF).2, true)) else none) (.inr ()) l.length (fun i hi _ => by
    simp only [bursarref19_Get.t3, inb hi, cond_true, ge0' i, Bool.and_self, Int.toNat_natCast, dflt_fld, wrap_up (show i < 9223372036854775807 by omega)]
    cases ((l.getD i zF).1 == n) <;> rfl) (fun _ => by simp only [bursarref19_Get.t3, outb, cond_false])
  have hf' : bursarref19_Get.l3 (n, 0, t, l) = _ := hf
  unfold bursarref19_Get.f getF
  simp only [hf', find_first (l := l) (p := fun f => f.1 == n) (g := fun i => Sum.inl (β := Unit) ((l.getD i zF).2, true))]
  by_cases h : l.findIdx (fun f => f.1 == n) < l.length
  · rw [decide_eq_true h]; rfl
  · rw [decide_eq_false h]; rfl
abbrev over (n : Int) (f : Fld) : Bool := decide (f.1 > n)
abbrev other (n : Int) (f : Fld) : Bool := !(f.1 == n)
def putF (d : List Fld) (n : Int) (v : ByteArray) : List Fld := d.take (d.findIdx (over n)) ++ [(n, v)] ++ d.drop (d.findIdx (over n))
abbrev keepF (l : List Fld) (n : Int) : List Fld := l.filter (other n)
theorem get_put (l : List Fld) (n : Int) (v : ByteArray) : getF (putF (keepF l n) n v) n = (v, true) := by
  obtain ⟨d, hd⟩ : ∃ d, keepF l n = d := ⟨_, rfl⟩
  have hno : ∀ f ∈ d, (f.1 == n) = false := fun f hf => by
    rw [← hd] at hf
    have := (List.mem_filter.1 hf).2
    simpa [other] using this
  rw [hd]
  obtain ⟨p, hp⟩ : ∃ p, d.take (d.findIdx (over n)) = p := ⟨_, rfl⟩
  obtain ⟨q, hq⟩ : ∃ q, d.drop (d.findIdx (over n)) = q := ⟨_, rfl⟩
  have hpn : ∀ f ∈ p, (f.1 == n) = false := fun f hf => hno f (by rw [← hp] at hf; exact List.mem_of_mem_take hf)
  have e : putF d n v = p ++ ((n, v) :: q) := by unfold putF; rw [hp, hq, List.append_assoc]; rfl
  have hp' : ¬ p.findIdx (fun f => f.1 == n) < p.length := fun h => by
    obtain ⟨f, hf, h⟩ := List.findIdx_lt_length.1 h
    rw [hpn f hf] at h
    cases h
  have hi : (p ++ ((n, v) :: q)).findIdx (fun f => f.1 == n) = p.length := by
    rw [List.findIdx_append, if_neg hp', List.findIdx_cons]
    simp
  unfold getF
  rw [e, hi, decide_eq_true (by simp), cond_true]
  simp [List.getD_eq_getElem?_getD]
end Go.Proofs.YtpoiijkodpnobaaGreatDoor
end
section
namespace Go.Proofs
open Go.Shelf
def Tryz.laysC174_ren : Go.Shelf.Ren := ⟨fun | 174 => 108 | 247 => 142 | 245 => 122 | 287 => 121 | 279 => 153 | 280 => 154 | 281 => 155 | 282 => 156 | 321 => 151 | 322 => 152 | 316 => 177 | 171 => 52 | 205 => 178 | 243 => 90 | 246 => 124 | 283 => 157 | 284 => 158 | 285 => 159 | 286 => 160 | 129 => 180 | 317 => 179 | 318 => 181 | 319 => 182 | 320 => 183 | 337 => 189 | 338 => 190 | n => n, fun | 9 => 9 | 3 => 3 | 2 => 2 | 75 => 141 | 85 => 161 | 4 => 4 | 167 => 206 | 5 => 5 | 53 => 95 | 175 => 142 | 46 => 163 | 168 => 208 | 37 => 132 | 0 => 0 | 210 => 234 | 21 => 21 | 127 => 204 | 145 => 247 | 143 => 245 | 171 => 211 | 173 => 214 | 212 => 237 | 51 => 200 | 20 => 20 | 213 => 238 | 232 => 257 | 233 => 258 | 80 => 173 | n => n, fun | 15 => 2 | 16 => 3 | 17 => 4 | 18 => 6 | 19 => 7 | n => n⟩
theorem Tryz.laysC174 : Go.Proofs.LaysC.n174 Tryz.prog Tryz.laysC174_ren := {
  mixed := by kernel_rfl
  f129 := Tryz.func180.trans (congrArg some (by kernel_rfl))
  f171 := Tryz.func52.trans (congrArg some (by kernel_rfl))
  f174 := Tryz.func108.trans (congrArg some (by kernel_rfl))
  f205 := Tryz.func178.trans (congrArg some (by kernel_rfl))
  f243 := Tryz.func90.trans (congrArg some (by kernel_rfl))
  f245 := Tryz.func122.trans (congrArg some (by kernel_rfl))
  f246 := Tryz.func124.trans (congrArg some (by kernel_rfl))
  f247 := Tryz.func142.trans (congrArg some (by kernel_rfl))
  f279 := Tryz.func153.trans (congrArg some (by kernel_rfl))
  f280 := Tryz.func154.trans (congrArg some (by kernel_rfl))
  f281 := Tryz.func155.trans (congrArg some (by kernel_rfl))
  f282 := Tryz.func156.trans (congrArg some (by kernel_rfl))
  f283 := Tryz.func157.trans (congrArg some (by kernel_rfl))
  f284 := Tryz.func158.trans (congrArg some (by kernel_rfl))
  f285 := Tryz.func159.trans (congrArg some (by kernel_rfl))
  f286 := Tryz.func160.trans (congrArg some (by kernel_rfl))
  f287 := Tryz.func121.trans (congrArg some (by kernel_rfl))
  f316 := Tryz.func177.trans (congrArg some (by kernel_rfl))
  f317 := Tryz.func179.trans (congrArg some (by kernel_rfl))
  f318 := Tryz.func181.trans (congrArg some (by kernel_rfl))
  f319 := Tryz.func182.trans (congrArg some (by kernel_rfl))
  f320 := Tryz.func183.trans (congrArg some (by kernel_rfl))
  f321 := Tryz.func151.trans (congrArg some (by kernel_rfl))
  f322 := Tryz.func152.trans (congrArg some (by kernel_rfl))
  f337 := Tryz.func189.trans (congrArg some (by kernel_rfl))
  f338 := Tryz.func190.trans (congrArg some (by kernel_rfl))
  t0 := Tryz.underlying0
  a0 := Tryz.isAgg0
  z0 := Tryz.sizeOf0
  v0 := Tryz.zeroValue0
  t2 := Tryz.underlying2
  a2 := Tryz.isAgg2
  z2 := Tryz.sizeOf2
  v2 := Tryz.zeroValue2
  t3 := Tryz.underlying3
  a3 := Tryz.isAgg3
  z3 := Tryz.sizeOf3
  v3 := Tryz.zeroValue3
  t4 := Tryz.underlying4
  a4 := Tryz.isAgg4
  z4 := Tryz.sizeOf4
  v4 := Tryz.zeroValue4
  t5 := Tryz.underlying5
  a5 := Tryz.isAgg5
  z5 := Tryz.sizeOf5
  v5 := Tryz.zeroValue5
  t9 := Tryz.underlying9
  a9 := Tryz.isAgg9
  z9 := Tryz.sizeOf9
  v9 := Tryz.zeroValue9
  t20 := Tryz.underlying20
  a20 := Tryz.isAgg20
  z20 := Tryz.sizeOf20
  v20 := Tryz.zeroValue20
  t21 := Tryz.underlying21
  a21 := Tryz.isAgg21
  z21 := Tryz.sizeOf21
  v21 := Tryz.zeroValue21
  t37 := Tryz.underlying132
  a37 := Tryz.isAgg132
  z37 := Tryz.sizeOf132
  v37 := Tryz.zeroValue132
  t46 := Tryz.underlying163
  a46 := Tryz.isAgg163
  z46 := Tryz.sizeOf163
  v46 := Tryz.zeroValue163
  t51 := Tryz.underlying200
  a51 := Tryz.isAgg200
  z51 := Tryz.sizeOf200
  v51 := Tryz.zeroValue200
  t53 := Tryz.underlying95
  a53 := Tryz.isAgg95
  z53 := Tryz.sizeOf95
  v53 := Tryz.zeroValue95
  t75 := Tryz.underlying141
  a75 := Tryz.isAgg141
  z75 := Tryz.sizeOf141
  v75 := Tryz.zeroValue141
  t85 := Tryz.underlying161
  a85 := Tryz.isAgg161
  z85 := Tryz.sizeOf161
  v85 := Tryz.zeroValue161
  t127 := Tryz.underlying204
  a127 := Tryz.isAgg204
  z127 := Tryz.sizeOf204
  v127 := Tryz.zeroValue204
  t143 := Tryz.underlying245
  a143 := Tryz.isAgg245
  z143 := Tryz.sizeOf245
  v143 := Tryz.zeroValue245
  t145 := Tryz.underlying247
  a145 := Tryz.isAgg247
  z145 := Tryz.sizeOf247
  v145 := Tryz.zeroValue247
  t167 := Tryz.underlying206
  a167 := Tryz.isAgg206
  z167 := Tryz.sizeOf206
  v167 := Tryz.zeroValue206
  t168 := Tryz.underlying208
  a168 := Tryz.isAgg208
  z168 := Tryz.sizeOf208
  v168 := Tryz.zeroValue208
  t171 := Tryz.underlying211
  a171 := Tryz.isAgg211
  z171 := Tryz.sizeOf211
  v171 := Tryz.zeroValue211
  t173 := Tryz.underlying214
  a173 := Tryz.isAgg214
  z173 := Tryz.sizeOf214
  v173 := Tryz.zeroValue214
  t175 := Tryz.underlying142
  a175 := Tryz.isAgg142
  z175 := Tryz.sizeOf142
  v175 := Tryz.zeroValue142
  t210 := Tryz.underlying234
  a210 := Tryz.isAgg234
  z210 := Tryz.sizeOf234
  v210 := Tryz.zeroValue234
  t212 := Tryz.underlying237
  a212 := Tryz.isAgg237
  z212 := Tryz.sizeOf237
  v212 := Tryz.zeroValue237
  t213 := Tryz.underlying238
  a213 := Tryz.isAgg238
  z213 := Tryz.sizeOf238
  t232 := Tryz.underlying257
  a232 := Tryz.isAgg257
  z232 := Tryz.sizeOf257
  v232 := Tryz.zeroValue257
  t233 := Tryz.underlying258
  a233 := Tryz.isAgg258
  z233 := Tryz.sizeOf258
  v233 := Tryz.zeroValue258
  g15 := by kernel_rfl
  g16 := by kernel_rfl
  g17 := by kernel_rfl
  g18 := by kernel_rfl
  g19 := by kernel_rfl
  t80 := Tryz.underlying173
  a80 := Tryz.isAgg173
  z80 := Tryz.sizeOf173
  v80 := Tryz.zeroValue173
  i0 := by kernel_rfl
  i2 := by kernel_rfl
  i3 := by kernel_rfl
  i4 := by kernel_rfl
  i5 := by kernel_rfl
  i9 := by kernel_rfl
  i20 := by kernel_rfl
  i21 := by kernel_rfl
  i37 := by kernel_rfl
  i46 := by kernel_rfl
  i51 := by kernel_rfl
  i53 := by kernel_rfl
  i75 := by kernel_rfl
  i80 := by kernel_rfl
  i85 := by kernel_rfl
  i127 := by kernel_rfl
  i143 := by kernel_rfl
  i145 := by kernel_rfl
  i167 := by kernel_rfl
  i168 := by kernel_rfl
  i171 := by kernel_rfl
  i173 := by kernel_rfl
  i175 := by kernel_rfl
  i210 := by kernel_rfl
  i212 := by kernel_rfl
  i232 := by kernel_rfl
  i233 := by kernel_rfl
  m15 := by kernel_rfl
  m16 := by kernel_rfl
  m17 := by kernel_rfl
  m18 := by kernel_rfl
  m19 := by kernel_rfl
  c0 := by kernel_rfl
  c2 := by kernel_rfl
  c3 := by kernel_rfl
  c4 := by kernel_rfl
  c5 := by kernel_rfl
  c9 := by kernel_rfl
  c20 := by kernel_rfl
  c21 := by kernel_rfl
  c37 := by kernel_rfl
  c46 := by kernel_rfl
  c51 := by kernel_rfl
  c53 := by kernel_rfl
  c75 := by kernel_rfl
  c80 := by kernel_rfl
  c85 := by kernel_rfl
  c127 := by kernel_rfl
  c143 := by kernel_rfl
  c145 := by kernel_rfl
  c167 := by kernel_rfl
  c168 := by kernel_rfl
  c171 := by kernel_rfl
  c173 := by kernel_rfl
  c175 := by kernel_rfl
  c210 := by kernel_rfl
  c212 := by kernel_rfl
  c213 := by kernel_rfl
  c232 := by kernel_rfl
  c233 := by kernel_rfl }
end Go.Proofs
end
section
set_option linter.unusedVariables false
namespace Go.Proofs.YtpoiijkodpnobaaGreatDoor
open Go Go.Fw Go.RowKit Go.Shelf
def parseI (l : List UInt8) : Int × Bool := match Lib.parseIntB 64 l with
  | .ok v => (v, false)
  | .«syntax» => (0, true)
  | .range => (Lib.intSat 64 l, true)
abbrev strconv_ParseInt.As : Shs := .cons (.x .s) (.cons (.x (.i .i64)) (.cons (.x (.i .i64)) .nil))
abbrev strconv_ParseInt.m : Back := [(false, .i .i64), (false, .e)]
abbrev strconv_ParseInt.f (a : (ByteArray × (Int × Int))) : Option (Int × Bool) := bif decide (a.2.1 = 10) && decide (a.2.2 = 64) && decide (a.1.size ≤ 281474976710656) then some (parseI a.1.data.toList) else none
noncomputable abbrev strconv_ParseInt.row : Row := fnRow 108 strconv_ParseInt.As strconv_ParseInt.m strconv_ParseInt.f
theorem parseInt_bytes_below (w : World) (t : TypeId) (s : ByteArray) : Below w.heap.size w (Lib.bytesWorld w t s) := by
  unfold Lib.bytesWorld World.freeze
  rw [if_neg (by decide)]
  refine ⟨rfl, rfl, rfl, by simp, fun k hk => ?_⟩
  show ((w.heap.push _).modify _ _)[k]? = _
  rw [Array.getElem?_modify, if_neg (by show ¬ w.heap.size = k; omega), Array.getElem?_push, if_neg (by omega)]
theorem strconv_ParseInt.row_ok : RowOK P G1 strconv_ParseInt.row := by
  have key : ∀ (ds : List D) (a : ByteArray × (Int × Int)) (q : Int × Bool), decArgs strconv_ParseInt.As ds = some a → strconv_ParseInt.f a = some q → Fw.Enters P 108 ∧ PCall P G1 108 ds (.tp [.i .i64 q.1, .er q.2]) := by
    intro ds a q ha hq
    refine ⟨ent_of Tryz.func108 (by kernel_rfl) (by kernel_rfl), ?_⟩
    have hds := (decArgs_argD ha).symm
    refine PCall.coe (ds' := argD strconv_ParseInt.As a) ?_ (by rw [← hds]; exact coeA_len) fun w I f hf => by rw [← hds]; exact coeA_rel hf
    refine pcall_below fun w I K vs hg hsz hr => ?_
    have h0 := hr 0 (.s a.1) rfl
    have h1 := hr 1 (.i .i64 a.2.1) rfl
    have h2 := hr 2 (.i .i64 a.2.2) rfl
    have hvs : vs = #[.string a.1, .int .i64 a.2.1, .int .i64 a.2.2] := by
      have hs : vs.size = 3 := hsz
      rw [Array.getD_eq_getD_getElem?, Array.getElem?_eq_getElem (by omega)] at h0 h1 h2
      simp only [Option.getD_some] at h0 h1 h2
      refine Array.ext (by simpa using hs) fun i hi hi' => ?_
      match i, hi with
      | 0, _ => cases h : vs[0] <;> rw [h] at h0 <;> cases h0; rfl
      | 1, _ => cases h : vs[1] <;> rw [h] at h1 <;> cases h1; rfl
      | 2, _ => cases h : vs[2] <;> rw [h] at h2 <;> cases h2; rfl
      | i + 3, hi => omega
    subst hvs
    unfold strconv_ParseInt.f at hq
    obtain ⟨hb, hq⟩ := cond_some hq
    simp only [Bool.and_eq_true, decide_eq_true_eq] at hb
    obtain ⟨⟨h3, h4⟩, h5⟩ := hb
    rw [h3, h4]
    injection hq with hq
    subst hq
    unfold parseI
    have tup : ∀ (w' : World) (n : Int) (b : Bool) (v : Value), RelD w' I (.er b) v → RelX w' I K (.tp [.i .i64 n, .er b]) (.tuple #[.int .i64 n, v]) := fun w' n b v hv => ⟨_, rfl, RelD.i .i64 n, ⟨hv, trivial, fun b h => by cases b <;> cases h⟩, fun b h => by cases h⟩
    cases hp : Lib.parseIntB 64 a.1.data.toList with
    | ok u =>
      refine (Any.strconv_ParseInt_10_at64_ok Tryz.laysC174 a.1 (by omega) u hp w).mono ?_
      rintro e w' ⟨rfl, hw⟩
      refine ⟨_, rfl, ?_, tup w' u false _ .er0⟩
      rcases hw with rfl | ⟨t, rfl⟩
      · exact .refl _ _
      · exact parseInt_bytes_below _ _ _
    | «syntax» =>
      obtain ⟨tp, p, hv⟩ := err_of_glob (P := P) hg (g := 2) (name := "strconv.ErrSyntax") (by kernel_rfl) rfl
      refine (Any.strconv_ParseInt_10_at64_syntax_var Tryz.laysC174 a.1 h5 hp tp p w hv).mono ?_
      rintro e w' ⟨N, rfl, _, _, hb⟩
      exact ⟨_, rfl, hb, tup w' 0 true _ (.er1 _ _)⟩
    | range =>
      obtain ⟨tp, p, hv⟩ := err_of_glob (P := P) hg (g := 3) (name := "strconv.ErrRange") (by kernel_rfl) rfl
      refine (Any.strconv_ParseInt_10_at64_range_var Tryz.laysC174 a.1 h5 hp tp p w hv).mono ?_
      rintro e w' ⟨N, rfl, _, _, hb⟩
      exact ⟨_, rfl, hb, tup w' _ true _ (.er1 _ _)⟩
  exact fun ds a q => key ds a q
end Go.Proofs.YtpoiijkodpnobaaGreatDoor
end
section
set_option linter.unusedVariables false
set_option maxRecDepth 100000
namespace Go.Proofs.YtpoiijkodpnobaaGreatDoor
open Go Go.Fw
abbrev trade_original.As : Shs := (.cons (.x .s) .nil)
abbrev trade_original.m : Back := [(false, .b)]
noncomputable abbrev trade_original.H : HK := hk P G0 E0 J0 [mti_Parse.row] noLoops 4
theorem trade_original.rows : TabOK P G0 (tabF [mti_Parse.row]) := rows_ok (ws := [mti_Parse.row]) ⟨mti_Parse.row_ok, trivial⟩
theorem trade_original.hok : HKOK P trade_original.H := hk_ok e0_ok j0_ok trade_original.rows (fun g n => noLoops_ok g n) 4
noncomputable def trade_original.f (a : ByteArray) : Option Bool := (bif (true && (decide (((4 : Int) ≤ (a.size : Int))))) then (((mti_Parse.f (ByteArray.extract a 0 4))).bind fun x1 => (bif (x1.2 == (0 : Int)) then (bif (!x1.1.2.2.1) then (bif (x1.1.1 == (1 : Int)) then (some true) else (some (x1.1.1 == (2 : Int)))) else (some false)) else (some false))) else none)
theorem trade_original.ok : ∀ a : Vals trade_original.As.tys, fnK P trade_original.H (lp []) 69 trade_original.As trade_original.m a some = trade_original.f a := fun a => by kernel_rfl
noncomputable abbrev trade_original.row : Row := fnRow 69 trade_original.As trade_original.m trade_original.f
theorem trade_original.row_ok : RowOK P G0 trade_original.row := row_told trade_original.hok (lp_of (l := []) trivial) (fun _ => rfl) trade_original.ok
noncomputable def bursarref20_number.f (a : (ByteArray × Int)) : Option (Int × Bool) := (((bursarref02_Get.f a.1)).bind fun x2 => (bif (x2.2 == (0 : Int)) then (bif (decide ((x2.1 < (9223372036854775808 : Int)))) then (some ((IntKind.wrap .i64 x2.1), (decide (((IntKind.wrap .i64 x2.1) ≥ a.2))))) else (some ((IntKind.wrap .i64 x2.1), false))) else (some ((IntKind.wrap .i64 x2.1), false))))
noncomputable def bursarref20_has.t3 (s : ((List Int) × (Int × (ByteArray × (List (Int × ByteArray)))))) : Option (((List Int) × (Int × (ByteArray × (List (Int × ByteArray))))) ⊕ (Bool ⊕ Unit)) := (bif (decide ((s.2.1 < ((List.length s.1) : Int)))) then (bif ((decide (((0 : Int) ≤ s.2.1))) && (decide ((s.2.1 < ((List.length s.1) : Int))))) then (((bursarref19_Get.f (s.2.2, (List.getD s.1 (Int.toNat s.2.1) (0 : Int))))).bind fun x4 => (bif (!x4.2) then (some (.inr (.inl false))) else (some (.inl (s.1, ((IntKind.wrap .i64 (s.2.1 + (1 : Int))), s.2.2)))))) else none) else (some (.inr (.inr ()))))
noncomputable def bursarref20_has.l3 : ((List Int) × (Int × (ByteArray × (List (Int × ByteArray))))) → Option (Bool ⊕ Unit) := rounds bursarref20_has.t3
noncomputable def bursarref20_has.f (a : ((ByteArray × (List (Int × ByteArray))) × (List Int))) : Option Bool := (((bursarref20_has.l3 (a.2, ((0 : Int), a.1)))).bind fun x2 => (match x2 with | .inl x3 => (some x3) | .inr x3 => (some true)))
noncomputable def bursarref20_of.f (a : ((ByteArray × (List (Int × ByteArray))) × Int)) : Option ByteArray := (((bursarref19_Get.f a)).bind fun x2 => (some x2.1))
end Go.Proofs.YtpoiijkodpnobaaGreatDoor
end
section
set_option linter.unusedVariables false
set_option linter.unusedSimpArgs false
namespace Go.Proofs.YtpoiijkodpnobaaGreatDoor
open Go Go.Fw
theorem bT : (!false) = true ∧ (!true) = false ∧ (∀ (α : Type) (a b : α), cond true a b = a) ∧ (∀ (α : Type) (a b : α), cond false a b = b) ∧ (∀ (α β : Type) (a : α) (f : α → Option β), (some a).bind f = f a) ∧
    (∀ b : Bool, (false && b) = false) ∧ (∀ b : Bool, (b && false) = false) ∧ (∀ b : Bool, (true && b) = b) ∧ (∀ b : Bool, (b && true) = b) ∧ (∀ b : Bool, (b && b) = b) :=
  ⟨rfl, rfl, fun _ _ _ => rfl, fun _ _ _ => rfl, fun _ _ _ _ => rfl, fun _ => rfl, fun b => by cases b <;> rfl, fun _ => rfl, fun b => by cases b <;> rfl, fun b => by cases b <;> rfl⟩
def hasM (m : Msg) (n : Int) : Bool := (getF m.2 n).2
def fldM (m : Msg) (n : Int) : ByteArray := (getF m.2 n).1
def numM (m : Msg) (n : Int) : Int := ((numL 0 (fldM m n).data.toList : Nat) : Int)
theorem get_mem {l : List Fld} {n : Int} (h : (getF l n).2 = true) : ∃ i, i < l.length ∧ (l.getD i zF).1 = n ∧ (l.getD i zF).2 = (getF l n).1 := by
  unfold getF at h ⊢
  by_cases hi : l.findIdx (fun f => f.1 == n) < l.length
  · rw [decide_eq_true hi]
    refine ⟨_, hi, ?_, rfl⟩
    have := List.findIdx_getElem (w := hi)
    rw [getD_at hi]
    simpa using this
  · rw [decide_eq_false hi] at h; cases h
theorem fld_small {m : Msg} (hg : goodM m) (n : Int) : (fldM m n).size ≤ 1001 := by
  unfold fldM
  cases h : (getF m.2 n).2
  · unfold getF at h ⊢
    by_cases hi : m.2.findIdx (fun f => f.1 == n) < m.2.length
    · rw [decide_eq_true hi] at h; cases h
    · rw [decide_eq_false hi]
      show (bs []).size ≤ 1001
      decide
  · obtain ⟨i, hi, h1, h2⟩ := get_mem h
    rw [← h2]
    exact hg.2 _ (by rw [getD_at hi]; exact List.getElem_mem hi)
theorem fld_may {m : Msg} (hg : goodM m) (hok : okP m.2 = true) {n : Int} (h : hasM m n = true) {k v l : Int} (hR : bursarref16_Of.f n = some (k, v, l)) : mayF k v l (fldM m n).data.toList = true := by
  obtain ⟨i, hi, h1, h2⟩ := get_mem h
  have hz := List.all_eq_true.1 hok i (List.mem_range.2 hi)
  have hsz : (m.2.getD i zF).2.size ≤ 5000 := hg.at hi
  unfold fldM
  rw [← h2]
  obtain ⟨f, hf⟩ : ∃ f, m.2.getD i zF = f := ⟨_, rfl⟩
  have hz : ((pkE (m.2.getD i zF)).2 == 0) = true := hz
  rw [hf] at h1 hz hsz ⊢
  obtain ⟨n', s0⟩ := f
  have h1 : n' = n := h1
  subst h1
  obtain ⟨s, rfl⟩ : ∃ s : List UInt8, s0 = bs s := ⟨_, eq_bs s0⟩
  have hs : s.length ≤ 5000 := by simpa [bs_size] using hsz
  obtain ⟨k', v', l', hR', hO, hk⟩ := of_is n'
  rw [hR] at hR'
  injection hR' with hR'
  injection hR' with e1 hR'
  injection hR' with e2 e3
  subst e1 e2 e3
  have hp := pack_is hO hk hs
  have he : pkE (n', bs s) = (bif decide (k = 0) then (bs [], 7) else bif mayF k v l s then (bs (digs v s.length ++ s), 0) else (bs [], 16)) := by unfold pkE; rw [hp]; rfl
  rw [he] at hz
  show mayF k v l (bs s).data.toList = true
  rw [bs_list]
  by_cases h0 : k = 0
  · rw [decide_eq_true h0] at hz; cases hz
  · rw [decide_eq_false h0] at hz
    cases hm : mayF k v l s
    · rw [hm] at hz; cases hz
    · rfl
theorem may_digits {L : Int} {s : List UInt8} (h : mayF 1 0 L s = true) : (s.length : Int) = L ∧ digL s := by
  have h1 : (s.length : Int) ≤ L ∧ ¬ (s.length : Int) < L ∧ s.all (okC 1) = true := by
    unfold mayF at h
    rw [show decide ((1 : Int) = 0) = false from rfl, show decide ((0 : Int) = 0) = true from rfl, Bool.true_and] at h
    simp only [Bool.not_false, Bool.true_and, Bool.and_eq_true, Bool.not_eq_true', decide_eq_false_iff_not, decide_eq_true_eq] at h
    exact h
  obtain ⟨h1, h2, h3⟩ := h1
  refine ⟨by omega, fun c hc => ?_⟩
  have := List.all_eq_true.1 h3 c hc
  unfold okC okN at this
  simpa using this
theorem of4 : bursarref16_Of.f 4 = some (1, 0, 12) := by kernel_rfl
theorem of74 : bursarref16_Of.f 74 = some (1, 0, 10) := by kernel_rfl
theorem of86 : bursarref16_Of.f 86 = some (1, 0, 16) := by kernel_rfl
theorem of90 : bursarref16_Of.f 90 = some (1, 0, 42) := by kernel_rfl
theorem of7 : bursarref16_Of.f 7 = some (1, 0, 10) := by kernel_rfl
theorem of11 : bursarref16_Of.f 11 = some (1, 0, 6) := by kernel_rfl
theorem parseIB_num {c : UInt8} {r : List UInt8} {u : Nat} (hc : 48 ≤ c.toNat ∧ c.toNat ≤ 57) (hu : Lib.parseUintB 64 (c :: r) = .ok u) (h : u < 1000000000000000000) : Lib.parseIntB 64 (c :: r) = .ok ((u : Nat) : Int) := by
  have h63 : ¬ (2 : Nat) ^ (64 - 1) ≤ u := by
    have : (2 : Nat) ^ (64 - 1) = 9223372036854775808 := by decide
    omega
  have n1 : ¬ (c.toNat = 43 ∨ c.toNat = 45) := by omega
  have n2 : ¬ c.toNat = 45 := by omega
  unfold Lib.parseIntB
  show (match Lib.parseUintB 64 (if c.toNat = 43 ∨ c.toNat = 45 then r else c :: r) with
    | .«syntax» => .«syntax»
    | .range => .range
    | .ok u => if ¬ c.toNat = 45 ∧ 2 ^ (64 - 1) ≤ u then .range else if c.toNat = 45 ∧ 2 ^ (64 - 1) < u then .range else .ok (if c.toNat = 45 then -(u : Int) else u)) = Lib.NumEnd.ok ((u : Nat) : Int)
  rw [if_neg n1, hu]
  show (if ¬ c.toNat = 45 ∧ 2 ^ (64 - 1) ≤ u then Lib.NumEnd.range else if c.toNat = 45 ∧ 2 ^ (64 - 1) < u then .range else .ok (if c.toNat = 45 then -(u : Int) else u)) = _
  rw [if_neg (fun e => h63 e.2), if_neg (fun e => n2 e.1), if_neg n2]
theorem parseUB_num {l : List UInt8} (hl : 1 ≤ l.length ∧ l.length ≤ 19) (hd : digL l) : Lib.parseUintB 64 l = .ok (numL 0 l) := by
  unfold Lib.parseUintB
  rw [if_neg (by rintro rfl; simp at hl), parseM_num m64 l 0 0 hd (by simp) (by omega)]
theorem numL_18 {l : List UInt8} (hl : l.length ≤ 18) (hd : digL l) : numL 0 l < 1000000000000000000 := p18 (numL_lt l 0 0 hd (by simp)) (by omega)
theorem parseI_dig {l : List UInt8} (hl : 1 ≤ l.length ∧ l.length ≤ 18) (hd : digL l) : parseI l = (((numL 0 l : Nat) : Int), false) := by
  have hu := parseUB_num (l := l) (by omega) hd
  have h2 := numL_18 hl.2 hd
  obtain ⟨u, hn⟩ : ∃ u, numL 0 l = u := ⟨_, rfl⟩
  rw [hn] at hu h2 ⊢
  unfold parseI
  cases l with
  | nil => simp at hl
  | cons c r => rw [parseIB_num (digL_cons hd).1 hu h2]
theorem parseI_of {s : ByteArray} (hs : s.size ≤ 281474976710656) : strconv_ParseInt.f (s, ((10 : Int), (64 : Int))) = some (parseI s.data.toList) := by
  have h1 : decide (s.size ≤ 281474976710656) = true := decide_eq_true hs
  show (bif decide ((10 : Int) = 10) && decide ((64 : Int) = 64) && decide (s.size ≤ 281474976710656) then some (parseI s.data.toList) else none) = _
  rw [h1]
  rfl
theorem parseI_num {l : List UInt8} (hl : 1 ≤ l.length ∧ l.length ≤ 18) (hd : digL l) : strconv_ParseInt.f (bs l, ((10 : Int), (64 : Int))) = some (((numL 0 l : Nat) : Int), false) := by
  rw [parseI_of (by rw [bs_size]; omega), bs_list, parseI_dig hl hd]
theorem parseI_some {s : ByteArray} (hs : s.size ≤ 1001) : ∃ q, strconv_ParseInt.f (s, ((10 : Int), (64 : Int))) = some q := ⟨_, parseI_of (by omega)⟩
theorem num_below {u : Nat} (h : u < 1000000000000000000) : decide (((u : Nat) : Int) < (9223372036854775808 : Int)) = true ∧ IntKind.wrap .i64 ((u : Nat) : Int) = ((u : Nat) : Int) :=
  ⟨decide_eq_true (by omega), wrap_i64 (by omega) (by omega)⟩
theorem number_of {s : ByteArray} {u : Nat} (hq : bursarref02_Get.f s = some (((u : Nat) : Int), 0)) (h : u < 1000000000000000000) (least : Int) : bursarref20_number.f (s, least) = some (((u : Nat) : Int), decide (((u : Nat) : Int) ≥ least)) := by
  obtain ⟨h1, h2⟩ := num_below h
  unfold bursarref20_number.f
  rw [hq, Option.bind_some]
  show (bif (0 : Int) == 0 then (bif decide (((u : Nat) : Int) < (9223372036854775808 : Int)) then some (IntKind.wrap .i64 ((u : Nat) : Int), decide (IntKind.wrap .i64 ((u : Nat) : Int) ≥ least)) else some (IntKind.wrap .i64 ((u : Nat) : Int), false)) else some (IntKind.wrap .i64 ((u : Nat) : Int), false)) = _
  rw [h1, h2]
  rfl
theorem number_is {l : List UInt8} (hl : 1 ≤ l.length ∧ l.length ≤ 18) (hd : digL l) (least : Int) : bursarref20_number.f (bs l, least) = some (((numL 0 l : Nat) : Int), decide (((numL 0 l : Nat) : Int) ≥ least)) :=
  number_of (RefGet_is (by omega) hd) (numL_18 hl.2 hd) least
theorem fnum {m : Msg} (hg : goodM m) (hok : okP m.2 = true) {n L : Int} (h : hasM m n = true) (hR : bursarref16_Of.f n = some (1, 0, L)) (hL : 1 ≤ L ∧ L ≤ 18) :
    digitsB (fldM m n) = true ∧ strconv_ParseInt.f (fldM m n, ((10 : Int), (64 : Int))) = some (numM m n, false) ∧ ∀ least, bursarref20_number.f (fldM m n, least) = some (numM m n, decide (numM m n ≥ least)) := by
  obtain ⟨h1, h2⟩ := may_digits (fld_may hg hok h hR)
  unfold numM
  obtain ⟨l, hl⟩ : ∃ l, fldM m n = bs l := ⟨_, eq_bs _⟩
  rw [hl] at h1 h2 ⊢
  rw [bs_list] at h1 h2 ⊢
  exact ⟨(digitsB_list l).2 h2, parseI_num (by omega) h2, fun least => number_is (by omega) h2 least⟩
theorem numM_nn (m : Msg) (n : Int) : 0 ≤ numM m n := by unfold numM; omega
theorem fsize {m : Msg} (hg : goodM m) (hok : okP m.2 = true) {n L : Int} (h : hasM m n = true) (hR : bursarref16_Of.f n = some (1, 0, L)) : ((fldM m n).size : Int) = L :=
  (may_digits (fld_may hg hok h hR)).1
theorem of_fld {m : Msg} (hg : goodM m) (n : Int) : bursarref20_of.f (m, n) = some (fldM m n) := by
  unfold bursarref20_of.f
  rw [refGet_is (by have := hg.1; omega)]
  rfl
theorem has_fld {m : Msg} (hg : goodM m) (l : List Int) (hl : l.length ≤ 100) : bursarref20_has.f (m, l) = some (l.all (hasM m)) := by
  obtain ⟨t, fs⟩ := m
  have hr := rounds_all (t := bursarref20_has.t3) (fun i => (l, ((i : Nat) : Int), t, fs)) (fun i => hasM (t, fs) (l.getD i 0)) (.inl false) (.inr ()) l.length (fun i hi => by
    simp only [bursarref20_has.t3, inb hi, cond_true, ge0' i, Bool.and_self, Int.toNat_natCast, refGet_is (show fs.length ≤ 1000 by have := hg.1; simp at this; omega), Option.bind_some, wrap_up (show i < 9223372036854775807 by omega)]
    unfold hasM
    cases (getF fs (l.getD i 0)).2 <;> rfl) (by simp only [bursarref20_has.t3, outb, cond_false])
  have hr' : bursarref20_has.l3 (l, 0, t, fs) = _ := hr
  unfold bursarref20_has.f
  simp only [hr', range_all, Option.bind_some]
  cases l.all (hasM (t, fs)) <;> rfl
theorem get_fld {m : Msg} (hg : goodM m) (n : Int) : iso_Get.f (m, n) = some (fldM m n, hasM m n) := by
  obtain ⟨t, l⟩ := m
  have hl : l.length ≤ 130 := hg.1
  exact get_is (t := t) (l := l) (by omega) n
theorem check_pack {m : Msg} (hg : goodM m) : iso_Check.f m = some (packF m).2 := by
  unfold iso_Check.f
  rw [isoPack_is hg]; rfl
noncomputable def origB (s : ByteArray) : Bool := match whose (s.extract 0 4) with
  | some i => !(mAt i).2.2.1 && ((mAt i).1 == 1 || (mAt i).1 == 2)
  | none => false
theorem original_is {s : ByteArray} (hs : 4 ≤ (s.size : Int)) : trade_original.f s = some (origB s) := by
  unfold trade_original.f origB
  rw [decide_eq_true hs, mtiParse_is]
  cases whose (s.extract 0 4) with
  | none => rfl
  | some i =>
    simp only [Bool.and_self, cond_true, Option.bind_some, BEq.rfl]
    cases (mAt i).2.2.1 <;> cases ((mAt i).1 == 1) <;> rfl
theorem class_at : ∀ i, i < 30 → (mAt i).1 = 1 ∨ (mAt i).1 = 2 ∨ (mAt i).1 = 4 ∨ (mAt i).1 = 5 ∨ (mAt i).1 = 6 ∨ (mAt i).1 = 8 := by decide +kernel
theorem whose_lt {s : ByteArray} {i : Nat} (h : whose s = some i) : i < 30 ∧ tAt i = s := by
  have := firstI_some h
  simpa using this
theorem first_text : ∀ i, i < 30 → (mAt i).2.2.1 = false → (bif mayM ((mAt i).1, (mAt i).2.1, (mAt i).2.2.1, false) then (textM ((mAt i).1, (mAt i).2.1, (mAt i).2.2.1, false), (0 : Int)) else (bs [], 1)).1 = (tAt i).extract 0 3 ++ bs [48] := by decide +kernel
end Go.Proofs.YtpoiijkodpnobaaGreatDoor
end
section
set_option linter.unusedVariables false
set_option maxRecDepth 100000
namespace Go.Proofs.YtpoiijkodpnobaaGreatDoor
open Go Go.Fw
abbrev trade_any.As : Shs := (.cons (.x .s) .nil)
abbrev trade_any.m : Back := [(false, .b)]
noncomputable abbrev trade_any.H : HK := hk P G0 E0 J0 [] noLoops 4
theorem trade_any.rows : TabOK P G0 (tabF []) := rows_ok (ws := []) trivial
theorem trade_any.hok : HKOK P trade_any.H := hk_ok e0_ok j0_ok trade_any.rows (fun g n => noLoops_ok g n) 4
noncomputable def trade_any.f (a : ByteArray) : Option Bool := (some true)
theorem trade_any.ok : ∀ a : Vals trade_any.As.tys, fnK P trade_any.H (lp []) 66 trade_any.As trade_any.m a some = trade_any.f a := fun a => by kernel_rfl
noncomputable abbrev trade_any.row : Row := fnRow 66 trade_any.As trade_any.m trade_any.f
theorem trade_any.row_ok : RowOK P G0 trade_any.row := row_told trade_any.hok (lp_of (l := []) trivial) (fun _ => rfl) trade_any.ok
abbrev trade_Read.As : Shs := (.cons (.x T_api_Message) .nil)
abbrev trade_Read.m : Back := [(false, T_api_Trade), (false, (.i .i64))]
noncomputable abbrev trade_Read.H : HK := hk P G1 E0 J0 [iso_Check.row, mti_Parse.row, mti_Text.row, trade_pan.row, trade_acq.row, trade_any.row, iso_Get.row, hold_Ref.row, trade_original.row, digit_All.row, strconv_ParseInt.row] noLoops 4
theorem trade_Read.rows : TabOK P G1 (tabF [iso_Check.row, mti_Parse.row, mti_Text.row, trade_pan.row, trade_acq.row, trade_any.row, iso_Get.row, hold_Ref.row, trade_original.row, digit_All.row, strconv_ParseInt.row]) := rows_ok (ws := [iso_Check.row, mti_Parse.row, mti_Text.row, trade_pan.row, trade_acq.row, trade_any.row, iso_Get.row, hold_Ref.row, trade_original.row, digit_All.row, strconv_ParseInt.row]) ⟨iso_Check.row_ok, ⟨(mti_Parse.row_ok.more g01), ⟨(mti_Text.row_ok.more g01), ⟨(trade_pan.row_ok.more g01), ⟨(trade_acq.row_ok.more g01), ⟨(trade_any.row_ok.more g01), ⟨(iso_Get.row_ok.more g01), ⟨(hold_Ref.row_ok.more g01), ⟨(trade_original.row_ok.more g01), ⟨(digit_All.row_ok.more g01), ⟨strconv_ParseInt.row_ok, trivial⟩⟩⟩⟩⟩⟩⟩⟩⟩⟩⟩
theorem trade_Read.hok : HKOK P trade_Read.H := hk_ok e0_ok j0_ok trade_Read.rows (fun g n => noLoops_ok g n) 4
noncomputable def trade_Read.f (a : (ByteArray × (List (Int × ByteArray)))) : Option ((ByteArray × (ByteArray × (ByteArray × (Int × (ByteArray × (ByteArray × (ByteArray × (ByteArray × (ByteArray × (Int × (Int × ByteArray))))))))))) × Int) := (((iso_Check.f a)).bind fun x1 => (bif (x1 != (0 : Int)) then (some (((bs []), ((bs []), ((bs []), ((0 : Int), ((bs []), ((bs []), ((bs []), ((bs []), ((bs []), ((0 : Int), ((0 : Int), (bs [])))))))))))), (1 : Int))) else (((mti_Parse.f a.1)).bind fun x2 => (bif x2.1.2.2.1 then (some (((bs []), ((bs []), ((bs []), ((0 : Int), ((bs []), ((bs []), ((bs []), ((bs []), ((bs []), ((0 : Int), ((0 : Int), (bs [])))))))))))), (17 : Int))) else (((mti_Text.f (x2.1.1, (x2.1.2.1, (x2.1.2.2.1, false))))).bind fun x3 => (((iso_Get.f (a, (7 : Int)))).bind fun x4 => (bif (!x4.2) then (((iso_Get.f (a, (11 : Int)))).bind fun x5 => (bif (x2.1.1 == (1 : Int)) then (bif (x2.1.1 == (1 : Int)) then (((iso_Get.f (a, (2 : Int)))).bind fun x6 => (((iso_Get.f (a, (3 : Int)))).bind fun x7 => (((iso_Get.f (a, (4 : Int)))).bind fun x8 => (((strconv_ParseInt.f (x8.1, ((10 : Int), (64 : Int))))).bind fun x9 => (((iso_Get.f (a, (32 : Int)))).bind fun x10 => (((iso_Get.f (a, (37 : Int)))).bind fun x11 => (some (((bs []), ((bs []), ((bs []), ((0 : Int), ((bs []), ((bs []), ((bs []), ((bs []), ((bs []), ((0 : Int), ((0 : Int), (bs [])))))))))))), (16 : Int))))))))) else (bif (x2.1.1 == (4 : Int)) then (((iso_Get.f (a, (4 : Int)))).bind fun x6 => (((strconv_ParseInt.f (x6.1, ((10 : Int), (64 : Int))))).bind fun x7 => (((iso_Get.f (a, (32 : Int)))).bind fun x8 => (((iso_Get.f (a, (37 : Int)))).bind fun x9 => (((iso_Get.f (a, (90 : Int)))).bind fun x10 => (some (((bs []), ((bs []), ((bs []), ((0 : Int), ((bs []), ((bs []), ((bs []), ((bs []), ((bs []), ((0 : Int), ((0 : Int), (bs [])))))))))))), (16 : Int)))))))) else (bif (x2.1.1 == (5 : Int)) then (((iso_Get.f (a, (32 : Int)))).bind fun x6 => (((iso_Get.f (a, (74 : Int)))).bind fun x7 => (((strconv_ParseInt.f (x7.1, ((10 : Int), (64 : Int))))).bind fun x8 => (((iso_Get.f (a, (86 : Int)))).bind fun x9 => (((strconv_ParseInt.f (x9.1, ((10 : Int), (64 : Int))))).bind fun x10 => (some (((bs []), ((bs []), ((bs []), ((0 : Int), ((bs []), ((bs []), ((bs []), ((bs []), ((bs []), ((0 : Int), ((0 : Int), (bs [])))))))))))), (16 : Int)))))))) else (bif (x2.1.1 == (6 : Int)) then (((iso_Get.f (a, (3 : Int)))).bind fun x6 => (((iso_Get.f (a, (4 : Int)))).bind fun x7 => (((strconv_ParseInt.f (x7.1, ((10 : Int), (64 : Int))))).bind fun x8 => (((iso_Get.f (a, (32 : Int)))).bind fun x9 => (((iso_Get.f (a, (37 : Int)))).bind fun x10 => (some (((bs []), ((bs []), ((bs []), ((0 : Int), ((bs []), ((bs []), ((bs []), ((bs []), ((bs []), ((0 : Int), ((0 : Int), (bs [])))))))))))), (16 : Int)))))))) else (bif (x2.1.1 == (8 : Int)) then (((iso_Get.f (a, (70 : Int)))).bind fun x6 => (some (((bs []), ((bs []), ((bs []), ((0 : Int), ((bs []), ((bs []), ((bs []), ((bs []), ((bs []), ((0 : Int), ((0 : Int), (bs [])))))))))))), (16 : Int)))) else (some (((bs []), ((bs []), ((bs []), ((0 : Int), ((bs []), ((bs []), ((bs []), ((bs []), ((bs []), ((0 : Int), ((0 : Int), (bs [])))))))))))), (16 : Int)))))))) else (bif (x2.1.1 == (2 : Int)) then (((iso_Get.f (a, (2 : Int)))).bind fun x6 => (((iso_Get.f (a, (3 : Int)))).bind fun x7 => (((iso_Get.f (a, (4 : Int)))).bind fun x8 => (((strconv_ParseInt.f (x8.1, ((10 : Int), (64 : Int))))).bind fun x9 => (((iso_Get.f (a, (32 : Int)))).bind fun x10 => (((iso_Get.f (a, (37 : Int)))).bind fun x11 => (some (((bs []), ((bs []), ((bs []), ((0 : Int), ((bs []), ((bs []), ((bs []), ((bs []), ((bs []), ((0 : Int), ((0 : Int), (bs [])))))))))))), (16 : Int))))))))) else (bif (x2.1.1 == (4 : Int)) then (((iso_Get.f (a, (4 : Int)))).bind fun x6 => (((strconv_ParseInt.f (x6.1, ((10 : Int), (64 : Int))))).bind fun x7 => (((iso_Get.f (a, (32 : Int)))).bind fun x8 => (((iso_Get.f (a, (37 : Int)))).bind fun x9 => (((iso_Get.f (a, (90 : Int)))).bind fun x10 => (some (((bs []), ((bs []), ((bs []), ((0 : Int), ((bs []), ((bs []), ((bs []), ((bs []), ((bs []), ((0 : Int), ((0 : Int), (bs [])))))))))))), (16 : Int)))))))) else (bif (x2.1.1 == (5 : Int)) then (((iso_Get.f (a, (32 : Int)))).bind fun x6 => (((iso_Get.f (a, (74 : Int)))).bind fun x7 => (((strconv_ParseInt.f (x7.1, ((10 : Int), (64 : Int))))).bind fun x8 => (((iso_Get.f (a, (86 : Int)))).bind fun x9 => (((strconv_ParseInt.f (x9.1, ((10 : Int), (64 : Int))))).bind fun x10 => (some (((bs []), ((bs []), ((bs []), ((0 : Int), ((bs []), ((bs []), ((bs []), ((bs []), ((bs []), ((0 : Int), ((0 : Int), (bs [])))))))))))), (16 : Int)))))))) else (bif (x2.1.1 == (6 : Int)) then (((iso_Get.f (a, (3 : Int)))).bind fun x6 => (((iso_Get.f (a, (4 : Int)))).bind fun x7 => (((strconv_ParseInt.f (x7.1, ((10 : Int), (64 : Int))))).bind fun x8 => (((iso_Get.f (a, (32 : Int)))).bind fun x9 => (((iso_Get.f (a, (37 : Int)))).bind fun x10 => (some (((bs []), ((bs []), ((bs []), ((0 : Int), ((bs []), ((bs []), ((bs []), ((bs []), ((bs []), ((0 : Int), ((0 : Int), (bs [])))))))))))), (16 : Int)))))))) else (bif (x2.1.1 == (8 : Int)) then (((iso_Get.f (a, (70 : Int)))).bind fun x6 => (some (((bs []), ((bs []), ((bs []), ((0 : Int), ((bs []), ((bs []), ((bs []), ((bs []), ((bs []), ((0 : Int), ((0 : Int), (bs [])))))))))))), (16 : Int)))) else (some (((bs []), ((bs []), ((bs []), ((0 : Int), ((bs []), ((bs []), ((bs []), ((bs []), ((bs []), ((0 : Int), ((0 : Int), (bs [])))))))))))), (16 : Int)))))))))) else (((iso_Get.f (a, (11 : Int)))).bind fun x5 => (bif (!x5.2) then (bif (x2.1.1 == (1 : Int)) then (bif (x2.1.1 == (1 : Int)) then (((iso_Get.f (a, (2 : Int)))).bind fun x6 => (((iso_Get.f (a, (3 : Int)))).bind fun x7 => (((iso_Get.f (a, (4 : Int)))).bind fun x8 => (((strconv_ParseInt.f (x8.1, ((10 : Int), (64 : Int))))).bind fun x9 => (((iso_Get.f (a, (32 : Int)))).bind fun x10 => (((iso_Get.f (a, (37 : Int)))).bind fun x11 => (some (((bs []), ((bs []), ((bs []), ((0 : Int), ((bs []), ((bs []), ((bs []), ((bs []), ((bs []), ((0 : Int), ((0 : Int), (bs [])))))))))))), (16 : Int))))))))) else (bif (x2.1.1 == (4 : Int)) then (((iso_Get.f (a, (4 : Int)))).bind fun x6 => (((strconv_ParseInt.f (x6.1, ((10 : Int), (64 : Int))))).bind fun x7 => (((iso_Get.f (a, (32 : Int)))).bind fun x8 => (((iso_Get.f (a, (37 : Int)))).bind fun x9 => (((iso_Get.f (a, (90 : Int)))).bind fun x10 => (some (((bs []), ((bs []), ((bs []), ((0 : Int), ((bs []), ((bs []), ((bs []), ((bs []), ((bs []), ((0 : Int), ((0 : Int), (bs [])))))))))))), (16 : Int)))))))) else (bif (x2.1.1 == (5 : Int)) then (((iso_Get.f (a, (32 : Int)))).bind fun x6 => (((iso_Get.f (a, (74 : Int)))).bind fun x7 => (((strconv_ParseInt.f (x7.1, ((10 : Int), (64 : Int))))).bind fun x8 => (((iso_Get.f (a, (86 : Int)))).bind fun x9 => (((strconv_ParseInt.f (x9.1, ((10 : Int), (64 : Int))))).bind fun x10 => (some (((bs []), ((bs []), ((bs []), ((0 : Int), ((bs []), ((bs []), ((bs []), ((bs []), ((bs []), ((0 : Int), ((0 : Int), (bs [])))))))))))), (16 : Int)))))))) else (bif (x2.1.1 == (6 : Int)) then (((iso_Get.f (a, (3 : Int)))).bind fun x6 => (((iso_Get.f (a, (4 : Int)))).bind fun x7 => (((strconv_ParseInt.f (x7.1, ((10 : Int), (64 : Int))))).bind fun x8 => (((iso_Get.f (a, (32 : Int)))).bind fun x9 => (((iso_Get.f (a, (37 : Int)))).bind fun x10 => (some (((bs []), ((bs []), ((bs []), ((0 : Int), ((bs []), ((bs []), ((bs []), ((bs []), ((bs []), ((0 : Int), ((0 : Int), (bs [])))))))))))), (16 : Int)))))))) else (bif (x2.1.1 == (8 : Int)) then (((iso_Get.f (a, (70 : Int)))).bind fun x6 => (some (((bs []), ((bs []), ((bs []), ((0 : Int), ((bs []), ((bs []), ((bs []), ((bs []), ((bs []), ((0 : Int), ((0 : Int), (bs [])))))))))))), (16 : Int)))) else (some (((bs []), ((bs []), ((bs []), ((0 : Int), ((bs []), ((bs []), ((bs []), ((bs []), ((bs []), ((0 : Int), ((0 : Int), (bs [])))))))))))), (16 : Int)))))))) else (bif (x2.1.1 == (2 : Int)) then (((iso_Get.f (a, (2 : Int)))).bind fun x6 => (((iso_Get.f (a, (3 : Int)))).bind fun x7 => (((iso_Get.f (a, (4 : Int)))).bind fun x8 => (((strconv_ParseInt.f (x8.1, ((10 : Int), (64 : Int))))).bind fun x9 => (((iso_Get.f (a, (32 : Int)))).bind fun x10 => (((iso_Get.f (a, (37 : Int)))).bind fun x11 => (some (((bs []), ((bs []), ((bs []), ((0 : Int), ((bs []), ((bs []), ((bs []), ((bs []), ((bs []), ((0 : Int), ((0 : Int), (bs [])))))))))))), (16 : Int))))))))) else (bif (x2.1.1 == (4 : Int)) then (((iso_Get.f (a, (4 : Int)))).bind fun x6 => (((strconv_ParseInt.f (x6.1, ((10 : Int), (64 : Int))))).bind fun x7 => (((iso_Get.f (a, (32 : Int)))).bind fun x8 => (((iso_Get.f (a, (37 : Int)))).bind fun x9 => (((iso_Get.f (a, (90 : Int)))).bind fun x10 => (some (((bs []), ((bs []), ((bs []), ((0 : Int), ((bs []), ((bs []), ((bs []), ((bs []), ((bs []), ((0 : Int), ((0 : Int), (bs [])))))))))))), (16 : Int)))))))) else (bif (x2.1.1 == (5 : Int)) then (((iso_Get.f (a, (32 : Int)))).bind fun x6 => (((iso_Get.f (a, (74 : Int)))).bind fun x7 => (((strconv_ParseInt.f (x7.1, ((10 : Int), (64 : Int))))).bind fun x8 => (((iso_Get.f (a, (86 : Int)))).bind fun x9 => (((strconv_ParseInt.f (x9.1, ((10 : Int), (64 : Int))))).bind fun x10 => (some (((bs []), ((bs []), ((bs []), ((0 : Int), ((bs []), ((bs []), ((bs []), ((bs []), ((bs []), ((0 : Int), ((0 : Int), (bs [])))))))))))), (16 : Int)))))))) else (bif (x2.1.1 == (6 : Int)) then (((iso_Get.f (a, (3 : Int)))).bind fun x6 => (((iso_Get.f (a, (4 : Int)))).bind fun x7 => (((strconv_ParseInt.f (x7.1, ((10 : Int), (64 : Int))))).bind fun x8 => (((iso_Get.f (a, (32 : Int)))).bind fun x9 => (((iso_Get.f (a, (37 : Int)))).bind fun x10 => (some (((bs []), ((bs []), ((bs []), ((0 : Int), ((bs []), ((bs []), ((bs []), ((bs []), ((bs []), ((0 : Int), ((0 : Int), (bs [])))))))))))), (16 : Int)))))))) else (bif (x2.1.1 == (8 : Int)) then (((iso_Get.f (a, (70 : Int)))).bind fun x6 => (some (((bs []), ((bs []), ((bs []), ((0 : Int), ((bs []), ((bs []), ((bs []), ((bs []), ((bs []), ((0 : Int), ((0 : Int), (bs [])))))))))))), (16 : Int)))) else (some (((bs []), ((bs []), ((bs []), ((0 : Int), ((bs []), ((bs []), ((bs []), ((bs []), ((bs []), ((0 : Int), ((0 : Int), (bs [])))))))))))), (16 : Int))))))))) else (bif (x2.1.1 == (1 : Int)) then (bif (x2.1.1 == (1 : Int)) then (((iso_Get.f (a, (2 : Int)))).bind fun x6 => (bif (!x6.2) then (((iso_Get.f (a, (3 : Int)))).bind fun x7 => (((iso_Get.f (a, (4 : Int)))).bind fun x8 => (((strconv_ParseInt.f (x8.1, ((10 : Int), (64 : Int))))).bind fun x9 => (((iso_Get.f (a, (32 : Int)))).bind fun x10 => (((iso_Get.f (a, (37 : Int)))).bind fun x11 => (some (((bs []), ((bs []), ((bs []), ((0 : Int), ((bs []), ((bs []), ((bs []), ((bs []), ((bs []), ((0 : Int), ((0 : Int), (bs [])))))))))))), (16 : Int)))))))) else (((trade_pan.f x6.1)).bind fun x7 => (((iso_Get.f (a, (3 : Int)))).bind fun x8 => (bif (!x7) then (((iso_Get.f (a, (4 : Int)))).bind fun x9 => (((strconv_ParseInt.f (x9.1, ((10 : Int), (64 : Int))))).bind fun x10 => (((iso_Get.f (a, (32 : Int)))).bind fun x11 => (((iso_Get.f (a, (37 : Int)))).bind fun x12 => (some (((bs []), ((bs []), ((bs []), ((0 : Int), ((bs []), ((bs []), ((bs []), ((bs []), ((bs []), ((0 : Int), ((0 : Int), (bs [])))))))))))), (16 : Int))))))) else (bif (!x8.2) then (((iso_Get.f (a, (4 : Int)))).bind fun x9 => (((strconv_ParseInt.f (x9.1, ((10 : Int), (64 : Int))))).bind fun x10 => (((iso_Get.f (a, (32 : Int)))).bind fun x11 => (((iso_Get.f (a, (37 : Int)))).bind fun x12 => (some (((bs []), ((bs []), ((bs []), ((0 : Int), ((bs []), ((bs []), ((bs []), ((bs []), ((bs []), ((0 : Int), ((0 : Int), (bs [])))))))))))), (16 : Int))))))) else (((iso_Get.f (a, (4 : Int)))).bind fun x9 => (bif (!x9.2) then (((strconv_ParseInt.f (x9.1, ((10 : Int), (64 : Int))))).bind fun x10 => (((iso_Get.f (a, (32 : Int)))).bind fun x11 => (((iso_Get.f (a, (37 : Int)))).bind fun x12 => (some (((bs []), ((bs []), ((bs []), ((0 : Int), ((bs []), ((bs []), ((bs []), ((bs []), ((bs []), ((0 : Int), ((0 : Int), (bs [])))))))))))), (16 : Int)))))) else (((digit_All.f x9.1)).bind fun x10 => (((strconv_ParseInt.f (x9.1, ((10 : Int), (64 : Int))))).bind fun x11 => (bif (!x10) then (((iso_Get.f (a, (32 : Int)))).bind fun x12 => (((iso_Get.f (a, (37 : Int)))).bind fun x13 => (some (((bs []), ((bs []), ((bs []), ((0 : Int), ((bs []), ((bs []), ((bs []), ((bs []), ((bs []), ((0 : Int), ((0 : Int), (bs [])))))))))))), (16 : Int))))) else (bif (!(!x11.2)) then (((iso_Get.f (a, (32 : Int)))).bind fun x12 => (((iso_Get.f (a, (37 : Int)))).bind fun x13 => (some (((bs []), ((bs []), ((bs []), ((0 : Int), ((bs []), ((bs []), ((bs []), ((bs []), ((bs []), ((0 : Int), ((0 : Int), (bs [])))))))))))), (16 : Int))))) else (((iso_Get.f (a, (32 : Int)))).bind fun x12 => (bif (decide ((x11.1 < (1 : Int)))) then (((iso_Get.f (a, (37 : Int)))).bind fun x13 => (some (((bs []), ((bs []), ((bs []), ((0 : Int), ((bs []), ((bs []), ((bs []), ((bs []), ((bs []), ((0 : Int), ((0 : Int), (bs [])))))))))))), (16 : Int)))) else (bif (!x12.2) then (((iso_Get.f (a, (37 : Int)))).bind fun x13 => (some (((bs []), ((bs []), ((bs []), ((0 : Int), ((bs []), ((bs []), ((bs []), ((bs []), ((bs []), ((0 : Int), ((0 : Int), (bs [])))))))))))), (16 : Int)))) else (((trade_acq.f x12.1)).bind fun x13 => (((iso_Get.f (a, (37 : Int)))).bind fun x14 => (bif (!x13) then (some (((bs []), ((bs []), ((bs []), ((0 : Int), ((bs []), ((bs []), ((bs []), ((bs []), ((bs []), ((0 : Int), ((0 : Int), (bs [])))))))))))), (16 : Int))) else (bif (!x14.2) then (some (((bs []), ((bs []), ((bs []), ((0 : Int), ((bs []), ((bs []), ((bs []), ((bs []), ((bs []), ((0 : Int), ((0 : Int), (bs [])))))))))))), (16 : Int))) else (((hold_Ref.f x14.1)).bind fun x15 => (bif (!x15) then (some (((bs []), ((bs []), ((bs []), ((0 : Int), ((bs []), ((bs []), ((bs []), ((bs []), ((bs []), ((0 : Int), ((0 : Int), (bs [])))))))))))), (16 : Int))) else (some ((x3.1, (x6.1, (x8.1, (x11.1, (x4.1, (x5.1, (x12.1, (x14.1, ((bs []), ((0 : Int), ((0 : Int), (bs [])))))))))))), (0 : Int)))))))))))))))))))))))) else (bif (x2.1.1 == (4 : Int)) then (((iso_Get.f (a, (4 : Int)))).bind fun x6 => (bif (!x6.2) then (((strconv_ParseInt.f (x6.1, ((10 : Int), (64 : Int))))).bind fun x7 => (((iso_Get.f (a, (32 : Int)))).bind fun x8 => (((iso_Get.f (a, (37 : Int)))).bind fun x9 => (((iso_Get.f (a, (90 : Int)))).bind fun x10 => (some (((bs []), ((bs []), ((bs []), ((0 : Int), ((bs []), ((bs []), ((bs []), ((bs []), ((bs []), ((0 : Int), ((0 : Int), (bs [])))))))))))), (16 : Int))))))) else (((digit_All.f x6.1)).bind fun x7 => (((strconv_ParseInt.f (x6.1, ((10 : Int), (64 : Int))))).bind fun x8 => (bif (!x7) then (((iso_Get.f (a, (32 : Int)))).bind fun x9 => (((iso_Get.f (a, (37 : Int)))).bind fun x10 => (((iso_Get.f (a, (90 : Int)))).bind fun x11 => (some (((bs []), ((bs []), ((bs []), ((0 : Int), ((bs []), ((bs []), ((bs []), ((bs []), ((bs []), ((0 : Int), ((0 : Int), (bs [])))))))))))), (16 : Int)))))) else (bif (!(!x8.2)) then (((iso_Get.f (a, (32 : Int)))).bind fun x9 => (((iso_Get.f (a, (37 : Int)))).bind fun x10 => (((iso_Get.f (a, (90 : Int)))).bind fun x11 => (some (((bs []), ((bs []), ((bs []), ((0 : Int), ((bs []), ((bs []), ((bs []), ((bs []), ((bs []), ((0 : Int), ((0 : Int), (bs [])))))))))))), (16 : Int)))))) else (((iso_Get.f (a, (32 : Int)))).bind fun x9 => (bif (decide ((x8.1 < (0 : Int)))) then (((iso_Get.f (a, (37 : Int)))).bind fun x10 => (((iso_Get.f (a, (90 : Int)))).bind fun x11 => (some (((bs []), ((bs []), ((bs []), ((0 : Int), ((bs []), ((bs []), ((bs []), ((bs []), ((bs []), ((0 : Int), ((0 : Int), (bs [])))))))))))), (16 : Int))))) else (bif (!x9.2) then (((iso_Get.f (a, (37 : Int)))).bind fun x10 => (((iso_Get.f (a, (90 : Int)))).bind fun x11 => (some (((bs []), ((bs []), ((bs []), ((0 : Int), ((bs []), ((bs []), ((bs []), ((bs []), ((bs []), ((0 : Int), ((0 : Int), (bs [])))))))))))), (16 : Int))))) else (((trade_acq.f x9.1)).bind fun x10 => (((iso_Get.f (a, (37 : Int)))).bind fun x11 => (bif (!x10) then (((iso_Get.f (a, (90 : Int)))).bind fun x12 => (some (((bs []), ((bs []), ((bs []), ((0 : Int), ((bs []), ((bs []), ((bs []), ((bs []), ((bs []), ((0 : Int), ((0 : Int), (bs [])))))))))))), (16 : Int)))) else (bif (!x11.2) then (((iso_Get.f (a, (90 : Int)))).bind fun x12 => (some (((bs []), ((bs []), ((bs []), ((0 : Int), ((bs []), ((bs []), ((bs []), ((bs []), ((bs []), ((0 : Int), ((0 : Int), (bs [])))))))))))), (16 : Int)))) else (((hold_Ref.f x11.1)).bind fun x12 => (((iso_Get.f (a, (90 : Int)))).bind fun x13 => (bif (!x12) then (some (((bs []), ((bs []), ((bs []), ((0 : Int), ((bs []), ((bs []), ((bs []), ((bs []), ((bs []), ((0 : Int), ((0 : Int), (bs [])))))))))))), (16 : Int))) else (bif (!x13.2) then (some (((bs []), ((bs []), ((bs []), ((0 : Int), ((bs []), ((bs []), ((bs []), ((bs []), ((bs []), ((0 : Int), ((0 : Int), (bs [])))))))))))), (16 : Int))) else (bif (!((ByteArray.toList x13.1) == [])) then (((trade_original.f x13.1)).bind fun x14 => (bif (!(!x14)) then (bif (true && (decide (((2 : Int) ≤ (x13.1.size : Int))))) then (bif (true && (decide (((10 : Int) ≤ (x13.1.size : Int))))) then (bif (Nat.ble ((ByteArray.extract x13.1 1 2).size + (ByteArray.extract x13.1 4 10).size) 9223372036854775807) then (bif (Nat.ble (((ByteArray.extract x13.1 1 2) ++ (ByteArray.extract x13.1 4 10)).size + x11.1.size) 9223372036854775807) then (bif (Nat.ble ((((ByteArray.extract x13.1 1 2) ++ (ByteArray.extract x13.1 4 10)) ++ x11.1).size + x9.1.size) 9223372036854775807) then (bif (true && (decide (((20 : Int) ≤ (x13.1.size : Int))))) then (bif (Nat.ble (((((ByteArray.extract x13.1 1 2) ++ (ByteArray.extract x13.1 4 10)) ++ x11.1) ++ x9.1).size + (ByteArray.extract x13.1 10 20).size) 9223372036854775807) then (bif (!x14) then (some (((bs []), ((bs []), ((bs []), ((0 : Int), ((bs []), ((bs []), ((bs []), ((bs []), ((bs []), ((0 : Int), ((0 : Int), (bs [])))))))))))), (16 : Int))) else (some ((x3.1, ((bs []), ((bs []), (x8.1, (x4.1, (x5.1, (x9.1, (x11.1, ((((((ByteArray.extract x13.1 1 2) ++ (ByteArray.extract x13.1 4 10)) ++ x11.1) ++ x9.1) ++ (ByteArray.extract x13.1 10 20)), ((0 : Int), ((0 : Int), (bs [])))))))))))), (0 : Int)))) else none) else none) else none) else none) else none) else none) else none) else (bif (!x14) then (some (((bs []), ((bs []), ((bs []), ((0 : Int), ((bs []), ((bs []), ((bs []), ((bs []), ((bs []), ((0 : Int), ((0 : Int), (bs [])))))))))))), (16 : Int))) else (some ((x3.1, ((bs []), ((bs []), (x8.1, (x4.1, (x5.1, (x9.1, (x11.1, ((bs []), ((0 : Int), ((0 : Int), (bs [])))))))))))), (0 : Int)))))) else (some (((bs []), ((bs []), ((bs []), ((0 : Int), ((bs []), ((bs []), ((bs []), ((bs []), ((bs []), ((0 : Int), ((0 : Int), (bs [])))))))))))), (16 : Int))))))))))))))))))))) else (bif (x2.1.1 == (5 : Int)) then (((iso_Get.f (a, (32 : Int)))).bind fun x6 => (bif (!x6.2) then (((iso_Get.f (a, (74 : Int)))).bind fun x7 => (((strconv_ParseInt.f (x7.1, ((10 : Int), (64 : Int))))).bind fun x8 => (((iso_Get.f (a, (86 : Int)))).bind fun x9 => (((strconv_ParseInt.f (x9.1, ((10 : Int), (64 : Int))))).bind fun x10 => (some (((bs []), ((bs []), ((bs []), ((0 : Int), ((bs []), ((bs []), ((bs []), ((bs []), ((bs []), ((0 : Int), ((0 : Int), (bs [])))))))))))), (16 : Int))))))) else (((trade_acq.f x6.1)).bind fun x7 => (((iso_Get.f (a, (74 : Int)))).bind fun x8 => (bif (!x7) then (((strconv_ParseInt.f (x8.1, ((10 : Int), (64 : Int))))).bind fun x9 => (((iso_Get.f (a, (86 : Int)))).bind fun x10 => (((strconv_ParseInt.f (x10.1, ((10 : Int), (64 : Int))))).bind fun x11 => (some (((bs []), ((bs []), ((bs []), ((0 : Int), ((bs []), ((bs []), ((bs []), ((bs []), ((bs []), ((0 : Int), ((0 : Int), (bs [])))))))))))), (16 : Int)))))) else (bif (!x8.2) then (((strconv_ParseInt.f (x8.1, ((10 : Int), (64 : Int))))).bind fun x9 => (((iso_Get.f (a, (86 : Int)))).bind fun x10 => (((strconv_ParseInt.f (x10.1, ((10 : Int), (64 : Int))))).bind fun x11 => (some (((bs []), ((bs []), ((bs []), ((0 : Int), ((bs []), ((bs []), ((bs []), ((bs []), ((bs []), ((0 : Int), ((0 : Int), (bs [])))))))))))), (16 : Int)))))) else (((digit_All.f x8.1)).bind fun x9 => (((strconv_ParseInt.f (x8.1, ((10 : Int), (64 : Int))))).bind fun x10 => (bif (!x9) then (((iso_Get.f (a, (86 : Int)))).bind fun x11 => (((strconv_ParseInt.f (x11.1, ((10 : Int), (64 : Int))))).bind fun x12 => (some (((bs []), ((bs []), ((bs []), ((0 : Int), ((bs []), ((bs []), ((bs []), ((bs []), ((bs []), ((0 : Int), ((0 : Int), (bs [])))))))))))), (16 : Int))))) else (bif (!(!x10.2)) then (((iso_Get.f (a, (86 : Int)))).bind fun x11 => (((strconv_ParseInt.f (x11.1, ((10 : Int), (64 : Int))))).bind fun x12 => (some (((bs []), ((bs []), ((bs []), ((0 : Int), ((bs []), ((bs []), ((bs []), ((bs []), ((bs []), ((0 : Int), ((0 : Int), (bs [])))))))))))), (16 : Int))))) else (((iso_Get.f (a, (86 : Int)))).bind fun x11 => (bif (decide ((x10.1 < (0 : Int)))) then (((strconv_ParseInt.f (x11.1, ((10 : Int), (64 : Int))))).bind fun x12 => (some (((bs []), ((bs []), ((bs []), ((0 : Int), ((bs []), ((bs []), ((bs []), ((bs []), ((bs []), ((0 : Int), ((0 : Int), (bs [])))))))))))), (16 : Int)))) else (bif (!x11.2) then (((strconv_ParseInt.f (x11.1, ((10 : Int), (64 : Int))))).bind fun x12 => (some (((bs []), ((bs []), ((bs []), ((0 : Int), ((bs []), ((bs []), ((bs []), ((bs []), ((bs []), ((0 : Int), ((0 : Int), (bs [])))))))))))), (16 : Int)))) else (((digit_All.f x11.1)).bind fun x12 => (((strconv_ParseInt.f (x11.1, ((10 : Int), (64 : Int))))).bind fun x13 => (bif (!x12) then (some (((bs []), ((bs []), ((bs []), ((0 : Int), ((bs []), ((bs []), ((bs []), ((bs []), ((bs []), ((0 : Int), ((0 : Int), (bs [])))))))))))), (16 : Int))) else (bif (!(!x13.2)) then (some (((bs []), ((bs []), ((bs []), ((0 : Int), ((bs []), ((bs []), ((bs []), ((bs []), ((bs []), ((0 : Int), ((0 : Int), (bs [])))))))))))), (16 : Int))) else (bif (decide ((x13.1 < (0 : Int)))) then (some (((bs []), ((bs []), ((bs []), ((0 : Int), ((bs []), ((bs []), ((bs []), ((bs []), ((bs []), ((0 : Int), ((0 : Int), (bs [])))))))))))), (16 : Int))) else (some ((x3.1, ((bs []), ((bs []), ((0 : Int), (x4.1, (x5.1, (x6.1, ((bs []), ((bs []), (x10.1, (x13.1, (bs [])))))))))))), (0 : Int))))))))))))))))))))) else (bif (x2.1.1 == (6 : Int)) then (((iso_Get.f (a, (3 : Int)))).bind fun x6 => (bif (!x6.2) then (((iso_Get.f (a, (4 : Int)))).bind fun x7 => (((strconv_ParseInt.f (x7.1, ((10 : Int), (64 : Int))))).bind fun x8 => (((iso_Get.f (a, (32 : Int)))).bind fun x9 => (((iso_Get.f (a, (37 : Int)))).bind fun x10 => (some (((bs []), ((bs []), ((bs []), ((0 : Int), ((bs []), ((bs []), ((bs []), ((bs []), ((bs []), ((0 : Int), ((0 : Int), (bs [])))))))))))), (16 : Int))))))) else (((iso_Get.f (a, (4 : Int)))).bind fun x7 => (bif (!x7.2) then (((strconv_ParseInt.f (x7.1, ((10 : Int), (64 : Int))))).bind fun x8 => (((iso_Get.f (a, (32 : Int)))).bind fun x9 => (((iso_Get.f (a, (37 : Int)))).bind fun x10 => (some (((bs []), ((bs []), ((bs []), ((0 : Int), ((bs []), ((bs []), ((bs []), ((bs []), ((bs []), ((0 : Int), ((0 : Int), (bs [])))))))))))), (16 : Int)))))) else (((digit_All.f x7.1)).bind fun x8 => (((strconv_ParseInt.f (x7.1, ((10 : Int), (64 : Int))))).bind fun x9 => (bif (!x8) then (((iso_Get.f (a, (32 : Int)))).bind fun x10 => (((iso_Get.f (a, (37 : Int)))).bind fun x11 => (some (((bs []), ((bs []), ((bs []), ((0 : Int), ((bs []), ((bs []), ((bs []), ((bs []), ((bs []), ((0 : Int), ((0 : Int), (bs [])))))))))))), (16 : Int))))) else (bif (!(!x9.2)) then (((iso_Get.f (a, (32 : Int)))).bind fun x10 => (((iso_Get.f (a, (37 : Int)))).bind fun x11 => (some (((bs []), ((bs []), ((bs []), ((0 : Int), ((bs []), ((bs []), ((bs []), ((bs []), ((bs []), ((0 : Int), ((0 : Int), (bs [])))))))))))), (16 : Int))))) else (((iso_Get.f (a, (32 : Int)))).bind fun x10 => (bif (decide ((x9.1 < (1 : Int)))) then (((iso_Get.f (a, (37 : Int)))).bind fun x11 => (some (((bs []), ((bs []), ((bs []), ((0 : Int), ((bs []), ((bs []), ((bs []), ((bs []), ((bs []), ((0 : Int), ((0 : Int), (bs [])))))))))))), (16 : Int)))) else (bif (!x10.2) then (((iso_Get.f (a, (37 : Int)))).bind fun x11 => (some (((bs []), ((bs []), ((bs []), ((0 : Int), ((bs []), ((bs []), ((bs []), ((bs []), ((bs []), ((0 : Int), ((0 : Int), (bs [])))))))))))), (16 : Int)))) else (((trade_acq.f x10.1)).bind fun x11 => (((iso_Get.f (a, (37 : Int)))).bind fun x12 => (bif (!x11) then (some (((bs []), ((bs []), ((bs []), ((0 : Int), ((bs []), ((bs []), ((bs []), ((bs []), ((bs []), ((0 : Int), ((0 : Int), (bs [])))))))))))), (16 : Int))) else (bif (!x12.2) then (some (((bs []), ((bs []), ((bs []), ((0 : Int), ((bs []), ((bs []), ((bs []), ((bs []), ((bs []), ((0 : Int), ((0 : Int), (bs [])))))))))))), (16 : Int))) else (((hold_Ref.f x12.1)).bind fun x13 => (bif (!x13) then (some (((bs []), ((bs []), ((bs []), ((0 : Int), ((bs []), ((bs []), ((bs []), ((bs []), ((bs []), ((0 : Int), ((0 : Int), (bs [])))))))))))), (16 : Int))) else (some ((x3.1, ((bs []), (x6.1, (x9.1, (x4.1, (x5.1, (x10.1, (x12.1, ((bs []), ((0 : Int), ((0 : Int), (bs [])))))))))))), (0 : Int)))))))))))))))))))) else (bif (x2.1.1 == (8 : Int)) then (((iso_Get.f (a, (70 : Int)))).bind fun x6 => (bif (!x6.2) then (some (((bs []), ((bs []), ((bs []), ((0 : Int), ((bs []), ((bs []), ((bs []), ((bs []), ((bs []), ((0 : Int), ((0 : Int), (bs [])))))))))))), (16 : Int))) else (some ((x3.1, ((bs []), ((bs []), ((0 : Int), (x4.1, (x5.1, ((bs []), ((bs []), ((bs []), ((0 : Int), ((0 : Int), x6.1))))))))))), (0 : Int))))) else (some ((x3.1, ((bs []), ((bs []), ((0 : Int), (x4.1, (x5.1, ((bs []), ((bs []), ((bs []), ((0 : Int), ((0 : Int), (bs [])))))))))))), (0 : Int)))))))) else (bif (x2.1.1 == (2 : Int)) then (((iso_Get.f (a, (2 : Int)))).bind fun x6 => (bif (!x6.2) then (((iso_Get.f (a, (3 : Int)))).bind fun x7 => (((iso_Get.f (a, (4 : Int)))).bind fun x8 => (((strconv_ParseInt.f (x8.1, ((10 : Int), (64 : Int))))).bind fun x9 => (((iso_Get.f (a, (32 : Int)))).bind fun x10 => (((iso_Get.f (a, (37 : Int)))).bind fun x11 => (some (((bs []), ((bs []), ((bs []), ((0 : Int), ((bs []), ((bs []), ((bs []), ((bs []), ((bs []), ((0 : Int), ((0 : Int), (bs [])))))))))))), (16 : Int)))))))) else (((trade_pan.f x6.1)).bind fun x7 => (((iso_Get.f (a, (3 : Int)))).bind fun x8 => (bif (!x7) then (((iso_Get.f (a, (4 : Int)))).bind fun x9 => (((strconv_ParseInt.f (x9.1, ((10 : Int), (64 : Int))))).bind fun x10 => (((iso_Get.f (a, (32 : Int)))).bind fun x11 => (((iso_Get.f (a, (37 : Int)))).bind fun x12 => (some (((bs []), ((bs []), ((bs []), ((0 : Int), ((bs []), ((bs []), ((bs []), ((bs []), ((bs []), ((0 : Int), ((0 : Int), (bs [])))))))))))), (16 : Int))))))) else (bif (!x8.2) then (((iso_Get.f (a, (4 : Int)))).bind fun x9 => (((strconv_ParseInt.f (x9.1, ((10 : Int), (64 : Int))))).bind fun x10 => (((iso_Get.f (a, (32 : Int)))).bind fun x11 => (((iso_Get.f (a, (37 : Int)))).bind fun x12 => (some (((bs []), ((bs []), ((bs []), ((0 : Int), ((bs []), ((bs []), ((bs []), ((bs []), ((bs []), ((0 : Int), ((0 : Int), (bs [])))))))))))), (16 : Int))))))) else (((iso_Get.f (a, (4 : Int)))).bind fun x9 => (bif (!x9.2) then (((strconv_ParseInt.f (x9.1, ((10 : Int), (64 : Int))))).bind fun x10 => (((iso_Get.f (a, (32 : Int)))).bind fun x11 => (((iso_Get.f (a, (37 : Int)))).bind fun x12 => (some (((bs []), ((bs []), ((bs []), ((0 : Int), ((bs []), ((bs []), ((bs []), ((bs []), ((bs []), ((0 : Int), ((0 : Int), (bs [])))))))))))), (16 : Int)))))) else (((digit_All.f x9.1)).bind fun x10 => (((strconv_ParseInt.f (x9.1, ((10 : Int), (64 : Int))))).bind fun x11 => (bif (!x10) then (((iso_Get.f (a, (32 : Int)))).bind fun x12 => (((iso_Get.f (a, (37 : Int)))).bind fun x13 => (some (((bs []), ((bs []), ((bs []), ((0 : Int), ((bs []), ((bs []), ((bs []), ((bs []), ((bs []), ((0 : Int), ((0 : Int), (bs [])))))))))))), (16 : Int))))) else (bif (!(!x11.2)) then (((iso_Get.f (a, (32 : Int)))).bind fun x12 => (((iso_Get.f (a, (37 : Int)))).bind fun x13 => (some (((bs []), ((bs []), ((bs []), ((0 : Int), ((bs []), ((bs []), ((bs []), ((bs []), ((bs []), ((0 : Int), ((0 : Int), (bs [])))))))))))), (16 : Int))))) else (((iso_Get.f (a, (32 : Int)))).bind fun x12 => (bif (decide ((x11.1 < (1 : Int)))) then (((iso_Get.f (a, (37 : Int)))).bind fun x13 => (some (((bs []), ((bs []), ((bs []), ((0 : Int), ((bs []), ((bs []), ((bs []), ((bs []), ((bs []), ((0 : Int), ((0 : Int), (bs [])))))))))))), (16 : Int)))) else (bif (!x12.2) then (((iso_Get.f (a, (37 : Int)))).bind fun x13 => (some (((bs []), ((bs []), ((bs []), ((0 : Int), ((bs []), ((bs []), ((bs []), ((bs []), ((bs []), ((0 : Int), ((0 : Int), (bs [])))))))))))), (16 : Int)))) else (((trade_acq.f x12.1)).bind fun x13 => (((iso_Get.f (a, (37 : Int)))).bind fun x14 => (bif (!x13) then (some (((bs []), ((bs []), ((bs []), ((0 : Int), ((bs []), ((bs []), ((bs []), ((bs []), ((bs []), ((0 : Int), ((0 : Int), (bs [])))))))))))), (16 : Int))) else (bif (!x14.2) then (some (((bs []), ((bs []), ((bs []), ((0 : Int), ((bs []), ((bs []), ((bs []), ((bs []), ((bs []), ((0 : Int), ((0 : Int), (bs [])))))))))))), (16 : Int))) else (((hold_Ref.f x14.1)).bind fun x15 => (bif (!x15) then (some (((bs []), ((bs []), ((bs []), ((0 : Int), ((bs []), ((bs []), ((bs []), ((bs []), ((bs []), ((0 : Int), ((0 : Int), (bs [])))))))))))), (16 : Int))) else (some ((x3.1, (x6.1, (x8.1, (x11.1, (x4.1, (x5.1, (x12.1, (x14.1, ((bs []), ((0 : Int), ((0 : Int), (bs [])))))))))))), (0 : Int)))))))))))))))))))))))) else (bif (x2.1.1 == (4 : Int)) then (((iso_Get.f (a, (4 : Int)))).bind fun x6 => (bif (!x6.2) then (((strconv_ParseInt.f (x6.1, ((10 : Int), (64 : Int))))).bind fun x7 => (((iso_Get.f (a, (32 : Int)))).bind fun x8 => (((iso_Get.f (a, (37 : Int)))).bind fun x9 => (((iso_Get.f (a, (90 : Int)))).bind fun x10 => (some (((bs []), ((bs []), ((bs []), ((0 : Int), ((bs []), ((bs []), ((bs []), ((bs []), ((bs []), ((0 : Int), ((0 : Int), (bs [])))))))))))), (16 : Int))))))) else (((digit_All.f x6.1)).bind fun x7 => (((strconv_ParseInt.f (x6.1, ((10 : Int), (64 : Int))))).bind fun x8 => (bif (!x7) then (((iso_Get.f (a, (32 : Int)))).bind fun x9 => (((iso_Get.f (a, (37 : Int)))).bind fun x10 => (((iso_Get.f (a, (90 : Int)))).bind fun x11 => (some (((bs []), ((bs []), ((bs []), ((0 : Int), ((bs []), ((bs []), ((bs []), ((bs []), ((bs []), ((0 : Int), ((0 : Int), (bs [])))))))))))), (16 : Int)))))) else (bif (!(!x8.2)) then (((iso_Get.f (a, (32 : Int)))).bind fun x9 => (((iso_Get.f (a, (37 : Int)))).bind fun x10 => (((iso_Get.f (a, (90 : Int)))).bind fun x11 => (some (((bs []), ((bs []), ((bs []), ((0 : Int), ((bs []), ((bs []), ((bs []), ((bs []), ((bs []), ((0 : Int), ((0 : Int), (bs [])))))))))))), (16 : Int)))))) else (((iso_Get.f (a, (32 : Int)))).bind fun x9 => (bif (decide ((x8.1 < (0 : Int)))) then (((iso_Get.f (a, (37 : Int)))).bind fun x10 => (((iso_Get.f (a, (90 : Int)))).bind fun x11 => (some (((bs []), ((bs []), ((bs []), ((0 : Int), ((bs []), ((bs []), ((bs []), ((bs []), ((bs []), ((0 : Int), ((0 : Int), (bs [])))))))))))), (16 : Int))))) else (bif (!x9.2) then (((iso_Get.f (a, (37 : Int)))).bind fun x10 => (((iso_Get.f (a, (90 : Int)))).bind fun x11 => (some (((bs []), ((bs []), ((bs []), ((0 : Int), ((bs []), ((bs []), ((bs []), ((bs []), ((bs []), ((0 : Int), ((0 : Int), (bs [])))))))))))), (16 : Int))))) else (((trade_acq.f x9.1)).bind fun x10 => (((iso_Get.f (a, (37 : Int)))).bind fun x11 => (bif (!x10) then (((iso_Get.f (a, (90 : Int)))).bind fun x12 => (some (((bs []), ((bs []), ((bs []), ((0 : Int), ((bs []), ((bs []), ((bs []), ((bs []), ((bs []), ((0 : Int), ((0 : Int), (bs [])))))))))))), (16 : Int)))) else (bif (!x11.2) then (((iso_Get.f (a, (90 : Int)))).bind fun x12 => (some (((bs []), ((bs []), ((bs []), ((0 : Int), ((bs []), ((bs []), ((bs []), ((bs []), ((bs []), ((0 : Int), ((0 : Int), (bs [])))))))))))), (16 : Int)))) else (((hold_Ref.f x11.1)).bind fun x12 => (((iso_Get.f (a, (90 : Int)))).bind fun x13 => (bif (!x12) then (some (((bs []), ((bs []), ((bs []), ((0 : Int), ((bs []), ((bs []), ((bs []), ((bs []), ((bs []), ((0 : Int), ((0 : Int), (bs [])))))))))))), (16 : Int))) else (bif (!x13.2) then (some (((bs []), ((bs []), ((bs []), ((0 : Int), ((bs []), ((bs []), ((bs []), ((bs []), ((bs []), ((0 : Int), ((0 : Int), (bs [])))))))))))), (16 : Int))) else (bif (!((ByteArray.toList x13.1) == [])) then (((trade_original.f x13.1)).bind fun x14 => (bif (!(!x14)) then (bif (true && (decide (((2 : Int) ≤ (x13.1.size : Int))))) then (bif (true && (decide (((10 : Int) ≤ (x13.1.size : Int))))) then (bif (Nat.ble ((ByteArray.extract x13.1 1 2).size + (ByteArray.extract x13.1 4 10).size) 9223372036854775807) then (bif (Nat.ble (((ByteArray.extract x13.1 1 2) ++ (ByteArray.extract x13.1 4 10)).size + x11.1.size) 9223372036854775807) then (bif (Nat.ble ((((ByteArray.extract x13.1 1 2) ++ (ByteArray.extract x13.1 4 10)) ++ x11.1).size + x9.1.size) 9223372036854775807) then (bif (true && (decide (((20 : Int) ≤ (x13.1.size : Int))))) then (bif (Nat.ble (((((ByteArray.extract x13.1 1 2) ++ (ByteArray.extract x13.1 4 10)) ++ x11.1) ++ x9.1).size + (ByteArray.extract x13.1 10 20).size) 9223372036854775807) then (bif (!x14) then (some (((bs []), ((bs []), ((bs []), ((0 : Int), ((bs []), ((bs []), ((bs []), ((bs []), ((bs []), ((0 : Int), ((0 : Int), (bs [])))))))))))), (16 : Int))) else (some ((x3.1, ((bs []), ((bs []), (x8.1, (x4.1, (x5.1, (x9.1, (x11.1, ((((((ByteArray.extract x13.1 1 2) ++ (ByteArray.extract x13.1 4 10)) ++ x11.1) ++ x9.1) ++ (ByteArray.extract x13.1 10 20)), ((0 : Int), ((0 : Int), (bs [])))))))))))), (0 : Int)))) else none) else none) else none) else none) else none) else none) else none) else (bif (!x14) then (some (((bs []), ((bs []), ((bs []), ((0 : Int), ((bs []), ((bs []), ((bs []), ((bs []), ((bs []), ((0 : Int), ((0 : Int), (bs [])))))))))))), (16 : Int))) else (some ((x3.1, ((bs []), ((bs []), (x8.1, (x4.1, (x5.1, (x9.1, (x11.1, ((bs []), ((0 : Int), ((0 : Int), (bs [])))))))))))), (0 : Int)))))) else (some (((bs []), ((bs []), ((bs []), ((0 : Int), ((bs []), ((bs []), ((bs []), ((bs []), ((bs []), ((0 : Int), ((0 : Int), (bs [])))))))))))), (16 : Int))))))))))))))))))))) else (bif (x2.1.1 == (5 : Int)) then (((iso_Get.f (a, (32 : Int)))).bind fun x6 => (bif (!x6.2) then (((iso_Get.f (a, (74 : Int)))).bind fun x7 => (((strconv_ParseInt.f (x7.1, ((10 : Int), (64 : Int))))).bind fun x8 => (((iso_Get.f (a, (86 : Int)))).bind fun x9 => (((strconv_ParseInt.f (x9.1, ((10 : Int), (64 : Int))))).bind fun x10 => (some (((bs []), ((bs []), ((bs []), ((0 : Int), ((bs []), ((bs []), ((bs []), ((bs []), ((bs []), ((0 : Int), ((0 : Int), (bs [])))))))))))), (16 : Int))))))) else (((trade_acq.f x6.1)).bind fun x7 => (((iso_Get.f (a, (74 : Int)))).bind fun x8 => (bif (!x7) then (((strconv_ParseInt.f (x8.1, ((10 : Int), (64 : Int))))).bind fun x9 => (((iso_Get.f (a, (86 : Int)))).bind fun x10 => (((strconv_ParseInt.f (x10.1, ((10 : Int), (64 : Int))))).bind fun x11 => (some (((bs []), ((bs []), ((bs []), ((0 : Int), ((bs []), ((bs []), ((bs []), ((bs []), ((bs []), ((0 : Int), ((0 : Int), (bs [])))))))))))), (16 : Int)))))) else (bif (!x8.2) then (((strconv_ParseInt.f (x8.1, ((10 : Int), (64 : Int))))).bind fun x9 => (((iso_Get.f (a, (86 : Int)))).bind fun x10 => (((strconv_ParseInt.f (x10.1, ((10 : Int), (64 : Int))))).bind fun x11 => (some (((bs []), ((bs []), ((bs []), ((0 : Int), ((bs []), ((bs []), ((bs []), ((bs []), ((bs []), ((0 : Int), ((0 : Int), (bs [])))))))))))), (16 : Int)))))) else (((digit_All.f x8.1)).bind fun x9 => (((strconv_ParseInt.f (x8.1, ((10 : Int), (64 : Int))))).bind fun x10 => (bif (!x9) then (((iso_Get.f (a, (86 : Int)))).bind fun x11 => (((strconv_ParseInt.f (x11.1, ((10 : Int), (64 : Int))))).bind fun x12 => (some (((bs []), ((bs []), ((bs []), ((0 : Int), ((bs []), ((bs []), ((bs []), ((bs []), ((bs []), ((0 : Int), ((0 : Int), (bs [])))))))))))), (16 : Int))))) else (bif (!(!x10.2)) then (((iso_Get.f (a, (86 : Int)))).bind fun x11 => (((strconv_ParseInt.f (x11.1, ((10 : Int), (64 : Int))))).bind fun x12 => (some (((bs []), ((bs []), ((bs []), ((0 : Int), ((bs []), ((bs []), ((bs []), ((bs []), ((bs []), ((0 : Int), ((0 : Int), (bs [])))))))))))), (16 : Int))))) else (((iso_Get.f (a, (86 : Int)))).bind fun x11 => (bif (decide ((x10.1 < (0 : Int)))) then (((strconv_ParseInt.f (x11.1, ((10 : Int), (64 : Int))))).bind fun x12 => (some (((bs []), ((bs []), ((bs []), ((0 : Int), ((bs []), ((bs []), ((bs []), ((bs []), ((bs []), ((0 : Int), ((0 : Int), (bs [])))))))))))), (16 : Int)))) else (bif (!x11.2) then (((strconv_ParseInt.f (x11.1, ((10 : Int), (64 : Int))))).bind fun x12 => (some (((bs []), ((bs []), ((bs []), ((0 : Int), ((bs []), ((bs []), ((bs []), ((bs []), ((bs []), ((0 : Int), ((0 : Int), (bs [])))))))))))), (16 : Int)))) else (((digit_All.f x11.1)).bind fun x12 => (((strconv_ParseInt.f (x11.1, ((10 : Int), (64 : Int))))).bind fun x13 => (bif (!x12) then (some (((bs []), ((bs []), ((bs []), ((0 : Int), ((bs []), ((bs []), ((bs []), ((bs []), ((bs []), ((0 : Int), ((0 : Int), (bs [])))))))))))), (16 : Int))) else (bif (!(!x13.2)) then (some (((bs []), ((bs []), ((bs []), ((0 : Int), ((bs []), ((bs []), ((bs []), ((bs []), ((bs []), ((0 : Int), ((0 : Int), (bs [])))))))))))), (16 : Int))) else (bif (decide ((x13.1 < (0 : Int)))) then (some (((bs []), ((bs []), ((bs []), ((0 : Int), ((bs []), ((bs []), ((bs []), ((bs []), ((bs []), ((0 : Int), ((0 : Int), (bs [])))))))))))), (16 : Int))) else (some ((x3.1, ((bs []), ((bs []), ((0 : Int), (x4.1, (x5.1, (x6.1, ((bs []), ((bs []), (x10.1, (x13.1, (bs [])))))))))))), (0 : Int))))))))))))))))))))) else (bif (x2.1.1 == (6 : Int)) then (((iso_Get.f (a, (3 : Int)))).bind fun x6 => (bif (!x6.2) then (((iso_Get.f (a, (4 : Int)))).bind fun x7 => (((strconv_ParseInt.f (x7.1, ((10 : Int), (64 : Int))))).bind fun x8 => (((iso_Get.f (a, (32 : Int)))).bind fun x9 => (((iso_Get.f (a, (37 : Int)))).bind fun x10 => (some (((bs []), ((bs []), ((bs []), ((0 : Int), ((bs []), ((bs []), ((bs []), ((bs []), ((bs []), ((0 : Int), ((0 : Int), (bs [])))))))))))), (16 : Int))))))) else (((iso_Get.f (a, (4 : Int)))).bind fun x7 => (bif (!x7.2) then (((strconv_ParseInt.f (x7.1, ((10 : Int), (64 : Int))))).bind fun x8 => (((iso_Get.f (a, (32 : Int)))).bind fun x9 => (((iso_Get.f (a, (37 : Int)))).bind fun x10 => (some (((bs []), ((bs []), ((bs []), ((0 : Int), ((bs []), ((bs []), ((bs []), ((bs []), ((bs []), ((0 : Int), ((0 : Int), (bs [])))))))))))), (16 : Int)))))) else (((digit_All.f x7.1)).bind fun x8 => (((strconv_ParseInt.f (x7.1, ((10 : Int), (64 : Int))))).bind fun x9 => (bif (!x8) then (((iso_Get.f (a, (32 : Int)))).bind fun x10 => (((iso_Get.f (a, (37 : Int)))).bind fun x11 => (some (((bs []), ((bs []), ((bs []), ((0 : Int), ((bs []), ((bs []), ((bs []), ((bs []), ((bs []), ((0 : Int), ((0 : Int), (bs [])))))))))))), (16 : Int))))) else (bif (!(!x9.2)) then (((iso_Get.f (a, (32 : Int)))).bind fun x10 => (((iso_Get.f (a, (37 : Int)))).bind fun x11 => (some (((bs []), ((bs []), ((bs []), ((0 : Int), ((bs []), ((bs []), ((bs []), ((bs []), ((bs []), ((0 : Int), ((0 : Int), (bs [])))))))))))), (16 : Int))))) else (((iso_Get.f (a, (32 : Int)))).bind fun x10 => (bif (decide ((x9.1 < (1 : Int)))) then (((iso_Get.f (a, (37 : Int)))).bind fun x11 => (some (((bs []), ((bs []), ((bs []), ((0 : Int), ((bs []), ((bs []), ((bs []), ((bs []), ((bs []), ((0 : Int), ((0 : Int), (bs [])))))))))))), (16 : Int)))) else (bif (!x10.2) then (((iso_Get.f (a, (37 : Int)))).bind fun x11 => (some (((bs []), ((bs []), ((bs []), ((0 : Int), ((bs []), ((bs []), ((bs []), ((bs []), ((bs []), ((0 : Int), ((0 : Int), (bs [])))))))))))), (16 : Int)))) else (((trade_acq.f x10.1)).bind fun x11 => (((iso_Get.f (a, (37 : Int)))).bind fun x12 => (bif (!x11) then (some (((bs []), ((bs []), ((bs []), ((0 : Int), ((bs []), ((bs []), ((bs []), ((bs []), ((bs []), ((0 : Int), ((0 : Int), (bs [])))))))))))), (16 : Int))) else (bif (!x12.2) then (some (((bs []), ((bs []), ((bs []), ((0 : Int), ((bs []), ((bs []), ((bs []), ((bs []), ((bs []), ((0 : Int), ((0 : Int), (bs [])))))))))))), (16 : Int))) else (((hold_Ref.f x12.1)).bind fun x13 => (bif (!x13) then (some (((bs []), ((bs []), ((bs []), ((0 : Int), ((bs []), ((bs []), ((bs []), ((bs []), ((bs []), ((0 : Int), ((0 : Int), (bs [])))))))))))), (16 : Int))) else (some ((x3.1, ((bs []), (x6.1, (x9.1, (x4.1, (x5.1, (x10.1, (x12.1, ((bs []), ((0 : Int), ((0 : Int), (bs [])))))))))))), (0 : Int)))))))))))))))))))) else (bif (x2.1.1 == (8 : Int)) then (((iso_Get.f (a, (70 : Int)))).bind fun x6 => (bif (!x6.2) then (some (((bs []), ((bs []), ((bs []), ((0 : Int), ((bs []), ((bs []), ((bs []), ((bs []), ((bs []), ((0 : Int), ((0 : Int), (bs [])))))))))))), (16 : Int))) else (some ((x3.1, ((bs []), ((bs []), ((0 : Int), (x4.1, (x5.1, ((bs []), ((bs []), ((bs []), ((0 : Int), ((0 : Int), x6.1))))))))))), (0 : Int))))) else (some ((x3.1, ((bs []), ((bs []), ((0 : Int), (x4.1, (x5.1, ((bs []), ((bs []), ((bs []), ((0 : Int), ((0 : Int), (bs [])))))))))))), (0 : Int))))))))))))))))))
theorem trade_Read.ok : ∀ a : Vals trade_Read.As.tys, fnK P trade_Read.H (lp []) 8 trade_Read.As trade_Read.m a some = trade_Read.f a := fun a => by kernel_rfl
noncomputable abbrev trade_Read.row : Row := fnRow 8 trade_Read.As trade_Read.m trade_Read.f
theorem trade_Read.row_ok : RowOK P G1 trade_Read.row := row_told trade_Read.hok (lp_of (l := []) trivial) (fun _ => rfl) trade_Read.ok
end Go.Proofs.YtpoiijkodpnobaaGreatDoor
end
section
set_option linter.unusedVariables false
set_option linter.unusedSimpArgs false
set_option maxHeartbeats 4000000
set_option maxRecDepth 10000
namespace Go.Proofs.YtpoiijkodpnobaaGreatDoor
open Go Go.Fw
abbrev Tr := ByteArray × (ByteArray × (ByteArray × (Int × (ByteArray × (ByteArray × (ByteArray × (ByteArray × (ByteArray × (Int × (Int × ByteArray))))))))))
def zT : Tr := (bs [], bs [], bs [], 0, bs [], bs [], bs [], bs [], bs [], 0, 0, bs [])
def origT (s rrn acq : ByteArray) : ByteArray := s.extract 1 2 ++ s.extract 4 10 ++ rrn ++ acq ++ s.extract 10 20
noncomputable def okT (m : Msg) (k : Int) : Bool :=
  bif k == 1 || k == 2 then hasM m 7 && (hasM m 11 && (hasM m 2 && (cardB (fldM m 2) && (hasM m 3 && (hasM m 4 && (!decide (numM m 4 < 1) && (hasM m 32 && (acqB (fldM m 32) && (hasM m 37 && refB (fldM m 37))))))))))
  else bif k == 4 then hasM m 7 && (hasM m 11 && (hasM m 4 && (hasM m 32 && (acqB (fldM m 32) && (hasM m 37 && (refB (fldM m 37) && (hasM m 90 && origB (fldM m 90))))))))
  else bif k == 5 then hasM m 7 && (hasM m 11 && (hasM m 32 && (acqB (fldM m 32) && (hasM m 74 && hasM m 86))))
  else bif k == 6 then hasM m 7 && (hasM m 11 && (hasM m 3 && (hasM m 4 && (!decide (numM m 4 < 1) && (hasM m 32 && (acqB (fldM m 32) && (hasM m 37 && refB (fldM m 37))))))))
  else hasM m 7 && (hasM m 11 && hasM m 70)
noncomputable def trT (m : Msg) (t : ByteArray) (k : Int) : Tr :=
  bif k == 1 || k == 2 then (t, fldM m 2, fldM m 3, numM m 4, fldM m 7, fldM m 11, fldM m 32, fldM m 37, bs [], 0, 0, bs [])
  else bif k == 4 then (t, bs [], bs [], numM m 4, fldM m 7, fldM m 11, fldM m 32, fldM m 37, origT (fldM m 90) (fldM m 37) (fldM m 32), 0, 0, bs [])
  else bif k == 5 then (t, bs [], bs [], 0, fldM m 7, fldM m 11, fldM m 32, bs [], bs [], numM m 74, numM m 86, bs [])
  else bif k == 6 then (t, bs [], fldM m 3, numM m 4, fldM m 7, fldM m 11, fldM m 32, fldM m 37, bs [], 0, 0, bs [])
  else (t, bs [], bs [], 0, fldM m 7, fldM m 11, bs [], bs [], bs [], 0, 0, fldM m 70)
theorem first_of {m : Msg} {i : Nat} (hw : whose m.1 = some i) (ha : (mAt i).2.2.1 = false) : ∃ e, mti_Text.f ((mAt i).1, (mAt i).2.1, false, false) = some (m.1.extract 0 3 ++ bs [48], e) := by
  obtain ⟨hi, ht⟩ := whose_lt hw
  have := first_text i hi ha
  rw [ha, ht] at this
  rw [mtiText_is]
  exact ⟨_, by rw [← this]⟩
theorem orig_ble {s rrn acq : ByteArray} (h1 : s.size = 42) (h2 : rrn.size ≤ 1001) (h3 : acq.size ≤ 1001) :
    Nat.ble ((s.extract 1 2).size + (s.extract 4 10).size) 9223372036854775807 = true ∧ Nat.ble ((s.extract 1 2 ++ s.extract 4 10).size + rrn.size) 9223372036854775807 = true ∧
    Nat.ble ((s.extract 1 2 ++ s.extract 4 10 ++ rrn).size + acq.size) 9223372036854775807 = true ∧ Nat.ble ((s.extract 1 2 ++ s.extract 4 10 ++ rrn ++ acq).size + (s.extract 10 20).size) 9223372036854775807 = true := by
  simp only [ByteArray.size_append, ByteArray.size_extract]
  exact ⟨Nat.ble_eq_true_of_le (by omega), Nat.ble_eq_true_of_le (by omega), Nat.ble_eq_true_of_le (by omega), Nat.ble_eq_true_of_le (by omega)⟩
theorem read_class1 {m : Msg} {i : Nat} (hg : goodM m) (hp : (packF m).2 = 0) (hw : whose m.1 = some i) (ha : (mAt i).2.2.1 = false) (hk : (mAt i).1 = 1) :
    trade_Read.f m = some (bif okT m 1 then (trT m (m.1.extract 0 3 ++ bs [48]) 1, 0) else (zT, 16)) := by
  obtain ⟨_, _, _, hok, _⟩ := packF_zero hp
  obtain ⟨e, hmt⟩ := first_of hw ha
  obtain ⟨q4, hq4⟩ := parseI_some (fld_small hg 4)
  obtain ⟨q74, hq74⟩ := parseI_some (fld_small hg 74)
  obtain ⟨q86, hq86⟩ := parseI_some (fld_small hg 86)
  have hR : ∀ n, hold_Ref.f (fldM m n) = some (refB (fldM m n)) := fun n => hold_Ref_is _ (by have := fld_small hg n; omega)
  have hA : ∀ n, digit_All.f (fldM m n) = some (digitsB (fldM m n)) := fun n => digit_All_is _ (by have := fld_small hg n; omega)
  have ok : okT m 1 = (hasM m 7 && (hasM m 11 && (hasM m 2 && (cardB (fldM m 2) && (hasM m 3 && (hasM m 4 && (!decide (numM m 4 < 1) && (hasM m 32 && (acqB (fldM m 32) && (hasM m 37 && refB (fldM m 37))))))))))) := rfl
  rw [ok]
  unfold trade_Read.f
  simp only [check_pack hg, hp, Option.bind_some, bne_self_eq_false, cond_false, mtiParse_is, hw, ha, hmt, get_fld hg]
  rw [hk] at hmt
  simp only [hk, show ((1 : Int) == 1) = true from rfl, show ((1 : Int) == 2) = false from rfl, show ((1 : Int) == 4) = false from rfl, show ((1 : Int) == 5) = false from rfl, show ((1 : Int) == 6) = false from rfl, show ((1 : Int) == 8) = false from rfl, cond_true, cond_false]
  cases h7 : hasM m 7
  · simp only [bT, hq4, hq74, hq86, tpan_is, tacq_is, hR, hA]
    rfl
  simp only [bT, hq4, hq74, hq86, tpan_is, tacq_is, hR, hA]
  cases h11 : hasM m 11
  · simp only [bT, hq4, hq74, hq86, tpan_is, tacq_is, hR, hA]
    rfl
  simp only [bT, hq4, hq74, hq86, tpan_is, tacq_is, hR, hA]
  cases h2 : hasM m 2
  · simp only [bT, hq4, hq74, hq86, tpan_is, tacq_is, hR, hA]
    rfl
  simp only [bT, hq4, hq74, hq86, tpan_is, tacq_is, hR, hA]
  cases hc2 : cardB (fldM m 2)
  · simp only [bT, hq4, hq74, hq86, tpan_is, tacq_is, hR, hA]
    rfl
  simp only [bT, hq4, hq74, hq86, tpan_is, tacq_is, hR, hA]
  cases h3 : hasM m 3
  · simp only [bT, hq4, hq74, hq86, tpan_is, tacq_is, hR, hA]
    rfl
  simp only [bT, hq4, hq74, hq86, tpan_is, tacq_is, hR, hA]
  cases h4 : hasM m 4
  · simp only [bT, hq4, hq74, hq86, tpan_is, tacq_is, hR, hA]
    rfl
  simp only [bT, hq4, hq74, hq86, tpan_is, tacq_is, hR, hA]
  obtain ⟨hd4, hp4, _⟩ := fnum hg hok h4 of4 (by omega)
  rw [hq4] at hp4
  injection hp4 with hp4
  subst hp4
  simp only [hd4, bT, hq4, hq74, hq86, tpan_is, tacq_is, hR, hA]
  cases hl4 : decide (numM m 4 < 1)
  rotate_left
  · simp only [bT, hq4, hq74, hq86, tpan_is, tacq_is, hR, hA]
    rfl
  simp only [bT, hq4, hq74, hq86, tpan_is, tacq_is, hR, hA]
  cases h32 : hasM m 32
  · simp only [bT, hq4, hq74, hq86, tpan_is, tacq_is, hR, hA]
    rfl
  simp only [bT, hq4, hq74, hq86, tpan_is, tacq_is, hR, hA]
  cases hc32 : acqB (fldM m 32)
  · simp only [bT, hq4, hq74, hq86, tpan_is, tacq_is, hR, hA]
    rfl
  simp only [bT, hq4, hq74, hq86, tpan_is, tacq_is, hR, hA]
  cases h37 : hasM m 37
  · simp only [bT, hq4, hq74, hq86, tpan_is, tacq_is, hR, hA]
    rfl
  simp only [bT, hq4, hq74, hq86, tpan_is, tacq_is, hR, hA]
  cases hc37 : refB (fldM m 37)
  · simp only [bT, hq4, hq74, hq86, tpan_is, tacq_is, hR, hA]
    rfl
  simp only [bT, hq4, hq74, hq86, tpan_is, tacq_is, hR, hA]
  rfl
theorem read_class2 {m : Msg} {i : Nat} (hg : goodM m) (hp : (packF m).2 = 0) (hw : whose m.1 = some i) (ha : (mAt i).2.2.1 = false) (hk : (mAt i).1 = 2) :
    trade_Read.f m = some (bif okT m 2 then (trT m (m.1.extract 0 3 ++ bs [48]) 2, 0) else (zT, 16)) := by
  obtain ⟨_, _, _, hok, _⟩ := packF_zero hp
  obtain ⟨e, hmt⟩ := first_of hw ha
  obtain ⟨q4, hq4⟩ := parseI_some (fld_small hg 4)
  obtain ⟨q74, hq74⟩ := parseI_some (fld_small hg 74)
  obtain ⟨q86, hq86⟩ := parseI_some (fld_small hg 86)
  have hR : ∀ n, hold_Ref.f (fldM m n) = some (refB (fldM m n)) := fun n => hold_Ref_is _ (by have := fld_small hg n; omega)
  have hA : ∀ n, digit_All.f (fldM m n) = some (digitsB (fldM m n)) := fun n => digit_All_is _ (by have := fld_small hg n; omega)
  have ok : okT m 2 = (hasM m 7 && (hasM m 11 && (hasM m 2 && (cardB (fldM m 2) && (hasM m 3 && (hasM m 4 && (!decide (numM m 4 < 1) && (hasM m 32 && (acqB (fldM m 32) && (hasM m 37 && refB (fldM m 37))))))))))) := rfl
  rw [ok]
  unfold trade_Read.f
  simp only [check_pack hg, hp, Option.bind_some, bne_self_eq_false, cond_false, mtiParse_is, hw, ha, hmt, get_fld hg]
  rw [hk] at hmt
  simp only [hk, show ((2 : Int) == 1) = false from rfl, show ((2 : Int) == 2) = true from rfl, show ((2 : Int) == 4) = false from rfl, show ((2 : Int) == 5) = false from rfl, show ((2 : Int) == 6) = false from rfl, show ((2 : Int) == 8) = false from rfl, cond_true, cond_false]
  cases h7 : hasM m 7
  · simp only [bT, hq4, hq74, hq86, tpan_is, tacq_is, hR, hA]
    rfl
  simp only [bT, hq4, hq74, hq86, tpan_is, tacq_is, hR, hA]
  cases h11 : hasM m 11
  · simp only [bT, hq4, hq74, hq86, tpan_is, tacq_is, hR, hA]
    rfl
  simp only [bT, hq4, hq74, hq86, tpan_is, tacq_is, hR, hA]
  cases h2 : hasM m 2
  · simp only [bT, hq4, hq74, hq86, tpan_is, tacq_is, hR, hA]
    rfl
  simp only [bT, hq4, hq74, hq86, tpan_is, tacq_is, hR, hA]
  cases hc2 : cardB (fldM m 2)
  · simp only [bT, hq4, hq74, hq86, tpan_is, tacq_is, hR, hA]
    rfl
  simp only [bT, hq4, hq74, hq86, tpan_is, tacq_is, hR, hA]
  cases h3 : hasM m 3
  · simp only [bT, hq4, hq74, hq86, tpan_is, tacq_is, hR, hA]
    rfl
  simp only [bT, hq4, hq74, hq86, tpan_is, tacq_is, hR, hA]
  cases h4 : hasM m 4
  · simp only [bT, hq4, hq74, hq86, tpan_is, tacq_is, hR, hA]
    rfl
  simp only [bT, hq4, hq74, hq86, tpan_is, tacq_is, hR, hA]
  obtain ⟨hd4, hp4, _⟩ := fnum hg hok h4 of4 (by omega)
  rw [hq4] at hp4
  injection hp4 with hp4
  subst hp4
  simp only [hd4, bT, hq4, hq74, hq86, tpan_is, tacq_is, hR, hA]
  cases hl4 : decide (numM m 4 < 1)
  rotate_left
  · simp only [bT, hq4, hq74, hq86, tpan_is, tacq_is, hR, hA]
    rfl
  simp only [bT, hq4, hq74, hq86, tpan_is, tacq_is, hR, hA]
  cases h32 : hasM m 32
  · simp only [bT, hq4, hq74, hq86, tpan_is, tacq_is, hR, hA]
    rfl
  simp only [bT, hq4, hq74, hq86, tpan_is, tacq_is, hR, hA]
  cases hc32 : acqB (fldM m 32)
  · simp only [bT, hq4, hq74, hq86, tpan_is, tacq_is, hR, hA]
    rfl
  simp only [bT, hq4, hq74, hq86, tpan_is, tacq_is, hR, hA]
  cases h37 : hasM m 37
  · simp only [bT, hq4, hq74, hq86, tpan_is, tacq_is, hR, hA]
    rfl
  simp only [bT, hq4, hq74, hq86, tpan_is, tacq_is, hR, hA]
  cases hc37 : refB (fldM m 37)
  · simp only [bT, hq4, hq74, hq86, tpan_is, tacq_is, hR, hA]
    rfl
  simp only [bT, hq4, hq74, hq86, tpan_is, tacq_is, hR, hA]
  rfl
theorem read_class4 {m : Msg} {i : Nat} (hg : goodM m) (hp : (packF m).2 = 0) (hw : whose m.1 = some i) (ha : (mAt i).2.2.1 = false) (hk : (mAt i).1 = 4) :
    trade_Read.f m = some (bif okT m 4 then (trT m (m.1.extract 0 3 ++ bs [48]) 4, 0) else (zT, 16)) := by
  obtain ⟨_, _, _, hok, _⟩ := packF_zero hp
  obtain ⟨e, hmt⟩ := first_of hw ha
  obtain ⟨q4, hq4⟩ := parseI_some (fld_small hg 4)
  obtain ⟨q74, hq74⟩ := parseI_some (fld_small hg 74)
  obtain ⟨q86, hq86⟩ := parseI_some (fld_small hg 86)
  have hR : ∀ n, hold_Ref.f (fldM m n) = some (refB (fldM m n)) := fun n => hold_Ref_is _ (by have := fld_small hg n; omega)
  have hA : ∀ n, digit_All.f (fldM m n) = some (digitsB (fldM m n)) := fun n => digit_All_is _ (by have := fld_small hg n; omega)
  have ok : okT m 4 = (hasM m 7 && (hasM m 11 && (hasM m 4 && (hasM m 32 && (acqB (fldM m 32) && (hasM m 37 && (refB (fldM m 37) && (hasM m 90 && origB (fldM m 90))))))))) := rfl
  rw [ok]
  unfold trade_Read.f
  simp only [check_pack hg, hp, Option.bind_some, bne_self_eq_false, cond_false, mtiParse_is, hw, ha, hmt, get_fld hg]
  rw [hk] at hmt
  simp only [hk, show ((4 : Int) == 1) = false from rfl, show ((4 : Int) == 2) = false from rfl, show ((4 : Int) == 4) = true from rfl, show ((4 : Int) == 5) = false from rfl, show ((4 : Int) == 6) = false from rfl, show ((4 : Int) == 8) = false from rfl, cond_true, cond_false]
  cases h7 : hasM m 7
  · simp only [bT, hq4, hq74, hq86, tpan_is, tacq_is, hR, hA]
    rfl
  simp only [bT, hq4, hq74, hq86, tpan_is, tacq_is, hR, hA]
  cases h11 : hasM m 11
  · simp only [bT, hq4, hq74, hq86, tpan_is, tacq_is, hR, hA]
    rfl
  simp only [bT, hq4, hq74, hq86, tpan_is, tacq_is, hR, hA]
  cases h4 : hasM m 4
  · simp only [bT, hq4, hq74, hq86, tpan_is, tacq_is, hR, hA]
    rfl
  simp only [bT, hq4, hq74, hq86, tpan_is, tacq_is, hR, hA]
  obtain ⟨hd4, hp4, _⟩ := fnum hg hok h4 of4 (by omega)
  rw [hq4] at hp4
  injection hp4 with hp4
  subst hp4
  simp only [hd4, bT, hq4, hq74, hq86, tpan_is, tacq_is, hR, hA]
  simp only [decide_eq_false (show ¬ numM m 4 < 0 by have := numM_nn m 4; omega), bT, hq4, hq74, hq86, tpan_is, tacq_is, hR, hA]
  cases h32 : hasM m 32
  · simp only [bT, hq4, hq74, hq86, tpan_is, tacq_is, hR, hA]
    rfl
  simp only [bT, hq4, hq74, hq86, tpan_is, tacq_is, hR, hA]
  cases hc32 : acqB (fldM m 32)
  · simp only [bT, hq4, hq74, hq86, tpan_is, tacq_is, hR, hA]
    rfl
  simp only [bT, hq4, hq74, hq86, tpan_is, tacq_is, hR, hA]
  cases h37 : hasM m 37
  · simp only [bT, hq4, hq74, hq86, tpan_is, tacq_is, hR, hA]
    rfl
  simp only [bT, hq4, hq74, hq86, tpan_is, tacq_is, hR, hA]
  cases hc37 : refB (fldM m 37)
  · simp only [bT, hq4, hq74, hq86, tpan_is, tacq_is, hR, hA]
    rfl
  simp only [bT, hq4, hq74, hq86, tpan_is, tacq_is, hR, hA]
  cases h90 : hasM m 90
  · simp only [bT, hq4, hq74, hq86, tpan_is, tacq_is, hR, hA]
    rfl
  simp only [bT, hq4, hq74, hq86, tpan_is, tacq_is, hR, hA]
  have h42 := fsize hg hok h90 of90
  have h42n : (fldM m 90).size = 42 := by omega
  have hne : (ByteArray.toList (fldM m 90) == []) = false := by
    rw [texts_nil]
    exact decide_eq_false fun e => by rw [e] at h42n; simp [bs_size] at h42n
  obtain ⟨b1, b2, b3, b4⟩ := orig_ble (s := fldM m 90) (rrn := fldM m 37) (acq := fldM m 32) h42n (fld_small hg 37) (fld_small hg 32)
  have d2 : decide ((2 : Int) ≤ ((fldM m 90).size : Int)) = true := decide_eq_true (by omega)
  have d10 : decide ((10 : Int) ≤ ((fldM m 90).size : Int)) = true := decide_eq_true (by omega)
  have d20 : decide ((20 : Int) ≤ ((fldM m 90).size : Int)) = true := decide_eq_true (by omega)
  simp only [hne, original_is (s := fldM m 90) (by omega), d2, d10, d20, b1, b2, b3, b4, Bool.and_self, bT, hq4, hq74, hq86, tpan_is, tacq_is, hR, hA]
  cases ho : origB (fldM m 90)
  · simp only [bT, hq4, hq74, hq86, tpan_is, tacq_is, hR, hA]
    rfl
  simp only [bT, hq4, hq74, hq86, tpan_is, tacq_is, hR, hA]
  rfl
theorem read_class5 {m : Msg} {i : Nat} (hg : goodM m) (hp : (packF m).2 = 0) (hw : whose m.1 = some i) (ha : (mAt i).2.2.1 = false) (hk : (mAt i).1 = 5) :
    trade_Read.f m = some (bif okT m 5 then (trT m (m.1.extract 0 3 ++ bs [48]) 5, 0) else (zT, 16)) := by
  obtain ⟨_, _, _, hok, _⟩ := packF_zero hp
  obtain ⟨e, hmt⟩ := first_of hw ha
  obtain ⟨q4, hq4⟩ := parseI_some (fld_small hg 4)
  obtain ⟨q74, hq74⟩ := parseI_some (fld_small hg 74)
  obtain ⟨q86, hq86⟩ := parseI_some (fld_small hg 86)
  have hR : ∀ n, hold_Ref.f (fldM m n) = some (refB (fldM m n)) := fun n => hold_Ref_is _ (by have := fld_small hg n; omega)
  have hA : ∀ n, digit_All.f (fldM m n) = some (digitsB (fldM m n)) := fun n => digit_All_is _ (by have := fld_small hg n; omega)
  have ok : okT m 5 = (hasM m 7 && (hasM m 11 && (hasM m 32 && (acqB (fldM m 32) && (hasM m 74 && hasM m 86))))) := rfl
  rw [ok]
  unfold trade_Read.f
  simp only [check_pack hg, hp, Option.bind_some, bne_self_eq_false, cond_false, mtiParse_is, hw, ha, hmt, get_fld hg]
  rw [hk] at hmt
  simp only [hk, show ((5 : Int) == 1) = false from rfl, show ((5 : Int) == 2) = false from rfl, show ((5 : Int) == 4) = false from rfl, show ((5 : Int) == 5) = true from rfl, show ((5 : Int) == 6) = false from rfl, show ((5 : Int) == 8) = false from rfl, cond_true, cond_false]
  cases h7 : hasM m 7
  · simp only [bT, hq4, hq74, hq86, tpan_is, tacq_is, hR, hA]
    rfl
  simp only [bT, hq4, hq74, hq86, tpan_is, tacq_is, hR, hA]
  cases h11 : hasM m 11
  · simp only [bT, hq4, hq74, hq86, tpan_is, tacq_is, hR, hA]
    rfl
  simp only [bT, hq4, hq74, hq86, tpan_is, tacq_is, hR, hA]
  cases h32 : hasM m 32
  · simp only [bT, hq4, hq74, hq86, tpan_is, tacq_is, hR, hA]
    rfl
  simp only [bT, hq4, hq74, hq86, tpan_is, tacq_is, hR, hA]
  cases hc32 : acqB (fldM m 32)
  · simp only [bT, hq4, hq74, hq86, tpan_is, tacq_is, hR, hA]
    rfl
  simp only [bT, hq4, hq74, hq86, tpan_is, tacq_is, hR, hA]
  cases h74 : hasM m 74
  · simp only [bT, hq4, hq74, hq86, tpan_is, tacq_is, hR, hA]
    rfl
  simp only [bT, hq4, hq74, hq86, tpan_is, tacq_is, hR, hA]
  obtain ⟨hd74, hp74, _⟩ := fnum hg hok h74 of74 (by omega)
  rw [hq74] at hp74
  injection hp74 with hp74
  subst hp74
  simp only [hd74, bT, hq4, hq74, hq86, tpan_is, tacq_is, hR, hA]
  simp only [decide_eq_false (show ¬ numM m 74 < 0 by have := numM_nn m 74; omega), bT, hq4, hq74, hq86, tpan_is, tacq_is, hR, hA]
  cases h86 : hasM m 86
  · simp only [bT, hq4, hq74, hq86, tpan_is, tacq_is, hR, hA]
    rfl
  simp only [bT, hq4, hq74, hq86, tpan_is, tacq_is, hR, hA]
  obtain ⟨hd86, hp86, _⟩ := fnum hg hok h86 of86 (by omega)
  rw [hq86] at hp86
  injection hp86 with hp86
  subst hp86
  simp only [hd86, bT, hq4, hq74, hq86, tpan_is, tacq_is, hR, hA]
  simp only [decide_eq_false (show ¬ numM m 86 < 0 by have := numM_nn m 86; omega), bT, hq4, hq74, hq86, tpan_is, tacq_is, hR, hA]
  rfl
theorem read_class6 {m : Msg} {i : Nat} (hg : goodM m) (hp : (packF m).2 = 0) (hw : whose m.1 = some i) (ha : (mAt i).2.2.1 = false) (hk : (mAt i).1 = 6) :
    trade_Read.f m = some (bif okT m 6 then (trT m (m.1.extract 0 3 ++ bs [48]) 6, 0) else (zT, 16)) := by
  obtain ⟨_, _, _, hok, _⟩ := packF_zero hp
  obtain ⟨e, hmt⟩ := first_of hw ha
  obtain ⟨q4, hq4⟩ := parseI_some (fld_small hg 4)
  obtain ⟨q74, hq74⟩ := parseI_some (fld_small hg 74)
  obtain ⟨q86, hq86⟩ := parseI_some (fld_small hg 86)
  have hR : ∀ n, hold_Ref.f (fldM m n) = some (refB (fldM m n)) := fun n => hold_Ref_is _ (by have := fld_small hg n; omega)
  have hA : ∀ n, digit_All.f (fldM m n) = some (digitsB (fldM m n)) := fun n => digit_All_is _ (by have := fld_small hg n; omega)
  have ok : okT m 6 = (hasM m 7 && (hasM m 11 && (hasM m 3 && (hasM m 4 && (!decide (numM m 4 < 1) && (hasM m 32 && (acqB (fldM m 32) && (hasM m 37 && refB (fldM m 37))))))))) := rfl
  rw [ok]
  unfold trade_Read.f
  simp only [check_pack hg, hp, Option.bind_some, bne_self_eq_false, cond_false, mtiParse_is, hw, ha, hmt, get_fld hg]
  rw [hk] at hmt
  simp only [hk, show ((6 : Int) == 1) = false from rfl, show ((6 : Int) == 2) = false from rfl, show ((6 : Int) == 4) = false from rfl, show ((6 : Int) == 5) = false from rfl, show ((6 : Int) == 6) = true from rfl, show ((6 : Int) == 8) = false from rfl, cond_true, cond_false]
  cases h7 : hasM m 7
  · simp only [bT, hq4, hq74, hq86, tpan_is, tacq_is, hR, hA]
    rfl
  simp only [bT, hq4, hq74, hq86, tpan_is, tacq_is, hR, hA]
  cases h11 : hasM m 11
  · simp only [bT, hq4, hq74, hq86, tpan_is, tacq_is, hR, hA]
    rfl
  simp only [bT, hq4, hq74, hq86, tpan_is, tacq_is, hR, hA]
  cases h3 : hasM m 3
  · simp only [bT, hq4, hq74, hq86, tpan_is, tacq_is, hR, hA]
    rfl
  simp only [bT, hq4, hq74, hq86, tpan_is, tacq_is, hR, hA]
  cases h4 : hasM m 4
  · simp only [bT, hq4, hq74, hq86, tpan_is, tacq_is, hR, hA]
    rfl
  simp only [bT, hq4, hq74, hq86, tpan_is, tacq_is, hR, hA]
  obtain ⟨hd4, hp4, _⟩ := fnum hg hok h4 of4 (by omega)
  rw [hq4] at hp4
  injection hp4 with hp4
  subst hp4
  simp only [hd4, bT, hq4, hq74, hq86, tpan_is, tacq_is, hR, hA]
  cases hl4 : decide (numM m 4 < 1)
  rotate_left
  · simp only [bT, hq4, hq74, hq86, tpan_is, tacq_is, hR, hA]
    rfl
  simp only [bT, hq4, hq74, hq86, tpan_is, tacq_is, hR, hA]
  cases h32 : hasM m 32
  · simp only [bT, hq4, hq74, hq86, tpan_is, tacq_is, hR, hA]
    rfl
  simp only [bT, hq4, hq74, hq86, tpan_is, tacq_is, hR, hA]
  cases hc32 : acqB (fldM m 32)
  · simp only [bT, hq4, hq74, hq86, tpan_is, tacq_is, hR, hA]
    rfl
  simp only [bT, hq4, hq74, hq86, tpan_is, tacq_is, hR, hA]
  cases h37 : hasM m 37
  · simp only [bT, hq4, hq74, hq86, tpan_is, tacq_is, hR, hA]
    rfl
  simp only [bT, hq4, hq74, hq86, tpan_is, tacq_is, hR, hA]
  cases hc37 : refB (fldM m 37)
  · simp only [bT, hq4, hq74, hq86, tpan_is, tacq_is, hR, hA]
    rfl
  simp only [bT, hq4, hq74, hq86, tpan_is, tacq_is, hR, hA]
  rfl
theorem read_class8 {m : Msg} {i : Nat} (hg : goodM m) (hp : (packF m).2 = 0) (hw : whose m.1 = some i) (ha : (mAt i).2.2.1 = false) (hk : (mAt i).1 = 8) :
    trade_Read.f m = some (bif okT m 8 then (trT m (m.1.extract 0 3 ++ bs [48]) 8, 0) else (zT, 16)) := by
  obtain ⟨_, _, _, hok, _⟩ := packF_zero hp
  obtain ⟨e, hmt⟩ := first_of hw ha
  obtain ⟨q4, hq4⟩ := parseI_some (fld_small hg 4)
  obtain ⟨q74, hq74⟩ := parseI_some (fld_small hg 74)
  obtain ⟨q86, hq86⟩ := parseI_some (fld_small hg 86)
  have hR : ∀ n, hold_Ref.f (fldM m n) = some (refB (fldM m n)) := fun n => hold_Ref_is _ (by have := fld_small hg n; omega)
  have hA : ∀ n, digit_All.f (fldM m n) = some (digitsB (fldM m n)) := fun n => digit_All_is _ (by have := fld_small hg n; omega)
  have ok : okT m 8 = (hasM m 7 && (hasM m 11 && hasM m 70)) := rfl
  rw [ok]
  unfold trade_Read.f
  simp only [check_pack hg, hp, Option.bind_some, bne_self_eq_false, cond_false, mtiParse_is, hw, ha, hmt, get_fld hg]
  rw [hk] at hmt
  simp only [hk, show ((8 : Int) == 1) = false from rfl, show ((8 : Int) == 2) = false from rfl, show ((8 : Int) == 4) = false from rfl, show ((8 : Int) == 5) = false from rfl, show ((8 : Int) == 6) = false from rfl, show ((8 : Int) == 8) = true from rfl, cond_true, cond_false]
  cases h7 : hasM m 7
  · simp only [bT, hq4, hq74, hq86, tpan_is, tacq_is, hR, hA]
    rfl
  simp only [bT, hq4, hq74, hq86, tpan_is, tacq_is, hR, hA]
  cases h11 : hasM m 11
  · simp only [bT, hq4, hq74, hq86, tpan_is, tacq_is, hR, hA]
    rfl
  simp only [bT, hq4, hq74, hq86, tpan_is, tacq_is, hR, hA]
  cases h70 : hasM m 70
  · simp only [bT, hq4, hq74, hq86, tpan_is, tacq_is, hR, hA]
    rfl
  simp only [bT, hq4, hq74, hq86, tpan_is, tacq_is, hR, hA]
  rfl
theorem tradeRead_is {m : Msg} {i : Nat} (hg : goodM m) (hp : (packF m).2 = 0) (hw : whose m.1 = some i) (ha : (mAt i).2.2.1 = false) :
    trade_Read.f m = some (bif okT m (mAt i).1 then (trT m (m.1.extract 0 3 ++ bs [48]) (mAt i).1, 0) else (zT, 16)) := by
  rcases class_at i (whose_lt hw).1 with h | h | h | h | h | h <;> rw [h]
  · exact read_class1 hg hp hw ha h
  · exact read_class2 hg hp hw ha h
  · exact read_class4 hg hp hw ha h
  · exact read_class5 hg hp hw ha h
  · exact read_class6 hg hp hw ha h
  · exact read_class8 hg hp hw ha h
theorem tradeRead_bad {m : Msg} (hg : goodM m) (hp : (packF m).2 ≠ 0) : trade_Read.f m = some (zT, 1) := by
  have e : ((packF m).2 != 0) = true := by simpa using hp
  unfold trade_Read.f
  simp only [check_pack hg, Option.bind_some, e, cond_true]
  rfl
theorem tradeRead_answer {m : Msg} {i : Nat} (hg : goodM m) (hp : (packF m).2 = 0) (hw : whose m.1 = some i) (ha : (mAt i).2.2.1 = true) : trade_Read.f m = some (zT, 17) := by
  unfold trade_Read.f
  simp only [check_pack hg, hp, Option.bind_some, bne_self_eq_false, cond_false, mtiParse_is, hw, ha, cond_true]
  rfl
end Go.Proofs.YtpoiijkodpnobaaGreatDoor
end
section
set_option linter.unusedVariables false
set_option maxRecDepth 100000
namespace Go.Proofs.YtpoiijkodpnobaaGreatDoor
open Go Go.Fw
abbrev trade_Key.As : Shs := (.cons (.x T_api_Trade) .nil)
abbrev trade_Key.m : Back := [(false, .s)]
noncomputable abbrev trade_Key.H : HK := hk P G0 E0 J0 [trade_or.row] noLoops 4
theorem trade_Key.rows : TabOK P G0 (tabF [trade_or.row]) := rows_ok (ws := [trade_or.row]) ⟨trade_or.row_ok, trivial⟩
theorem trade_Key.hok : HKOK P trade_Key.H := hk_ok e0_ok j0_ok trade_Key.rows (fun g n => noLoops_ok g n) 4
noncomputable def trade_Key.f (a : (ByteArray × (ByteArray × (ByteArray × (Int × (ByteArray × (ByteArray × (ByteArray × (ByteArray × (ByteArray × (Int × (Int × ByteArray)))))))))))) : Option ByteArray := (bif (decide (((a.1.size : Int) < (2 : Int)))) then (some (bs [])) else (bif (true && (decide (((2 : Int) ≤ (a.1.size : Int))))) then (bif (Nat.ble ((ByteArray.extract a.1 1 2).size + a.2.2.2.2.2.1.size) 9223372036854775807) then (((trade_or.f (a.2.2.2.2.2.2.2.1, (12 : Int)))).bind fun x1 => (bif (Nat.ble (((ByteArray.extract a.1 1 2) ++ a.2.2.2.2.2.1).size + x1.size) 9223372036854775807) then (((trade_or.f (a.2.2.2.2.2.2.1, (6 : Int)))).bind fun x2 => (bif (Nat.ble ((((ByteArray.extract a.1 1 2) ++ a.2.2.2.2.2.1) ++ x1).size + x2.size) 9223372036854775807) then (bif (Nat.ble (((((ByteArray.extract a.1 1 2) ++ a.2.2.2.2.2.1) ++ x1) ++ x2).size + a.2.2.2.2.1.size) 9223372036854775807) then (some (((((ByteArray.extract a.1 1 2) ++ a.2.2.2.2.2.1) ++ x1) ++ x2) ++ a.2.2.2.2.1)) else none) else none)) else none)) else none) else none))
theorem trade_Key.ok : ∀ a : Vals trade_Key.As.tys, fnK P trade_Key.H (lp []) 11 trade_Key.As trade_Key.m a some = trade_Key.f a := fun a => by kernel_rfl
noncomputable abbrev trade_Key.row : Row := fnRow 11 trade_Key.As trade_Key.m trade_Key.f
theorem trade_Key.row_ok : RowOK P G0 trade_Key.row := row_told trade_Key.hok (lp_of (l := []) trivial) (fun _ => rfl) trade_Key.ok
abbrev bursarlaw20_awake.As : Shs := .nil
abbrev bursarlaw20_awake.m : Back := [(false, .b)]
noncomputable abbrev bursarlaw20_awake.H : HK := hk P G1 E0 J0 [trade_Read.row, trade_Key.row, trade_Text.row] noLoops 4
theorem bursarlaw20_awake.rows : TabOK P G1 (tabF [trade_Read.row, trade_Key.row, trade_Text.row]) := rows_ok (ws := [trade_Read.row, trade_Key.row, trade_Text.row]) ⟨trade_Read.row_ok, ⟨(trade_Key.row_ok.more g01), ⟨(trade_Text.row_ok.more g01), trivial⟩⟩⟩
theorem bursarlaw20_awake.hok : HKOK P bursarlaw20_awake.H := hk_ok e0_ok j0_ok bursarlaw20_awake.rows (fun g n => noLoops_ok g n) 4
noncomputable def bursarlaw20_awake.f (a : Unit) : Option Bool := (((trade_Read.f ((bs [48, 56, 48, 48]), [((7 : Int), (bs [48, 49, 48, 50, 48, 51, 48, 52, 48, 53])), ((11 : Int), (bs [48, 48, 48, 48, 48, 55])), ((70 : Int), (bs [51, 48, 49]))]))).bind fun x0 => (((trade_Read.f ((bs [48, 56, 49, 48]), [((7 : Int), (bs [48, 49, 48, 50, 48, 51, 48, 52, 48, 53])), ((11 : Int), (bs [48, 48, 48, 48, 48, 55])), ((70 : Int), (bs [51, 48, 49]))]))).bind fun x1 => (((trade_Text.f ((1 : Int), ((0 : Int), ((bs [52, 49, 49, 49, 49, 49, 49, 49, 49, 49, 49, 49, 49, 49, 49, 49]), ((bs []), ((bs []), (5 : Int)))))))).bind fun x2 => (((trade_Key.f x0.1)).bind fun x3 => (bif ((ByteArray.toList x3) == [(56 : UInt8), (48 : UInt8), (48 : UInt8), (48 : UInt8), (48 : UInt8), (48 : UInt8), (55 : UInt8), (48 : UInt8), (48 : UInt8), (48 : UInt8), (48 : UInt8), (48 : UInt8), (48 : UInt8), (48 : UInt8), (48 : UInt8), (48 : UInt8), (48 : UInt8), (48 : UInt8), (48 : UInt8), (48 : UInt8), (48 : UInt8), (48 : UInt8), (48 : UInt8), (48 : UInt8), (48 : UInt8), (48 : UInt8), (49 : UInt8), (48 : UInt8), (50 : UInt8), (48 : UInt8), (51 : UInt8), (48 : UInt8), (52 : UInt8), (48 : UInt8), (53 : UInt8)]) then (bif ((ByteArray.toList x0.1.2.2.2.2.2.2.2.2.2.2.2) == [(51 : UInt8), (48 : UInt8), (49 : UInt8)]) then (bif (x0.2 == (0 : Int)) then (bif (x1.2 == (17 : Int)) then (bif ((ByteArray.toList x2.1) == [(49 : UInt8), (48 : UInt8), (48 : UInt8), (48 : UInt8), (48 : UInt8), (48 : UInt8), (48 : UInt8), (48 : UInt8), (48 : UInt8), (48 : UInt8), (48 : UInt8), (52 : UInt8), (49 : UInt8), (49 : UInt8), (49 : UInt8), (49 : UInt8), (49 : UInt8), (49 : UInt8), (49 : UInt8), (49 : UInt8), (49 : UInt8), (49 : UInt8), (49 : UInt8), (49 : UInt8), (49 : UInt8), (49 : UInt8), (49 : UInt8), (48 : UInt8), (48 : UInt8), (48 : UInt8), (48 : UInt8), (48 : UInt8), (48 : UInt8), (48 : UInt8), (48 : UInt8), (48 : UInt8), (48 : UInt8), (48 : UInt8), (48 : UInt8), (48 : UInt8), (48 : UInt8), (48 : UInt8), (48 : UInt8), (48 : UInt8), (48 : UInt8), (48 : UInt8), (48 : UInt8), (48 : UInt8), (48 : UInt8), (48 : UInt8), (48 : UInt8), (48 : UInt8), (48 : UInt8), (48 : UInt8), (48 : UInt8), (48 : UInt8), (48 : UInt8), (48 : UInt8), (53 : UInt8)]) then (bif (x2.2 == (0 : Int)) then (some true) else (some false)) else (some false)) else (some false)) else (some false)) else (some false)) else (some false))))))
theorem bursarlaw20_awake.ok : ∀ a : Vals bursarlaw20_awake.As.tys, fnK P bursarlaw20_awake.H (lp []) 10 bursarlaw20_awake.As bursarlaw20_awake.m a some = bursarlaw20_awake.f a := fun a => by kernel_rfl
noncomputable abbrev bursarlaw20_awake.row : Row := fnRow 10 bursarlaw20_awake.As bursarlaw20_awake.m bursarlaw20_awake.f
theorem bursarlaw20_awake.row_ok : RowOK P G1 bursarlaw20_awake.row := row_told bursarlaw20_awake.hok (lp_of (l := []) trivial) (fun _ => rfl) bursarlaw20_awake.ok
end Go.Proofs.YtpoiijkodpnobaaGreatDoor
end
section
set_option linter.unusedVariables false
set_option linter.unusedSimpArgs false
set_option maxHeartbeats 1000000
set_option maxRecDepth 10000
namespace Go.Proofs.YtpoiijkodpnobaaGreatDoor
open Go Go.Fw
def keyL (t : Tr) : List UInt8 := (t.1.extract 1 2).data.toList ++ t.2.2.2.2.2.1.data.toList ++ orL t.2.2.2.2.2.2.2.1 12 ++ orL t.2.2.2.2.2.2.1 6 ++ t.2.2.2.2.1.data.toList
def keyT (t : Tr) : Prop := 2 ≤ t.1.size ∧ t.2.2.2.2.2.1.size ≤ 1001 ∧ t.2.2.2.2.2.2.2.1.size ≤ 1001 ∧ t.2.2.2.2.2.2.1.size ≤ 1001 ∧ t.2.2.2.2.1.size ≤ 1001
theorem orL_1001 {s : ByteArray} {w : Nat} (hs : s.size ≤ 1001) (hw : w ≤ 1001) : (orL s w).length ≤ 1001 := by
  unfold orL
  by_cases h : s = bs []
  · rw [decide_eq_true h, cond_true, List.length_replicate]; exact hw
  · rw [decide_eq_false h, cond_false]; exact hs
theorem ble_big {n : Nat} (h : n ≤ 100000) : Nat.ble n 9223372036854775807 = true := Nat.ble_eq_true_of_le (by omega)
theorem tradeKey_is {t : Tr} (h : keyT t) : trade_Key.f t = some (bs (keyL t)) := by
  obtain ⟨a, p, c, n, sent, stan, acq, rrn, rest⟩ := t
  obtain ⟨h1, h2, h3, h4, h5⟩ := h
  have h1 : 2 ≤ a.size := h1
  have h2 : stan.size ≤ 1001 := h2
  have h3 : rrn.size ≤ 1001 := h3
  have h4 : acq.size ≤ 1001 := h4
  have h5 : sent.size ≤ 1001 := h5
  have o1 : trade_or.f (rrn, (12 : Int)) = some (bs (orL rrn 12)) := or_is (s := rrn) (w := 12) (by omega)
  have o2 : trade_or.f (acq, (6 : Int)) = some (bs (orL acq 6)) := or_is (s := acq) (w := 6) (by omega)
  have l1 := orL_1001 (w := 12) h3 (by omega)
  have l2 := orL_1001 (w := 6) h4 (by omega)
  have lx : (a.extract 1 2).size ≤ 1 := by rw [ByteArray.size_extract]; omega
  obtain ⟨X, hX⟩ : ∃ X, a.extract 1 2 = bs X := ⟨_, eq_bs _⟩
  obtain ⟨S, rfl⟩ : ∃ S, stan = bs S := ⟨_, eq_bs _⟩
  obtain ⟨E, rfl⟩ : ∃ E, sent = bs E := ⟨_, eq_bs _⟩
  unfold trade_Key.f keyL
  rw [bs_size] at h2 h5
  rw [hX, bs_size] at lx
  simp only [decide_eq_false (show ¬ (a.size : Int) < 2 by omega), decide_eq_true (show (2 : Int) ≤ (a.size : Int) by omega), Bool.and_self, cond_true, cond_false, o1, o2, Option.bind_some, hX, bs_append, bs_size, bs_list, List.length_append]
  rw [ble_big (by omega), cond_true, ble_big (by omega), cond_true, ble_big (by omega), cond_true, ble_big (by omega), cond_true]
theorem pk_ok {n k v l : Int} {s : List UInt8} (hR : bursarref16_Of.f n = some (k, v, l)) (hm : mayF k v l s = true) (hs : s.length ≤ 999) : (pkE (n, bs s)).2 = 0 := by
  obtain ⟨k', v', l', hR', hO, hk⟩ := of_is n
  have e := hR'.symm.trans hR
  injection e with e
  injection e with e1 e
  injection e with e2 e3
  subst e1 e2 e3
  unfold pkE
  rw [pack_is hO hk (by omega), hm]
  have h0 : ¬ k' = 0 := fun h => by rw [h] at hm; simp [mayF] at hm
  rw [decide_eq_false h0]
  rfl
theorem packF_ok {m : Msg} {i : Nat} (hg : goodM m) (hw : whose m.1 = some i) (hm : mayL (m.2.map (·.1)) = true) (ho : okP m.2 = true) (hl : m.2.length ≤ 3) : (packF m).2 = 0 := by
  have h1 : (headM m.2).length ≤ 16 := by rw [headM_len]; cases wide (m.2.map (·.1)) <;> simp
  have h2 := bodyM_len hg.2
  have h3 : ¬ 4000 < 4 + (headM m.2).length + (bodyM m.2).length := by omega
  unfold packF
  rw [hw]
  simp only [hm, ho, Bool.and_self, cond_true, decide_eq_false h3, cond_false]
def awL : List Fld := [((7 : Int), bs [48, 49, 48, 50, 48, 51, 48, 52, 48, 53]), ((11 : Int), bs [48, 48, 48, 48, 48, 55]), ((70 : Int), bs [51, 48, 49])]
theorem awL_good (t : ByteArray) : goodM (t, awL) := ⟨(by decide : awL.length ≤ 130), fun f hf => by
  rcases List.mem_cons.1 hf with rfl | hf
  · simp [bs_size]
  · rcases List.mem_cons.1 hf with rfl | hf
    · simp [bs_size]
    · rcases List.mem_cons.1 hf with rfl | hf
      · simp [bs_size]
      · cases hf⟩
theorem awL_ok : okP awL = true := by
  have h1 := pk_ok (s := [48, 49, 48, 50, 48, 51, 48, 52, 48, 53]) of7 (by decide +kernel) (by decide)
  have h2 := pk_ok (s := [48, 48, 48, 48, 48, 55]) of11 (by decide +kernel) (by decide)
  have h3 := pk_ok (n := 70) (s := [51, 48, 49]) aw19c (by decide +kernel) (by decide)
  show ((pkE (7, bs [48, 49, 48, 50, 48, 51, 48, 52, 48, 53])).2 == 0 && ((pkE (11, bs [48, 48, 48, 48, 48, 55])).2 == 0 && ((pkE (70, bs [51, 48, 49])).2 == 0 && true))) = true
  rw [h1, h2, h3]; rfl
theorem awL_may : mayL (awL.map (·.1)) = true := by kernel_rfl
theorem awW1 : whose (bs [48, 56, 48, 48]) = some 27 := by decide +kernel
theorem awW2 : whose (bs [48, 56, 49, 48]) = some 29 := by decide +kernel
theorem awRead1 : trade_Read.f (bs [48, 56, 48, 48], awL) = some ((bs [48, 56, 48, 48], bs [], bs [], 0, bs [48, 49, 48, 50, 48, 51, 48, 52, 48, 53], bs [48, 48, 48, 48, 48, 55], bs [], bs [], bs [], 0, 0, bs [51, 48, 49]), 0) := by
  have hg := awL_good (bs [48, 56, 48, 48])
  have hp := packF_ok hg awW1 awL_may awL_ok (by decide)
  have := tradeRead_is hg hp awW1 (by decide)
  rw [this]
  have hk : (mAt 27).1 = 8 := by decide
  have ho : okT (bs [48, 56, 48, 48], awL) 8 = true := by kernel_rfl
  have ht : trT (bs [48, 56, 48, 48], awL) ((bs [48, 56, 48, 48]).extract 0 3 ++ bs [48]) 8 = (bs [48, 56, 48, 48], bs [], bs [], 0, bs [48, 49, 48, 50, 48, 51, 48, 52, 48, 53], bs [48, 48, 48, 48, 48, 55], bs [], bs [], bs [], 0, 0, bs [51, 48, 49]) := by
    rw [bs_extract, bs_append]
    kernel_rfl
  rw [hk, ho, ht]
  rfl
theorem awRead2 : trade_Read.f (bs [48, 56, 49, 48], awL) = some (zT, 17) := by
  have hg := awL_good (bs [48, 56, 49, 48])
  have hp := packF_ok hg awW2 awL_may awL_ok (by decide)
  exact tradeRead_answer hg hp awW2 (by decide)
def awP1 : Po := (1, 0, bs [52, 49, 49, 49, 49, 49, 49, 49, 49, 49, 49, 49, 49, 49, 49, 49], bs [], bs [], 5)
theorem awP1_may : mayP awP1 = true := by decide +kernel
theorem awP1_txt : txtP awP1 = [49, 48, 48, 48, 48, 48, 48, 48, 48, 48, 48, 52, 49, 49, 49, 49, 49, 49, 49, 49, 49, 49, 49, 49, 49, 49, 49, 48, 48, 48, 48, 48, 48, 48, 48, 48, 48, 48, 48, 48, 48, 48, 48, 48, 48, 48, 48, 48, 48, 48, 48, 48, 48, 48, 48, 48, 48, 48, 53] := by decide +kernel
theorem awake20 : bursarlaw20_awake.f () = some true := by
  have h1 := awRead1
  have h2 := awRead2
  have h3 := tradeText_is (mayP_small awP1_may)
  rw [awP1_may, awP1_txt] at h3
  unfold awL at h1 h2
  unfold awP1 at h3
  have h4 := tradeKey_is (t := (bs [48, 56, 48, 48], bs [], bs [], 0, bs [48, 49, 48, 50, 48, 51, 48, 52, 48, 53], bs [48, 48, 48, 48, 48, 55], bs [], bs [], bs [], 0, 0, bs [51, 48, 49])) ⟨by decide, by decide, by decide, by decide, by decide⟩
  have h5 : keyL (bs [48, 56, 48, 48], bs [], bs [], 0, bs [48, 49, 48, 50, 48, 51, 48, 52, 48, 53], bs [48, 48, 48, 48, 48, 55], bs [], bs [], bs [], 0, 0, bs [51, 48, 49]) = [56, 48, 48, 48, 48, 48, 55, 48, 48, 48, 48, 48, 48, 48, 48, 48, 48, 48, 48, 48, 48, 48, 48, 48, 48, 48, 49, 48, 50, 48, 51, 48, 52, 48, 53] := by
    unfold keyL
    simp only [bs_extract, bs_list, orL_nil]
    rfl
  rw [h5] at h4
  unfold bursarlaw20_awake.f
  simp only [h1, h2, h3, h4, Option.bind_some, texts_list, decide_true, cond_true, BEq.rfl]
end Go.Proofs.YtpoiijkodpnobaaGreatDoor
end
section
set_option linter.unusedVariables false
set_option maxRecDepth 100000
namespace Go.Proofs.YtpoiijkodpnobaaGreatDoor
open Go Go.Fw
noncomputable def bursarref20_Read.l14 (s : (Bool × (Int × (Bool × (ByteArray × ((List (Int × ByteArray)) × (ByteArray × (ByteArray × (ByteArray × (Int × (ByteArray × (ByteArray × (ByteArray × (ByteArray × (ByteArray × (Int × (Int × (ByteArray × (Int × (Bool × (Bool × (Bool × (ByteArray × (ByteArray × (ByteArray × (Int × (ByteArray × (ByteArray × (ByteArray × (ByteArray × (ByteArray × (Int × (Int × ByteArray))))))))))))))))))))))))))))))))) : Option ((Bool × (Int × (Bool × (ByteArray × ((List (Int × ByteArray)) × (ByteArray × (ByteArray × (ByteArray × (Int × (ByteArray × (ByteArray × (ByteArray × (ByteArray × (ByteArray × (Int × (Int × (ByteArray × (Int × (Bool × (Bool × (Bool × (ByteArray × (ByteArray × (ByteArray × (Int × (ByteArray × (ByteArray × (ByteArray × (ByteArray × (ByteArray × (Int × (Int × ByteArray))))))))))))))))))))))))))))))))) := (bif s.2.2.1 then (some s) else (some (s.1, (s.2.1, ((s.2.1 == (2 : Int)), s.2.2.2)))))
noncomputable def bursarref20_Read.l16 (s : (Bool × (Int × (Bool × (ByteArray × ((List (Int × ByteArray)) × (ByteArray × (ByteArray × (ByteArray × (Int × (ByteArray × (ByteArray × (ByteArray × (ByteArray × (ByteArray × (Int × (Int × (ByteArray × (Int × (Bool × (Bool × (Bool × (ByteArray × (ByteArray × (ByteArray × (Int × (ByteArray × (ByteArray × (ByteArray × (ByteArray × (ByteArray × (Int × (Int × ByteArray))))))))))))))))))))))))))))))))) : Option ((Bool × (ByteArray × ((List (Int × ByteArray)) × (ByteArray × (ByteArray × (ByteArray × (Int × (ByteArray × (ByteArray × (ByteArray × (ByteArray × (ByteArray × (Int × (Int × (ByteArray × (Int × (Bool × (Bool × (Bool × (ByteArray × (ByteArray × (ByteArray × (Int × (ByteArray × (ByteArray × (ByteArray × (ByteArray × (ByteArray × (Int × (Int × ByteArray))))))))))))))))))))))))))))))) := (bif s.2.2.1 then (((bursarref20_has.f ((s.2.2.2.1, s.2.2.2.2.1), [(2 : Int), (3 : Int), (4 : Int), (7 : Int), (11 : Int), (32 : Int), (37 : Int)]))).bind fun x33 => (bif x33 then (((bursarref20_of.f ((s.2.2.2.1, s.2.2.2.2.1), (2 : Int)))).bind fun x34 => (((bursarref20_pan.f x34)).bind fun x35 => (bif x35 then (((bursarref20_of.f ((s.2.2.2.1, s.2.2.2.2.1), (32 : Int)))).bind fun x36 => (((bursarref20_acq.f x36)).bind fun x37 => (bif x37 then (((bursarref20_of.f ((s.2.2.2.1, s.2.2.2.2.1), (37 : Int)))).bind fun x38 => (((bursarref14_Ref.f x38)).bind fun x39 => (((bursarref20_of.f ((s.2.2.2.1, s.2.2.2.2.1), (2 : Int)))).bind fun x40 => (((bursarref20_of.f ((s.2.2.2.1, s.2.2.2.2.1), (3 : Int)))).bind fun x41 => (((bursarref20_of.f ((s.2.2.2.1, s.2.2.2.2.1), (32 : Int)))).bind fun x42 => (((bursarref20_of.f ((s.2.2.2.1, s.2.2.2.2.1), (37 : Int)))).bind fun x43 => (some (x39, (s.2.2.2.1, (s.2.2.2.2.1, (s.2.2.2.2.2.1, (s.2.2.2.2.2.2.1, (s.2.2.2.2.2.2.2.1, (s.2.2.2.2.2.2.2.2.1, (s.2.2.2.2.2.2.2.2.2.1, (s.2.2.2.2.2.2.2.2.2.2.1, (s.2.2.2.2.2.2.2.2.2.2.2.1, (s.2.2.2.2.2.2.2.2.2.2.2.2.1, (s.2.2.2.2.2.2.2.2.2.2.2.2.2.1, (s.2.2.2.2.2.2.2.2.2.2.2.2.2.2.1, (s.2.2.2.2.2.2.2.2.2.2.2.2.2.2.2.1, (s.2.2.2.2.2.2.2.2.2.2.2.2.2.2.2.2.1, (s.2.2.2.2.2.2.2.2.2.2.2.2.2.2.2.2.2.1, (s.2.2.2.2.2.2.2.2.2.2.2.2.2.2.2.2.2.2.1, (s.2.2.2.2.2.2.2.2.2.2.2.2.2.2.2.2.2.2.2.1, (s.2.2.2.2.2.2.2.2.2.2.2.2.2.2.2.2.2.2.2.2.1, (s.2.2.2.2.2.2.2.2.2.2.2.2.2.2.2.2.2.2.2.2.2.1, (x40, (x41, (s.2.2.2.2.2.2.2.2.2.2.2.2.2.2.2.2.2.2.2.2.2.2.2.2.1, (s.2.2.2.2.2.2.2.2.2.2.2.2.2.2.2.2.2.2.2.2.2.2.2.2.2.1, (s.2.2.2.2.2.2.2.2.2.2.2.2.2.2.2.2.2.2.2.2.2.2.2.2.2.2.1, (x42, (x43, s.2.2.2.2.2.2.2.2.2.2.2.2.2.2.2.2.2.2.2.2.2.2.2.2.2.2.2.2.2)))))))))))))))))))))))))))))))))) else (((bursarref20_of.f ((s.2.2.2.1, s.2.2.2.2.1), (2 : Int)))).bind fun x38 => (((bursarref20_of.f ((s.2.2.2.1, s.2.2.2.2.1), (3 : Int)))).bind fun x39 => (((bursarref20_of.f ((s.2.2.2.1, s.2.2.2.2.1), (32 : Int)))).bind fun x40 => (((bursarref20_of.f ((s.2.2.2.1, s.2.2.2.2.1), (37 : Int)))).bind fun x41 => (some (false, (s.2.2.2.1, (s.2.2.2.2.1, (s.2.2.2.2.2.1, (s.2.2.2.2.2.2.1, (s.2.2.2.2.2.2.2.1, (s.2.2.2.2.2.2.2.2.1, (s.2.2.2.2.2.2.2.2.2.1, (s.2.2.2.2.2.2.2.2.2.2.1, (s.2.2.2.2.2.2.2.2.2.2.2.1, (s.2.2.2.2.2.2.2.2.2.2.2.2.1, (s.2.2.2.2.2.2.2.2.2.2.2.2.2.1, (s.2.2.2.2.2.2.2.2.2.2.2.2.2.2.1, (s.2.2.2.2.2.2.2.2.2.2.2.2.2.2.2.1, (s.2.2.2.2.2.2.2.2.2.2.2.2.2.2.2.2.1, (s.2.2.2.2.2.2.2.2.2.2.2.2.2.2.2.2.2.1, (s.2.2.2.2.2.2.2.2.2.2.2.2.2.2.2.2.2.2.1, (s.2.2.2.2.2.2.2.2.2.2.2.2.2.2.2.2.2.2.2.1, (s.2.2.2.2.2.2.2.2.2.2.2.2.2.2.2.2.2.2.2.2.1, (s.2.2.2.2.2.2.2.2.2.2.2.2.2.2.2.2.2.2.2.2.2.1, (x38, (x39, (s.2.2.2.2.2.2.2.2.2.2.2.2.2.2.2.2.2.2.2.2.2.2.2.2.1, (s.2.2.2.2.2.2.2.2.2.2.2.2.2.2.2.2.2.2.2.2.2.2.2.2.2.1, (s.2.2.2.2.2.2.2.2.2.2.2.2.2.2.2.2.2.2.2.2.2.2.2.2.2.2.1, (x40, (x41, s.2.2.2.2.2.2.2.2.2.2.2.2.2.2.2.2.2.2.2.2.2.2.2.2.2.2.2.2.2))))))))))))))))))))))))))))))))))) else (((bursarref20_of.f ((s.2.2.2.1, s.2.2.2.2.1), (2 : Int)))).bind fun x36 => (((bursarref20_of.f ((s.2.2.2.1, s.2.2.2.2.1), (3 : Int)))).bind fun x37 => (((bursarref20_of.f ((s.2.2.2.1, s.2.2.2.2.1), (32 : Int)))).bind fun x38 => (((bursarref20_of.f ((s.2.2.2.1, s.2.2.2.2.1), (37 : Int)))).bind fun x39 => (some (false, (s.2.2.2.1, (s.2.2.2.2.1, (s.2.2.2.2.2.1, (s.2.2.2.2.2.2.1, (s.2.2.2.2.2.2.2.1, (s.2.2.2.2.2.2.2.2.1, (s.2.2.2.2.2.2.2.2.2.1, (s.2.2.2.2.2.2.2.2.2.2.1, (s.2.2.2.2.2.2.2.2.2.2.2.1, (s.2.2.2.2.2.2.2.2.2.2.2.2.1, (s.2.2.2.2.2.2.2.2.2.2.2.2.2.1, (s.2.2.2.2.2.2.2.2.2.2.2.2.2.2.1, (s.2.2.2.2.2.2.2.2.2.2.2.2.2.2.2.1, (s.2.2.2.2.2.2.2.2.2.2.2.2.2.2.2.2.1, (s.2.2.2.2.2.2.2.2.2.2.2.2.2.2.2.2.2.1, (s.2.2.2.2.2.2.2.2.2.2.2.2.2.2.2.2.2.2.1, (s.2.2.2.2.2.2.2.2.2.2.2.2.2.2.2.2.2.2.2.1, (s.2.2.2.2.2.2.2.2.2.2.2.2.2.2.2.2.2.2.2.2.1, (s.2.2.2.2.2.2.2.2.2.2.2.2.2.2.2.2.2.2.2.2.2.1, (x36, (x37, (s.2.2.2.2.2.2.2.2.2.2.2.2.2.2.2.2.2.2.2.2.2.2.2.2.1, (s.2.2.2.2.2.2.2.2.2.2.2.2.2.2.2.2.2.2.2.2.2.2.2.2.2.1, (s.2.2.2.2.2.2.2.2.2.2.2.2.2.2.2.2.2.2.2.2.2.2.2.2.2.2.1, (x38, (x39, s.2.2.2.2.2.2.2.2.2.2.2.2.2.2.2.2.2.2.2.2.2.2.2.2.2.2.2.2.2))))))))))))))))))))))))))))))))))) else (((bursarref20_of.f ((s.2.2.2.1, s.2.2.2.2.1), (2 : Int)))).bind fun x34 => (((bursarref20_of.f ((s.2.2.2.1, s.2.2.2.2.1), (3 : Int)))).bind fun x35 => (((bursarref20_of.f ((s.2.2.2.1, s.2.2.2.2.1), (32 : Int)))).bind fun x36 => (((bursarref20_of.f ((s.2.2.2.1, s.2.2.2.2.1), (37 : Int)))).bind fun x37 => (some (false, (s.2.2.2.1, (s.2.2.2.2.1, (s.2.2.2.2.2.1, (s.2.2.2.2.2.2.1, (s.2.2.2.2.2.2.2.1, (s.2.2.2.2.2.2.2.2.1, (s.2.2.2.2.2.2.2.2.2.1, (s.2.2.2.2.2.2.2.2.2.2.1, (s.2.2.2.2.2.2.2.2.2.2.2.1, (s.2.2.2.2.2.2.2.2.2.2.2.2.1, (s.2.2.2.2.2.2.2.2.2.2.2.2.2.1, (s.2.2.2.2.2.2.2.2.2.2.2.2.2.2.1, (s.2.2.2.2.2.2.2.2.2.2.2.2.2.2.2.1, (s.2.2.2.2.2.2.2.2.2.2.2.2.2.2.2.2.1, (s.2.2.2.2.2.2.2.2.2.2.2.2.2.2.2.2.2.1, (s.2.2.2.2.2.2.2.2.2.2.2.2.2.2.2.2.2.2.1, (s.2.2.2.2.2.2.2.2.2.2.2.2.2.2.2.2.2.2.2.1, (s.2.2.2.2.2.2.2.2.2.2.2.2.2.2.2.2.2.2.2.2.1, (s.2.2.2.2.2.2.2.2.2.2.2.2.2.2.2.2.2.2.2.2.2.1, (x34, (x35, (s.2.2.2.2.2.2.2.2.2.2.2.2.2.2.2.2.2.2.2.2.2.2.2.2.1, (s.2.2.2.2.2.2.2.2.2.2.2.2.2.2.2.2.2.2.2.2.2.2.2.2.2.1, (s.2.2.2.2.2.2.2.2.2.2.2.2.2.2.2.2.2.2.2.2.2.2.2.2.2.2.1, (x36, (x37, s.2.2.2.2.2.2.2.2.2.2.2.2.2.2.2.2.2.2.2.2.2.2.2.2.2.2.2.2.2)))))))))))))))))))))))))))))))))) else (bif (s.2.1 == (4 : Int)) then (((bursarref20_has.f ((s.2.2.2.1, s.2.2.2.2.1), [(4 : Int), (7 : Int), (11 : Int), (32 : Int), (37 : Int), (90 : Int)]))).bind fun x33 => (bif x33 then (((bursarref20_of.f ((s.2.2.2.1, s.2.2.2.2.1), (32 : Int)))).bind fun x34 => (((bursarref20_acq.f x34)).bind fun x35 => (bif x35 then (((bursarref20_of.f ((s.2.2.2.1, s.2.2.2.2.1), (37 : Int)))).bind fun x36 => (((bursarref14_Ref.f x36)).bind fun x37 => (((bursarref20_of.f ((s.2.2.2.1, s.2.2.2.2.1), (32 : Int)))).bind fun x38 => (((bursarref20_of.f ((s.2.2.2.1, s.2.2.2.2.1), (37 : Int)))).bind fun x39 => (((bursarref20_of.f ((s.2.2.2.1, s.2.2.2.2.1), (90 : Int)))).bind fun x40 => (bif ((x40.size : Int) == (42 : Int)) then (bif (true && (decide (((4 : Int) ≤ (x40.size : Int))))) then (((bursarref18_Parse.f (ByteArray.extract x40 0 4))).bind fun x41 => (bif x37 then (bif x41.2 then (bif (!x41.1.2.2.1) then (bif (true && (decide (((2 : Int) ≤ (x40.size : Int))))) then (bif (true && (decide (((10 : Int) ≤ (x40.size : Int))))) then (bif (Nat.ble ((ByteArray.extract x40 1 2).size + (ByteArray.extract x40 4 10).size) 9223372036854775807) then (bif (Nat.ble (((ByteArray.extract x40 1 2) ++ (ByteArray.extract x40 4 10)).size + x39.size) 9223372036854775807) then (bif (Nat.ble ((((ByteArray.extract x40 1 2) ++ (ByteArray.extract x40 4 10)) ++ x39).size + x38.size) 9223372036854775807) then (bif (true && (decide (((20 : Int) ≤ (x40.size : Int))))) then (bif (Nat.ble (((((ByteArray.extract x40 1 2) ++ (ByteArray.extract x40 4 10)) ++ x39) ++ x38).size + (ByteArray.extract x40 10 20).size) 9223372036854775807) then (some ((decide ((x41.1.1 ≤ (2 : Int)))), (s.2.2.2.1, (s.2.2.2.2.1, (s.2.2.2.2.2.1, (s.2.2.2.2.2.2.1, (s.2.2.2.2.2.2.2.1, (s.2.2.2.2.2.2.2.2.1, (s.2.2.2.2.2.2.2.2.2.1, (s.2.2.2.2.2.2.2.2.2.2.1, (s.2.2.2.2.2.2.2.2.2.2.2.1, (s.2.2.2.2.2.2.2.2.2.2.2.2.1, (s.2.2.2.2.2.2.2.2.2.2.2.2.2.1, (s.2.2.2.2.2.2.2.2.2.2.2.2.2.2.1, (s.2.2.2.2.2.2.2.2.2.2.2.2.2.2.2.1, (s.2.2.2.2.2.2.2.2.2.2.2.2.2.2.2.2.1, (s.2.2.2.2.2.2.2.2.2.2.2.2.2.2.2.2.2.1, (s.2.2.2.2.2.2.2.2.2.2.2.2.2.2.2.2.2.2.1, (s.2.2.2.2.2.2.2.2.2.2.2.2.2.2.2.2.2.2.2.1, (s.2.2.2.2.2.2.2.2.2.2.2.2.2.2.2.2.2.2.2.2.1, (s.2.2.2.2.2.2.2.2.2.2.2.2.2.2.2.2.2.2.2.2.2.1, (s.2.2.2.2.2.2.2.2.2.2.2.2.2.2.2.2.2.2.2.2.2.2.1, (s.2.2.2.2.2.2.2.2.2.2.2.2.2.2.2.2.2.2.2.2.2.2.2.1, (s.2.2.2.2.2.2.2.2.2.2.2.2.2.2.2.2.2.2.2.2.2.2.2.2.1, (s.2.2.2.2.2.2.2.2.2.2.2.2.2.2.2.2.2.2.2.2.2.2.2.2.2.1, (s.2.2.2.2.2.2.2.2.2.2.2.2.2.2.2.2.2.2.2.2.2.2.2.2.2.2.1, (x38, (x39, ((((((ByteArray.extract x40 1 2) ++ (ByteArray.extract x40 4 10)) ++ x39) ++ x38) ++ (ByteArray.extract x40 10 20)), s.2.2.2.2.2.2.2.2.2.2.2.2.2.2.2.2.2.2.2.2.2.2.2.2.2.2.2.2.2.2))))))))))))))))))))))))))))) else none) else none) else none) else none) else none) else none) else none) else (bif (true && (decide (((2 : Int) ≤ (x40.size : Int))))) then (bif (true && (decide (((10 : Int) ≤ (x40.size : Int))))) then (bif (Nat.ble ((ByteArray.extract x40 1 2).size + (ByteArray.extract x40 4 10).size) 9223372036854775807) then (bif (Nat.ble (((ByteArray.extract x40 1 2) ++ (ByteArray.extract x40 4 10)).size + x39.size) 9223372036854775807) then (bif (Nat.ble ((((ByteArray.extract x40 1 2) ++ (ByteArray.extract x40 4 10)) ++ x39).size + x38.size) 9223372036854775807) then (bif (true && (decide (((20 : Int) ≤ (x40.size : Int))))) then (bif (Nat.ble (((((ByteArray.extract x40 1 2) ++ (ByteArray.extract x40 4 10)) ++ x39) ++ x38).size + (ByteArray.extract x40 10 20).size) 9223372036854775807) then (some (false, (s.2.2.2.1, (s.2.2.2.2.1, (s.2.2.2.2.2.1, (s.2.2.2.2.2.2.1, (s.2.2.2.2.2.2.2.1, (s.2.2.2.2.2.2.2.2.1, (s.2.2.2.2.2.2.2.2.2.1, (s.2.2.2.2.2.2.2.2.2.2.1, (s.2.2.2.2.2.2.2.2.2.2.2.1, (s.2.2.2.2.2.2.2.2.2.2.2.2.1, (s.2.2.2.2.2.2.2.2.2.2.2.2.2.1, (s.2.2.2.2.2.2.2.2.2.2.2.2.2.2.1, (s.2.2.2.2.2.2.2.2.2.2.2.2.2.2.2.1, (s.2.2.2.2.2.2.2.2.2.2.2.2.2.2.2.2.1, (s.2.2.2.2.2.2.2.2.2.2.2.2.2.2.2.2.2.1, (s.2.2.2.2.2.2.2.2.2.2.2.2.2.2.2.2.2.2.1, (s.2.2.2.2.2.2.2.2.2.2.2.2.2.2.2.2.2.2.2.1, (s.2.2.2.2.2.2.2.2.2.2.2.2.2.2.2.2.2.2.2.2.1, (s.2.2.2.2.2.2.2.2.2.2.2.2.2.2.2.2.2.2.2.2.2.1, (s.2.2.2.2.2.2.2.2.2.2.2.2.2.2.2.2.2.2.2.2.2.2.1, (s.2.2.2.2.2.2.2.2.2.2.2.2.2.2.2.2.2.2.2.2.2.2.2.1, (s.2.2.2.2.2.2.2.2.2.2.2.2.2.2.2.2.2.2.2.2.2.2.2.2.1, (s.2.2.2.2.2.2.2.2.2.2.2.2.2.2.2.2.2.2.2.2.2.2.2.2.2.1, (s.2.2.2.2.2.2.2.2.2.2.2.2.2.2.2.2.2.2.2.2.2.2.2.2.2.2.1, (x38, (x39, ((((((ByteArray.extract x40 1 2) ++ (ByteArray.extract x40 4 10)) ++ x39) ++ x38) ++ (ByteArray.extract x40 10 20)), s.2.2.2.2.2.2.2.2.2.2.2.2.2.2.2.2.2.2.2.2.2.2.2.2.2.2.2.2.2.2))))))))))))))))))))))))))))) else none) else none) else none) else none) else none) else none) else none)) else (bif (true && (decide (((2 : Int) ≤ (x40.size : Int))))) then (bif (true && (decide (((10 : Int) ≤ (x40.size : Int))))) then (bif (Nat.ble ((ByteArray.extract x40 1 2).size + (ByteArray.extract x40 4 10).size) 9223372036854775807) then (bif (Nat.ble (((ByteArray.extract x40 1 2) ++ (ByteArray.extract x40 4 10)).size + x39.size) 9223372036854775807) then (bif (Nat.ble ((((ByteArray.extract x40 1 2) ++ (ByteArray.extract x40 4 10)) ++ x39).size + x38.size) 9223372036854775807) then (bif (true && (decide (((20 : Int) ≤ (x40.size : Int))))) then (bif (Nat.ble (((((ByteArray.extract x40 1 2) ++ (ByteArray.extract x40 4 10)) ++ x39) ++ x38).size + (ByteArray.extract x40 10 20).size) 9223372036854775807) then (some (false, (s.2.2.2.1, (s.2.2.2.2.1, (s.2.2.2.2.2.1, (s.2.2.2.2.2.2.1, (s.2.2.2.2.2.2.2.1, (s.2.2.2.2.2.2.2.2.1, (s.2.2.2.2.2.2.2.2.2.1, (s.2.2.2.2.2.2.2.2.2.2.1, (s.2.2.2.2.2.2.2.2.2.2.2.1, (s.2.2.2.2.2.2.2.2.2.2.2.2.1, (s.2.2.2.2.2.2.2.2.2.2.2.2.2.1, (s.2.2.2.2.2.2.2.2.2.2.2.2.2.2.1, (s.2.2.2.2.2.2.2.2.2.2.2.2.2.2.2.1, (s.2.2.2.2.2.2.2.2.2.2.2.2.2.2.2.2.1, (s.2.2.2.2.2.2.2.2.2.2.2.2.2.2.2.2.2.1, (s.2.2.2.2.2.2.2.2.2.2.2.2.2.2.2.2.2.2.1, (s.2.2.2.2.2.2.2.2.2.2.2.2.2.2.2.2.2.2.2.1, (s.2.2.2.2.2.2.2.2.2.2.2.2.2.2.2.2.2.2.2.2.1, (s.2.2.2.2.2.2.2.2.2.2.2.2.2.2.2.2.2.2.2.2.2.1, (s.2.2.2.2.2.2.2.2.2.2.2.2.2.2.2.2.2.2.2.2.2.2.1, (s.2.2.2.2.2.2.2.2.2.2.2.2.2.2.2.2.2.2.2.2.2.2.2.1, (s.2.2.2.2.2.2.2.2.2.2.2.2.2.2.2.2.2.2.2.2.2.2.2.2.1, (s.2.2.2.2.2.2.2.2.2.2.2.2.2.2.2.2.2.2.2.2.2.2.2.2.2.1, (s.2.2.2.2.2.2.2.2.2.2.2.2.2.2.2.2.2.2.2.2.2.2.2.2.2.2.1, (x38, (x39, ((((((ByteArray.extract x40 1 2) ++ (ByteArray.extract x40 4 10)) ++ x39) ++ x38) ++ (ByteArray.extract x40 10 20)), s.2.2.2.2.2.2.2.2.2.2.2.2.2.2.2.2.2.2.2.2.2.2.2.2.2.2.2.2.2.2))))))))))))))))))))))))))))) else none) else none) else none) else none) else none) else none) else none)) else (bif (true && (decide (((2 : Int) ≤ (x40.size : Int))))) then (bif (true && (decide (((10 : Int) ≤ (x40.size : Int))))) then (bif (Nat.ble ((ByteArray.extract x40 1 2).size + (ByteArray.extract x40 4 10).size) 9223372036854775807) then (bif (Nat.ble (((ByteArray.extract x40 1 2) ++ (ByteArray.extract x40 4 10)).size + x39.size) 9223372036854775807) then (bif (Nat.ble ((((ByteArray.extract x40 1 2) ++ (ByteArray.extract x40 4 10)) ++ x39).size + x38.size) 9223372036854775807) then (bif (true && (decide (((20 : Int) ≤ (x40.size : Int))))) then (bif (Nat.ble (((((ByteArray.extract x40 1 2) ++ (ByteArray.extract x40 4 10)) ++ x39) ++ x38).size + (ByteArray.extract x40 10 20).size) 9223372036854775807) then (some (false, (s.2.2.2.1, (s.2.2.2.2.1, (s.2.2.2.2.2.1, (s.2.2.2.2.2.2.1, (s.2.2.2.2.2.2.2.1, (s.2.2.2.2.2.2.2.2.1, (s.2.2.2.2.2.2.2.2.2.1, (s.2.2.2.2.2.2.2.2.2.2.1, (s.2.2.2.2.2.2.2.2.2.2.2.1, (s.2.2.2.2.2.2.2.2.2.2.2.2.1, (s.2.2.2.2.2.2.2.2.2.2.2.2.2.1, (s.2.2.2.2.2.2.2.2.2.2.2.2.2.2.1, (s.2.2.2.2.2.2.2.2.2.2.2.2.2.2.2.1, (s.2.2.2.2.2.2.2.2.2.2.2.2.2.2.2.2.1, (s.2.2.2.2.2.2.2.2.2.2.2.2.2.2.2.2.2.1, (s.2.2.2.2.2.2.2.2.2.2.2.2.2.2.2.2.2.2.1, (s.2.2.2.2.2.2.2.2.2.2.2.2.2.2.2.2.2.2.2.1, (s.2.2.2.2.2.2.2.2.2.2.2.2.2.2.2.2.2.2.2.2.1, (s.2.2.2.2.2.2.2.2.2.2.2.2.2.2.2.2.2.2.2.2.2.1, (s.2.2.2.2.2.2.2.2.2.2.2.2.2.2.2.2.2.2.2.2.2.2.1, (s.2.2.2.2.2.2.2.2.2.2.2.2.2.2.2.2.2.2.2.2.2.2.2.1, (s.2.2.2.2.2.2.2.2.2.2.2.2.2.2.2.2.2.2.2.2.2.2.2.2.1, (s.2.2.2.2.2.2.2.2.2.2.2.2.2.2.2.2.2.2.2.2.2.2.2.2.2.1, (s.2.2.2.2.2.2.2.2.2.2.2.2.2.2.2.2.2.2.2.2.2.2.2.2.2.2.1, (x38, (x39, ((((((ByteArray.extract x40 1 2) ++ (ByteArray.extract x40 4 10)) ++ x39) ++ x38) ++ (ByteArray.extract x40 10 20)), s.2.2.2.2.2.2.2.2.2.2.2.2.2.2.2.2.2.2.2.2.2.2.2.2.2.2.2.2.2.2))))))))))))))))))))))))))))) else none) else none) else none) else none) else none) else none) else none))) else none) else (some (x37, (s.2.2.2.1, (s.2.2.2.2.1, (s.2.2.2.2.2.1, (s.2.2.2.2.2.2.1, (s.2.2.2.2.2.2.2.1, (s.2.2.2.2.2.2.2.2.1, (s.2.2.2.2.2.2.2.2.2.1, (s.2.2.2.2.2.2.2.2.2.2.1, (s.2.2.2.2.2.2.2.2.2.2.2.1, (s.2.2.2.2.2.2.2.2.2.2.2.2.1, (s.2.2.2.2.2.2.2.2.2.2.2.2.2.1, (s.2.2.2.2.2.2.2.2.2.2.2.2.2.2.1, (s.2.2.2.2.2.2.2.2.2.2.2.2.2.2.2.1, (s.2.2.2.2.2.2.2.2.2.2.2.2.2.2.2.2.1, (s.2.2.2.2.2.2.2.2.2.2.2.2.2.2.2.2.2.1, (s.2.2.2.2.2.2.2.2.2.2.2.2.2.2.2.2.2.2.1, (s.2.2.2.2.2.2.2.2.2.2.2.2.2.2.2.2.2.2.2.1, (s.2.2.2.2.2.2.2.2.2.2.2.2.2.2.2.2.2.2.2.2.1, (s.2.2.2.2.2.2.2.2.2.2.2.2.2.2.2.2.2.2.2.2.2.1, (s.2.2.2.2.2.2.2.2.2.2.2.2.2.2.2.2.2.2.2.2.2.2.1, (s.2.2.2.2.2.2.2.2.2.2.2.2.2.2.2.2.2.2.2.2.2.2.2.1, (s.2.2.2.2.2.2.2.2.2.2.2.2.2.2.2.2.2.2.2.2.2.2.2.2.1, (s.2.2.2.2.2.2.2.2.2.2.2.2.2.2.2.2.2.2.2.2.2.2.2.2.2.1, (s.2.2.2.2.2.2.2.2.2.2.2.2.2.2.2.2.2.2.2.2.2.2.2.2.2.2.1, (x38, (x39, s.2.2.2.2.2.2.2.2.2.2.2.2.2.2.2.2.2.2.2.2.2.2.2.2.2.2.2.2.2)))))))))))))))))))))))))))))))))) else (((bursarref20_of.f ((s.2.2.2.1, s.2.2.2.2.1), (32 : Int)))).bind fun x36 => (((bursarref20_of.f ((s.2.2.2.1, s.2.2.2.2.1), (37 : Int)))).bind fun x37 => (((bursarref20_of.f ((s.2.2.2.1, s.2.2.2.2.1), (90 : Int)))).bind fun x38 => (bif ((x38.size : Int) == (42 : Int)) then (bif (true && (decide (((4 : Int) ≤ (x38.size : Int))))) then (((bursarref18_Parse.f (ByteArray.extract x38 0 4))).bind fun x39 => (bif (true && (decide (((2 : Int) ≤ (x38.size : Int))))) then (bif (true && (decide (((10 : Int) ≤ (x38.size : Int))))) then (bif (Nat.ble ((ByteArray.extract x38 1 2).size + (ByteArray.extract x38 4 10).size) 9223372036854775807) then (bif (Nat.ble (((ByteArray.extract x38 1 2) ++ (ByteArray.extract x38 4 10)).size + x37.size) 9223372036854775807) then (bif (Nat.ble ((((ByteArray.extract x38 1 2) ++ (ByteArray.extract x38 4 10)) ++ x37).size + x36.size) 9223372036854775807) then (bif (true && (decide (((20 : Int) ≤ (x38.size : Int))))) then (bif (Nat.ble (((((ByteArray.extract x38 1 2) ++ (ByteArray.extract x38 4 10)) ++ x37) ++ x36).size + (ByteArray.extract x38 10 20).size) 9223372036854775807) then (some (false, (s.2.2.2.1, (s.2.2.2.2.1, (s.2.2.2.2.2.1, (s.2.2.2.2.2.2.1, (s.2.2.2.2.2.2.2.1, (s.2.2.2.2.2.2.2.2.1, (s.2.2.2.2.2.2.2.2.2.1, (s.2.2.2.2.2.2.2.2.2.2.1, (s.2.2.2.2.2.2.2.2.2.2.2.1, (s.2.2.2.2.2.2.2.2.2.2.2.2.1, (s.2.2.2.2.2.2.2.2.2.2.2.2.2.1, (s.2.2.2.2.2.2.2.2.2.2.2.2.2.2.1, (s.2.2.2.2.2.2.2.2.2.2.2.2.2.2.2.1, (s.2.2.2.2.2.2.2.2.2.2.2.2.2.2.2.2.1, (s.2.2.2.2.2.2.2.2.2.2.2.2.2.2.2.2.2.1, (s.2.2.2.2.2.2.2.2.2.2.2.2.2.2.2.2.2.2.1, (s.2.2.2.2.2.2.2.2.2.2.2.2.2.2.2.2.2.2.2.1, (s.2.2.2.2.2.2.2.2.2.2.2.2.2.2.2.2.2.2.2.2.1, (s.2.2.2.2.2.2.2.2.2.2.2.2.2.2.2.2.2.2.2.2.2.1, (s.2.2.2.2.2.2.2.2.2.2.2.2.2.2.2.2.2.2.2.2.2.2.1, (s.2.2.2.2.2.2.2.2.2.2.2.2.2.2.2.2.2.2.2.2.2.2.2.1, (s.2.2.2.2.2.2.2.2.2.2.2.2.2.2.2.2.2.2.2.2.2.2.2.2.1, (s.2.2.2.2.2.2.2.2.2.2.2.2.2.2.2.2.2.2.2.2.2.2.2.2.2.1, (s.2.2.2.2.2.2.2.2.2.2.2.2.2.2.2.2.2.2.2.2.2.2.2.2.2.2.1, (x36, (x37, ((((((ByteArray.extract x38 1 2) ++ (ByteArray.extract x38 4 10)) ++ x37) ++ x36) ++ (ByteArray.extract x38 10 20)), s.2.2.2.2.2.2.2.2.2.2.2.2.2.2.2.2.2.2.2.2.2.2.2.2.2.2.2.2.2.2))))))))))))))))))))))))))))) else none) else none) else none) else none) else none) else none) else none)) else none) else (some (false, (s.2.2.2.1, (s.2.2.2.2.1, (s.2.2.2.2.2.1, (s.2.2.2.2.2.2.1, (s.2.2.2.2.2.2.2.1, (s.2.2.2.2.2.2.2.2.1, (s.2.2.2.2.2.2.2.2.2.1, (s.2.2.2.2.2.2.2.2.2.2.1, (s.2.2.2.2.2.2.2.2.2.2.2.1, (s.2.2.2.2.2.2.2.2.2.2.2.2.1, (s.2.2.2.2.2.2.2.2.2.2.2.2.2.1, (s.2.2.2.2.2.2.2.2.2.2.2.2.2.2.1, (s.2.2.2.2.2.2.2.2.2.2.2.2.2.2.2.1, (s.2.2.2.2.2.2.2.2.2.2.2.2.2.2.2.2.1, (s.2.2.2.2.2.2.2.2.2.2.2.2.2.2.2.2.2.1, (s.2.2.2.2.2.2.2.2.2.2.2.2.2.2.2.2.2.2.1, (s.2.2.2.2.2.2.2.2.2.2.2.2.2.2.2.2.2.2.2.1, (s.2.2.2.2.2.2.2.2.2.2.2.2.2.2.2.2.2.2.2.2.1, (s.2.2.2.2.2.2.2.2.2.2.2.2.2.2.2.2.2.2.2.2.2.1, (s.2.2.2.2.2.2.2.2.2.2.2.2.2.2.2.2.2.2.2.2.2.2.1, (s.2.2.2.2.2.2.2.2.2.2.2.2.2.2.2.2.2.2.2.2.2.2.2.1, (s.2.2.2.2.2.2.2.2.2.2.2.2.2.2.2.2.2.2.2.2.2.2.2.2.1, (s.2.2.2.2.2.2.2.2.2.2.2.2.2.2.2.2.2.2.2.2.2.2.2.2.2.1, (s.2.2.2.2.2.2.2.2.2.2.2.2.2.2.2.2.2.2.2.2.2.2.2.2.2.2.1, (x36, (x37, s.2.2.2.2.2.2.2.2.2.2.2.2.2.2.2.2.2.2.2.2.2.2.2.2.2.2.2.2.2))))))))))))))))))))))))))))))))))) else (((bursarref20_of.f ((s.2.2.2.1, s.2.2.2.2.1), (32 : Int)))).bind fun x34 => (((bursarref20_of.f ((s.2.2.2.1, s.2.2.2.2.1), (37 : Int)))).bind fun x35 => (((bursarref20_of.f ((s.2.2.2.1, s.2.2.2.2.1), (90 : Int)))).bind fun x36 => (bif ((x36.size : Int) == (42 : Int)) then (bif (true && (decide (((4 : Int) ≤ (x36.size : Int))))) then (((bursarref18_Parse.f (ByteArray.extract x36 0 4))).bind fun x37 => (bif (true && (decide (((2 : Int) ≤ (x36.size : Int))))) then (bif (true && (decide (((10 : Int) ≤ (x36.size : Int))))) then (bif (Nat.ble ((ByteArray.extract x36 1 2).size + (ByteArray.extract x36 4 10).size) 9223372036854775807) then (bif (Nat.ble (((ByteArray.extract x36 1 2) ++ (ByteArray.extract x36 4 10)).size + x35.size) 9223372036854775807) then (bif (Nat.ble ((((ByteArray.extract x36 1 2) ++ (ByteArray.extract x36 4 10)) ++ x35).size + x34.size) 9223372036854775807) then (bif (true && (decide (((20 : Int) ≤ (x36.size : Int))))) then (bif (Nat.ble (((((ByteArray.extract x36 1 2) ++ (ByteArray.extract x36 4 10)) ++ x35) ++ x34).size + (ByteArray.extract x36 10 20).size) 9223372036854775807) then (some (false, (s.2.2.2.1, (s.2.2.2.2.1, (s.2.2.2.2.2.1, (s.2.2.2.2.2.2.1, (s.2.2.2.2.2.2.2.1, (s.2.2.2.2.2.2.2.2.1, (s.2.2.2.2.2.2.2.2.2.1, (s.2.2.2.2.2.2.2.2.2.2.1, (s.2.2.2.2.2.2.2.2.2.2.2.1, (s.2.2.2.2.2.2.2.2.2.2.2.2.1, (s.2.2.2.2.2.2.2.2.2.2.2.2.2.1, (s.2.2.2.2.2.2.2.2.2.2.2.2.2.2.1, (s.2.2.2.2.2.2.2.2.2.2.2.2.2.2.2.1, (s.2.2.2.2.2.2.2.2.2.2.2.2.2.2.2.2.1, (s.2.2.2.2.2.2.2.2.2.2.2.2.2.2.2.2.2.1, (s.2.2.2.2.2.2.2.2.2.2.2.2.2.2.2.2.2.2.1, (s.2.2.2.2.2.2.2.2.2.2.2.2.2.2.2.2.2.2.2.1, (s.2.2.2.2.2.2.2.2.2.2.2.2.2.2.2.2.2.2.2.2.1, (s.2.2.2.2.2.2.2.2.2.2.2.2.2.2.2.2.2.2.2.2.2.1, (s.2.2.2.2.2.2.2.2.2.2.2.2.2.2.2.2.2.2.2.2.2.2.1, (s.2.2.2.2.2.2.2.2.2.2.2.2.2.2.2.2.2.2.2.2.2.2.2.1, (s.2.2.2.2.2.2.2.2.2.2.2.2.2.2.2.2.2.2.2.2.2.2.2.2.1, (s.2.2.2.2.2.2.2.2.2.2.2.2.2.2.2.2.2.2.2.2.2.2.2.2.2.1, (s.2.2.2.2.2.2.2.2.2.2.2.2.2.2.2.2.2.2.2.2.2.2.2.2.2.2.1, (x34, (x35, ((((((ByteArray.extract x36 1 2) ++ (ByteArray.extract x36 4 10)) ++ x35) ++ x34) ++ (ByteArray.extract x36 10 20)), s.2.2.2.2.2.2.2.2.2.2.2.2.2.2.2.2.2.2.2.2.2.2.2.2.2.2.2.2.2.2))))))))))))))))))))))))))))) else none) else none) else none) else none) else none) else none) else none)) else none) else (some (false, (s.2.2.2.1, (s.2.2.2.2.1, (s.2.2.2.2.2.1, (s.2.2.2.2.2.2.1, (s.2.2.2.2.2.2.2.1, (s.2.2.2.2.2.2.2.2.1, (s.2.2.2.2.2.2.2.2.2.1, (s.2.2.2.2.2.2.2.2.2.2.1, (s.2.2.2.2.2.2.2.2.2.2.2.1, (s.2.2.2.2.2.2.2.2.2.2.2.2.1, (s.2.2.2.2.2.2.2.2.2.2.2.2.2.1, (s.2.2.2.2.2.2.2.2.2.2.2.2.2.2.1, (s.2.2.2.2.2.2.2.2.2.2.2.2.2.2.2.1, (s.2.2.2.2.2.2.2.2.2.2.2.2.2.2.2.2.1, (s.2.2.2.2.2.2.2.2.2.2.2.2.2.2.2.2.2.1, (s.2.2.2.2.2.2.2.2.2.2.2.2.2.2.2.2.2.2.1, (s.2.2.2.2.2.2.2.2.2.2.2.2.2.2.2.2.2.2.2.1, (s.2.2.2.2.2.2.2.2.2.2.2.2.2.2.2.2.2.2.2.2.1, (s.2.2.2.2.2.2.2.2.2.2.2.2.2.2.2.2.2.2.2.2.2.1, (s.2.2.2.2.2.2.2.2.2.2.2.2.2.2.2.2.2.2.2.2.2.2.1, (s.2.2.2.2.2.2.2.2.2.2.2.2.2.2.2.2.2.2.2.2.2.2.2.1, (s.2.2.2.2.2.2.2.2.2.2.2.2.2.2.2.2.2.2.2.2.2.2.2.2.1, (s.2.2.2.2.2.2.2.2.2.2.2.2.2.2.2.2.2.2.2.2.2.2.2.2.2.1, (s.2.2.2.2.2.2.2.2.2.2.2.2.2.2.2.2.2.2.2.2.2.2.2.2.2.2.1, (x34, (x35, s.2.2.2.2.2.2.2.2.2.2.2.2.2.2.2.2.2.2.2.2.2.2.2.2.2.2.2.2.2)))))))))))))))))))))))))))))))))) else (bif (s.2.1 == (5 : Int)) then (((bursarref20_has.f ((s.2.2.2.1, s.2.2.2.2.1), [(7 : Int), (11 : Int), (32 : Int), (74 : Int), (86 : Int)]))).bind fun x33 => (bif x33 then (((bursarref20_of.f ((s.2.2.2.1, s.2.2.2.2.1), (32 : Int)))).bind fun x34 => (((bursarref20_acq.f x34)).bind fun x35 => (((bursarref20_of.f ((s.2.2.2.1, s.2.2.2.2.1), (32 : Int)))).bind fun x36 => (some (x35, (s.2.2.2.1, (s.2.2.2.2.1, (s.2.2.2.2.2.1, (s.2.2.2.2.2.2.1, (s.2.2.2.2.2.2.2.1, (s.2.2.2.2.2.2.2.2.1, (s.2.2.2.2.2.2.2.2.2.1, (s.2.2.2.2.2.2.2.2.2.2.1, (s.2.2.2.2.2.2.2.2.2.2.2.1, (s.2.2.2.2.2.2.2.2.2.2.2.2.1, (s.2.2.2.2.2.2.2.2.2.2.2.2.2.1, (s.2.2.2.2.2.2.2.2.2.2.2.2.2.2.1, (s.2.2.2.2.2.2.2.2.2.2.2.2.2.2.2.1, (s.2.2.2.2.2.2.2.2.2.2.2.2.2.2.2.2.1, (s.2.2.2.2.2.2.2.2.2.2.2.2.2.2.2.2.2.1, (s.2.2.2.2.2.2.2.2.2.2.2.2.2.2.2.2.2.2.1, (s.2.2.2.2.2.2.2.2.2.2.2.2.2.2.2.2.2.2.2.1, (s.2.2.2.2.2.2.2.2.2.2.2.2.2.2.2.2.2.2.2.2.1, (s.2.2.2.2.2.2.2.2.2.2.2.2.2.2.2.2.2.2.2.2.2.1, (s.2.2.2.2.2.2.2.2.2.2.2.2.2.2.2.2.2.2.2.2.2.2.1, (s.2.2.2.2.2.2.2.2.2.2.2.2.2.2.2.2.2.2.2.2.2.2.2.1, (s.2.2.2.2.2.2.2.2.2.2.2.2.2.2.2.2.2.2.2.2.2.2.2.2.1, (s.2.2.2.2.2.2.2.2.2.2.2.2.2.2.2.2.2.2.2.2.2.2.2.2.2.1, (s.2.2.2.2.2.2.2.2.2.2.2.2.2.2.2.2.2.2.2.2.2.2.2.2.2.2.1, (x36, s.2.2.2.2.2.2.2.2.2.2.2.2.2.2.2.2.2.2.2.2.2.2.2.2.2.2.2.2)))))))))))))))))))))))))))))) else (((bursarref20_of.f ((s.2.2.2.1, s.2.2.2.2.1), (32 : Int)))).bind fun x34 => (some (false, (s.2.2.2.1, (s.2.2.2.2.1, (s.2.2.2.2.2.1, (s.2.2.2.2.2.2.1, (s.2.2.2.2.2.2.2.1, (s.2.2.2.2.2.2.2.2.1, (s.2.2.2.2.2.2.2.2.2.1, (s.2.2.2.2.2.2.2.2.2.2.1, (s.2.2.2.2.2.2.2.2.2.2.2.1, (s.2.2.2.2.2.2.2.2.2.2.2.2.1, (s.2.2.2.2.2.2.2.2.2.2.2.2.2.1, (s.2.2.2.2.2.2.2.2.2.2.2.2.2.2.1, (s.2.2.2.2.2.2.2.2.2.2.2.2.2.2.2.1, (s.2.2.2.2.2.2.2.2.2.2.2.2.2.2.2.2.1, (s.2.2.2.2.2.2.2.2.2.2.2.2.2.2.2.2.2.1, (s.2.2.2.2.2.2.2.2.2.2.2.2.2.2.2.2.2.2.1, (s.2.2.2.2.2.2.2.2.2.2.2.2.2.2.2.2.2.2.2.1, (s.2.2.2.2.2.2.2.2.2.2.2.2.2.2.2.2.2.2.2.2.1, (s.2.2.2.2.2.2.2.2.2.2.2.2.2.2.2.2.2.2.2.2.2.1, (s.2.2.2.2.2.2.2.2.2.2.2.2.2.2.2.2.2.2.2.2.2.2.1, (s.2.2.2.2.2.2.2.2.2.2.2.2.2.2.2.2.2.2.2.2.2.2.2.1, (s.2.2.2.2.2.2.2.2.2.2.2.2.2.2.2.2.2.2.2.2.2.2.2.2.1, (s.2.2.2.2.2.2.2.2.2.2.2.2.2.2.2.2.2.2.2.2.2.2.2.2.2.1, (s.2.2.2.2.2.2.2.2.2.2.2.2.2.2.2.2.2.2.2.2.2.2.2.2.2.2.1, (x34, s.2.2.2.2.2.2.2.2.2.2.2.2.2.2.2.2.2.2.2.2.2.2.2.2.2.2.2.2)))))))))))))))))))))))))))))) else (bif (s.2.1 == (6 : Int)) then (((bursarref20_has.f ((s.2.2.2.1, s.2.2.2.2.1), [(3 : Int), (4 : Int), (7 : Int), (11 : Int), (32 : Int), (37 : Int)]))).bind fun x33 => (bif x33 then (((bursarref20_of.f ((s.2.2.2.1, s.2.2.2.2.1), (32 : Int)))).bind fun x34 => (((bursarref20_acq.f x34)).bind fun x35 => (bif x35 then (((bursarref20_of.f ((s.2.2.2.1, s.2.2.2.2.1), (37 : Int)))).bind fun x36 => (((bursarref14_Ref.f x36)).bind fun x37 => (((bursarref20_of.f ((s.2.2.2.1, s.2.2.2.2.1), (3 : Int)))).bind fun x38 => (((bursarref20_of.f ((s.2.2.2.1, s.2.2.2.2.1), (32 : Int)))).bind fun x39 => (((bursarref20_of.f ((s.2.2.2.1, s.2.2.2.2.1), (37 : Int)))).bind fun x40 => (some (x37, (s.2.2.2.1, (s.2.2.2.2.1, (s.2.2.2.2.2.1, (s.2.2.2.2.2.2.1, (s.2.2.2.2.2.2.2.1, (s.2.2.2.2.2.2.2.2.1, (s.2.2.2.2.2.2.2.2.2.1, (s.2.2.2.2.2.2.2.2.2.2.1, (s.2.2.2.2.2.2.2.2.2.2.2.1, (s.2.2.2.2.2.2.2.2.2.2.2.2.1, (s.2.2.2.2.2.2.2.2.2.2.2.2.2.1, (s.2.2.2.2.2.2.2.2.2.2.2.2.2.2.1, (s.2.2.2.2.2.2.2.2.2.2.2.2.2.2.2.1, (s.2.2.2.2.2.2.2.2.2.2.2.2.2.2.2.2.1, (s.2.2.2.2.2.2.2.2.2.2.2.2.2.2.2.2.2.1, (s.2.2.2.2.2.2.2.2.2.2.2.2.2.2.2.2.2.2.1, (s.2.2.2.2.2.2.2.2.2.2.2.2.2.2.2.2.2.2.2.1, (s.2.2.2.2.2.2.2.2.2.2.2.2.2.2.2.2.2.2.2.2.1, (s.2.2.2.2.2.2.2.2.2.2.2.2.2.2.2.2.2.2.2.2.2.1, (s.2.2.2.2.2.2.2.2.2.2.2.2.2.2.2.2.2.2.2.2.2.2.1, (x38, (s.2.2.2.2.2.2.2.2.2.2.2.2.2.2.2.2.2.2.2.2.2.2.2.2.1, (s.2.2.2.2.2.2.2.2.2.2.2.2.2.2.2.2.2.2.2.2.2.2.2.2.2.1, (s.2.2.2.2.2.2.2.2.2.2.2.2.2.2.2.2.2.2.2.2.2.2.2.2.2.2.1, (x39, (x40, s.2.2.2.2.2.2.2.2.2.2.2.2.2.2.2.2.2.2.2.2.2.2.2.2.2.2.2.2.2))))))))))))))))))))))))))))))))) else (((bursarref20_of.f ((s.2.2.2.1, s.2.2.2.2.1), (3 : Int)))).bind fun x36 => (((bursarref20_of.f ((s.2.2.2.1, s.2.2.2.2.1), (32 : Int)))).bind fun x37 => (((bursarref20_of.f ((s.2.2.2.1, s.2.2.2.2.1), (37 : Int)))).bind fun x38 => (some (false, (s.2.2.2.1, (s.2.2.2.2.1, (s.2.2.2.2.2.1, (s.2.2.2.2.2.2.1, (s.2.2.2.2.2.2.2.1, (s.2.2.2.2.2.2.2.2.1, (s.2.2.2.2.2.2.2.2.2.1, (s.2.2.2.2.2.2.2.2.2.2.1, (s.2.2.2.2.2.2.2.2.2.2.2.1, (s.2.2.2.2.2.2.2.2.2.2.2.2.1, (s.2.2.2.2.2.2.2.2.2.2.2.2.2.1, (s.2.2.2.2.2.2.2.2.2.2.2.2.2.2.1, (s.2.2.2.2.2.2.2.2.2.2.2.2.2.2.2.1, (s.2.2.2.2.2.2.2.2.2.2.2.2.2.2.2.2.1, (s.2.2.2.2.2.2.2.2.2.2.2.2.2.2.2.2.2.1, (s.2.2.2.2.2.2.2.2.2.2.2.2.2.2.2.2.2.2.1, (s.2.2.2.2.2.2.2.2.2.2.2.2.2.2.2.2.2.2.2.1, (s.2.2.2.2.2.2.2.2.2.2.2.2.2.2.2.2.2.2.2.2.1, (s.2.2.2.2.2.2.2.2.2.2.2.2.2.2.2.2.2.2.2.2.2.1, (s.2.2.2.2.2.2.2.2.2.2.2.2.2.2.2.2.2.2.2.2.2.2.1, (x36, (s.2.2.2.2.2.2.2.2.2.2.2.2.2.2.2.2.2.2.2.2.2.2.2.2.1, (s.2.2.2.2.2.2.2.2.2.2.2.2.2.2.2.2.2.2.2.2.2.2.2.2.2.1, (s.2.2.2.2.2.2.2.2.2.2.2.2.2.2.2.2.2.2.2.2.2.2.2.2.2.2.1, (x37, (x38, s.2.2.2.2.2.2.2.2.2.2.2.2.2.2.2.2.2.2.2.2.2.2.2.2.2.2.2.2.2)))))))))))))))))))))))))))))))))) else (((bursarref20_of.f ((s.2.2.2.1, s.2.2.2.2.1), (3 : Int)))).bind fun x34 => (((bursarref20_of.f ((s.2.2.2.1, s.2.2.2.2.1), (32 : Int)))).bind fun x35 => (((bursarref20_of.f ((s.2.2.2.1, s.2.2.2.2.1), (37 : Int)))).bind fun x36 => (some (false, (s.2.2.2.1, (s.2.2.2.2.1, (s.2.2.2.2.2.1, (s.2.2.2.2.2.2.1, (s.2.2.2.2.2.2.2.1, (s.2.2.2.2.2.2.2.2.1, (s.2.2.2.2.2.2.2.2.2.1, (s.2.2.2.2.2.2.2.2.2.2.1, (s.2.2.2.2.2.2.2.2.2.2.2.1, (s.2.2.2.2.2.2.2.2.2.2.2.2.1, (s.2.2.2.2.2.2.2.2.2.2.2.2.2.1, (s.2.2.2.2.2.2.2.2.2.2.2.2.2.2.1, (s.2.2.2.2.2.2.2.2.2.2.2.2.2.2.2.1, (s.2.2.2.2.2.2.2.2.2.2.2.2.2.2.2.2.1, (s.2.2.2.2.2.2.2.2.2.2.2.2.2.2.2.2.2.1, (s.2.2.2.2.2.2.2.2.2.2.2.2.2.2.2.2.2.2.1, (s.2.2.2.2.2.2.2.2.2.2.2.2.2.2.2.2.2.2.2.1, (s.2.2.2.2.2.2.2.2.2.2.2.2.2.2.2.2.2.2.2.2.1, (s.2.2.2.2.2.2.2.2.2.2.2.2.2.2.2.2.2.2.2.2.2.1, (s.2.2.2.2.2.2.2.2.2.2.2.2.2.2.2.2.2.2.2.2.2.2.1, (x34, (s.2.2.2.2.2.2.2.2.2.2.2.2.2.2.2.2.2.2.2.2.2.2.2.2.1, (s.2.2.2.2.2.2.2.2.2.2.2.2.2.2.2.2.2.2.2.2.2.2.2.2.2.1, (s.2.2.2.2.2.2.2.2.2.2.2.2.2.2.2.2.2.2.2.2.2.2.2.2.2.2.1, (x35, (x36, s.2.2.2.2.2.2.2.2.2.2.2.2.2.2.2.2.2.2.2.2.2.2.2.2.2.2.2.2.2))))))))))))))))))))))))))))))))) else (bif (s.2.1 == (8 : Int)) then (((bursarref20_has.f ((s.2.2.2.1, s.2.2.2.2.1), [(7 : Int), (11 : Int), (70 : Int)]))).bind fun x33 => (((bursarref20_of.f ((s.2.2.2.1, s.2.2.2.2.1), (70 : Int)))).bind fun x34 => (some (x33, (s.2.2.2.1, (s.2.2.2.2.1, (s.2.2.2.2.2.1, (s.2.2.2.2.2.2.1, (s.2.2.2.2.2.2.2.1, (s.2.2.2.2.2.2.2.2.1, (s.2.2.2.2.2.2.2.2.2.1, (s.2.2.2.2.2.2.2.2.2.2.1, (s.2.2.2.2.2.2.2.2.2.2.2.1, (s.2.2.2.2.2.2.2.2.2.2.2.2.1, (s.2.2.2.2.2.2.2.2.2.2.2.2.2.1, (s.2.2.2.2.2.2.2.2.2.2.2.2.2.2.1, (s.2.2.2.2.2.2.2.2.2.2.2.2.2.2.2.1, (s.2.2.2.2.2.2.2.2.2.2.2.2.2.2.2.2.1, (s.2.2.2.2.2.2.2.2.2.2.2.2.2.2.2.2.2.1, (s.2.2.2.2.2.2.2.2.2.2.2.2.2.2.2.2.2.2.1, (s.2.2.2.2.2.2.2.2.2.2.2.2.2.2.2.2.2.2.2.1, (s.2.2.2.2.2.2.2.2.2.2.2.2.2.2.2.2.2.2.2.2.1, (s.2.2.2.2.2.2.2.2.2.2.2.2.2.2.2.2.2.2.2.2.2.1, (s.2.2.2.2.2.2.2.2.2.2.2.2.2.2.2.2.2.2.2.2.2.2.1, (s.2.2.2.2.2.2.2.2.2.2.2.2.2.2.2.2.2.2.2.2.2.2.2.1, (s.2.2.2.2.2.2.2.2.2.2.2.2.2.2.2.2.2.2.2.2.2.2.2.2.1, (s.2.2.2.2.2.2.2.2.2.2.2.2.2.2.2.2.2.2.2.2.2.2.2.2.2.1, (s.2.2.2.2.2.2.2.2.2.2.2.2.2.2.2.2.2.2.2.2.2.2.2.2.2.2.1, (s.2.2.2.2.2.2.2.2.2.2.2.2.2.2.2.2.2.2.2.2.2.2.2.2.2.2.2.1, (s.2.2.2.2.2.2.2.2.2.2.2.2.2.2.2.2.2.2.2.2.2.2.2.2.2.2.2.2.1, (s.2.2.2.2.2.2.2.2.2.2.2.2.2.2.2.2.2.2.2.2.2.2.2.2.2.2.2.2.2.1, (s.2.2.2.2.2.2.2.2.2.2.2.2.2.2.2.2.2.2.2.2.2.2.2.2.2.2.2.2.2.2.1, (s.2.2.2.2.2.2.2.2.2.2.2.2.2.2.2.2.2.2.2.2.2.2.2.2.2.2.2.2.2.2.2.1, x34))))))))))))))))))))))))))))))))) else (some (s.1, s.2.2.2)))))))
noncomputable def bursarref20_Read.l41 (s : (Bool × (ByteArray × ((List (Int × ByteArray)) × (ByteArray × (ByteArray × (ByteArray × (Int × (ByteArray × (ByteArray × (ByteArray × (ByteArray × (ByteArray × (Int × (Int × (ByteArray × (Int × (Bool × (Bool × (Bool × (ByteArray × (ByteArray × (ByteArray × (Int × (ByteArray × (ByteArray × (ByteArray × (ByteArray × (ByteArray × (Int × (Int × ByteArray))))))))))))))))))))))))))))))) : Option ((Bool × (Bool × (ByteArray × ((List (Int × ByteArray)) × (ByteArray × (ByteArray × (ByteArray × (Int × (ByteArray × (ByteArray × (ByteArray × (ByteArray × (ByteArray × (Int × (Int × (ByteArray × (Int × (Bool × (Bool × (Bool × (ByteArray × (ByteArray × (ByteArray × (Int × (ByteArray × (ByteArray × (ByteArray × (ByteArray × (ByteArray × (Int × (Int × ByteArray)))))))))))))))))))))))))))))))) := (bif s.1 then (bif (decide ((s.2.2.2.2.2.2.2.2.2.2.2.2.2.2.2.1 ≤ (6 : Int)))) then (some (s.1, ((s.2.2.2.2.2.2.2.2.2.2.2.2.2.2.2.1 != (5 : Int)), s.2))) else (some (s.1, (false, s.2)))) else (some (s.1, (false, s.2))))
noncomputable def bursarref20_Read.l42 (s : (Bool × (Bool × (ByteArray × ((List (Int × ByteArray)) × (ByteArray × (ByteArray × (ByteArray × (Int × (ByteArray × (ByteArray × (ByteArray × (ByteArray × (ByteArray × (Int × (Int × (ByteArray × (Int × (Bool × (Bool × (Bool × (ByteArray × (ByteArray × (ByteArray × (Int × (ByteArray × (ByteArray × (ByteArray × (ByteArray × (ByteArray × (Int × (Int × ByteArray)))))))))))))))))))))))))))))))) : Option ((Bool × (ByteArray × ((List (Int × ByteArray)) × (ByteArray × (ByteArray × (ByteArray × (Int × (ByteArray × (ByteArray × (ByteArray × (ByteArray × (ByteArray × (Int × (Int × (ByteArray × (Int × (Bool × (Bool × (Bool × (ByteArray × (ByteArray × (ByteArray × (Int × (ByteArray × (ByteArray × (ByteArray × (ByteArray × (ByteArray × (Int × (Int × ByteArray))))))))))))))))))))))))))))))) := (bif s.2.1 then (bif (s.2.2.2.2.2.2.2.2.2.2.2.2.2.2.2.2.1 == (4 : Int)) then (((bursarref20_of.f ((s.2.2.1, s.2.2.2.1), (4 : Int)))).bind fun x32 => (((bursarref20_number.f (x32, (0 : Int)))).bind fun x33 => (some (x33.2, (s.2.2.1, (s.2.2.2.1, (s.2.2.2.2.1, (s.2.2.2.2.2.1, (s.2.2.2.2.2.2.1, (s.2.2.2.2.2.2.2.1, (s.2.2.2.2.2.2.2.2.1, (s.2.2.2.2.2.2.2.2.2.1, (s.2.2.2.2.2.2.2.2.2.2.1, (s.2.2.2.2.2.2.2.2.2.2.2.1, (s.2.2.2.2.2.2.2.2.2.2.2.2.1, (s.2.2.2.2.2.2.2.2.2.2.2.2.2.1, (s.2.2.2.2.2.2.2.2.2.2.2.2.2.2.1, (s.2.2.2.2.2.2.2.2.2.2.2.2.2.2.2.1, (s.2.2.2.2.2.2.2.2.2.2.2.2.2.2.2.2.1, (s.2.2.2.2.2.2.2.2.2.2.2.2.2.2.2.2.2.1, (s.2.2.2.2.2.2.2.2.2.2.2.2.2.2.2.2.2.2.1, (s.2.2.2.2.2.2.2.2.2.2.2.2.2.2.2.2.2.2.2.1, (s.2.2.2.2.2.2.2.2.2.2.2.2.2.2.2.2.2.2.2.2.1, (s.2.2.2.2.2.2.2.2.2.2.2.2.2.2.2.2.2.2.2.2.2.1, (s.2.2.2.2.2.2.2.2.2.2.2.2.2.2.2.2.2.2.2.2.2.2.1, (x33.1, s.2.2.2.2.2.2.2.2.2.2.2.2.2.2.2.2.2.2.2.2.2.2.2.2)))))))))))))))))))))))))) else (((bursarref20_of.f ((s.2.2.1, s.2.2.2.1), (4 : Int)))).bind fun x32 => (((bursarref20_number.f (x32, (1 : Int)))).bind fun x33 => (some (x33.2, (s.2.2.1, (s.2.2.2.1, (s.2.2.2.2.1, (s.2.2.2.2.2.1, (s.2.2.2.2.2.2.1, (s.2.2.2.2.2.2.2.1, (s.2.2.2.2.2.2.2.2.1, (s.2.2.2.2.2.2.2.2.2.1, (s.2.2.2.2.2.2.2.2.2.2.1, (s.2.2.2.2.2.2.2.2.2.2.2.1, (s.2.2.2.2.2.2.2.2.2.2.2.2.1, (s.2.2.2.2.2.2.2.2.2.2.2.2.2.1, (s.2.2.2.2.2.2.2.2.2.2.2.2.2.2.1, (s.2.2.2.2.2.2.2.2.2.2.2.2.2.2.2.1, (s.2.2.2.2.2.2.2.2.2.2.2.2.2.2.2.2.1, (s.2.2.2.2.2.2.2.2.2.2.2.2.2.2.2.2.2.1, (s.2.2.2.2.2.2.2.2.2.2.2.2.2.2.2.2.2.2.1, (s.2.2.2.2.2.2.2.2.2.2.2.2.2.2.2.2.2.2.2.1, (s.2.2.2.2.2.2.2.2.2.2.2.2.2.2.2.2.2.2.2.2.1, (s.2.2.2.2.2.2.2.2.2.2.2.2.2.2.2.2.2.2.2.2.2.1, (s.2.2.2.2.2.2.2.2.2.2.2.2.2.2.2.2.2.2.2.2.2.2.1, (x33.1, s.2.2.2.2.2.2.2.2.2.2.2.2.2.2.2.2.2.2.2.2.2.2.2.2))))))))))))))))))))))))))) else (some (s.1, s.2.2)))
noncomputable def bursarref20_Read.l48 (s : (Bool × (ByteArray × ((List (Int × ByteArray)) × (ByteArray × (ByteArray × (ByteArray × (Int × (ByteArray × (ByteArray × (ByteArray × (ByteArray × (ByteArray × (Int × (Int × (ByteArray × (Int × (Bool × (Bool × (Bool × (ByteArray × (ByteArray × (ByteArray × (Int × (ByteArray × (ByteArray × (ByteArray × (ByteArray × (ByteArray × (Int × (Int × ByteArray))))))))))))))))))))))))))))))) : Option ((Bool × (Bool × (ByteArray × ((List (Int × ByteArray)) × (ByteArray × (ByteArray × (ByteArray × (Int × (ByteArray × (ByteArray × (ByteArray × (ByteArray × (ByteArray × (Int × (Int × (ByteArray × (ByteArray × (ByteArray × (ByteArray × (Int × (ByteArray × (ByteArray × (ByteArray × (ByteArray × (ByteArray × (Int × (Int × ByteArray)))))))))))))))))))))))))))) := (bif s.1 then (some (s.1, ((s.2.2.2.2.2.2.2.2.2.2.2.2.2.2.2.1 == (5 : Int)), (s.2.1, (s.2.2.1, (s.2.2.2.1, (s.2.2.2.2.1, (s.2.2.2.2.2.1, (s.2.2.2.2.2.2.1, (s.2.2.2.2.2.2.2.1, (s.2.2.2.2.2.2.2.2.1, (s.2.2.2.2.2.2.2.2.2.1, (s.2.2.2.2.2.2.2.2.2.2.1, (s.2.2.2.2.2.2.2.2.2.2.2.1, (s.2.2.2.2.2.2.2.2.2.2.2.2.1, (s.2.2.2.2.2.2.2.2.2.2.2.2.2.1, (s.2.2.2.2.2.2.2.2.2.2.2.2.2.2.1, s.2.2.2.2.2.2.2.2.2.2.2.2.2.2.2.2.2.2.2))))))))))))))))) else (some (s.1, (false, (s.2.1, (s.2.2.1, (s.2.2.2.1, (s.2.2.2.2.1, (s.2.2.2.2.2.1, (s.2.2.2.2.2.2.1, (s.2.2.2.2.2.2.2.1, (s.2.2.2.2.2.2.2.2.1, (s.2.2.2.2.2.2.2.2.2.1, (s.2.2.2.2.2.2.2.2.2.2.1, (s.2.2.2.2.2.2.2.2.2.2.2.1, (s.2.2.2.2.2.2.2.2.2.2.2.2.1, (s.2.2.2.2.2.2.2.2.2.2.2.2.2.1, (s.2.2.2.2.2.2.2.2.2.2.2.2.2.2.1, s.2.2.2.2.2.2.2.2.2.2.2.2.2.2.2.2.2.2.2))))))))))))))))))
noncomputable def bursarref20_Read.l49 (s : (Bool × (Bool × (ByteArray × ((List (Int × ByteArray)) × (ByteArray × (ByteArray × (ByteArray × (Int × (ByteArray × (ByteArray × (ByteArray × (ByteArray × (ByteArray × (Int × (Int × (ByteArray × (ByteArray × (ByteArray × (ByteArray × (Int × (ByteArray × (ByteArray × (ByteArray × (ByteArray × (ByteArray × (Int × (Int × ByteArray)))))))))))))))))))))))))))) : Option ((Bool × (ByteArray × (ByteArray × (ByteArray × (Int × (ByteArray × (ByteArray × (ByteArray × (ByteArray × (ByteArray × (Int × (Int × (ByteArray × (ByteArray × (ByteArray × (ByteArray × (Int × (ByteArray × (ByteArray × (ByteArray × (ByteArray × (ByteArray × (Int × (Int × ByteArray))))))))))))))))))))))))) := (bif s.2.1 then (((bursarref20_of.f ((s.2.2.1, s.2.2.2.1), (74 : Int)))).bind fun x28 => (((bursarref20_number.f (x28, (0 : Int)))).bind fun x29 => (((bursarref20_of.f ((s.2.2.1, s.2.2.2.1), (86 : Int)))).bind fun x30 => (((bursarref20_number.f (x30, (0 : Int)))).bind fun x31 => (bif x29.2 then (some (x31.2, (s.2.2.2.2.1, (s.2.2.2.2.2.1, (s.2.2.2.2.2.2.1, (s.2.2.2.2.2.2.2.1, (s.2.2.2.2.2.2.2.2.1, (s.2.2.2.2.2.2.2.2.2.1, (s.2.2.2.2.2.2.2.2.2.2.1, (s.2.2.2.2.2.2.2.2.2.2.2.1, (s.2.2.2.2.2.2.2.2.2.2.2.2.1, (s.2.2.2.2.2.2.2.2.2.2.2.2.2.1, (s.2.2.2.2.2.2.2.2.2.2.2.2.2.2.1, (s.2.2.2.2.2.2.2.2.2.2.2.2.2.2.2.1, (s.2.2.2.2.2.2.2.2.2.2.2.2.2.2.2.2.1, (s.2.2.2.2.2.2.2.2.2.2.2.2.2.2.2.2.2.1, (s.2.2.2.2.2.2.2.2.2.2.2.2.2.2.2.2.2.2.1, (s.2.2.2.2.2.2.2.2.2.2.2.2.2.2.2.2.2.2.2.1, (s.2.2.2.2.2.2.2.2.2.2.2.2.2.2.2.2.2.2.2.2.1, (s.2.2.2.2.2.2.2.2.2.2.2.2.2.2.2.2.2.2.2.2.2.1, (s.2.2.2.2.2.2.2.2.2.2.2.2.2.2.2.2.2.2.2.2.2.2.1, (s.2.2.2.2.2.2.2.2.2.2.2.2.2.2.2.2.2.2.2.2.2.2.2.1, (s.2.2.2.2.2.2.2.2.2.2.2.2.2.2.2.2.2.2.2.2.2.2.2.2.1, (x29.1, (x31.1, s.2.2.2.2.2.2.2.2.2.2.2.2.2.2.2.2.2.2.2.2.2.2.2.2.2.2.2))))))))))))))))))))))))) else (some (false, (s.2.2.2.2.1, (s.2.2.2.2.2.1, (s.2.2.2.2.2.2.1, (s.2.2.2.2.2.2.2.1, (s.2.2.2.2.2.2.2.2.1, (s.2.2.2.2.2.2.2.2.2.1, (s.2.2.2.2.2.2.2.2.2.2.1, (s.2.2.2.2.2.2.2.2.2.2.2.1, (s.2.2.2.2.2.2.2.2.2.2.2.2.1, (s.2.2.2.2.2.2.2.2.2.2.2.2.2.1, (s.2.2.2.2.2.2.2.2.2.2.2.2.2.2.1, (s.2.2.2.2.2.2.2.2.2.2.2.2.2.2.2.1, (s.2.2.2.2.2.2.2.2.2.2.2.2.2.2.2.2.1, (s.2.2.2.2.2.2.2.2.2.2.2.2.2.2.2.2.2.1, (s.2.2.2.2.2.2.2.2.2.2.2.2.2.2.2.2.2.2.1, (s.2.2.2.2.2.2.2.2.2.2.2.2.2.2.2.2.2.2.2.1, (s.2.2.2.2.2.2.2.2.2.2.2.2.2.2.2.2.2.2.2.2.1, (s.2.2.2.2.2.2.2.2.2.2.2.2.2.2.2.2.2.2.2.2.2.1, (s.2.2.2.2.2.2.2.2.2.2.2.2.2.2.2.2.2.2.2.2.2.2.1, (s.2.2.2.2.2.2.2.2.2.2.2.2.2.2.2.2.2.2.2.2.2.2.2.1, (s.2.2.2.2.2.2.2.2.2.2.2.2.2.2.2.2.2.2.2.2.2.2.2.2.1, (x29.1, (x31.1, s.2.2.2.2.2.2.2.2.2.2.2.2.2.2.2.2.2.2.2.2.2.2.2.2.2.2.2)))))))))))))))))))))))))))))) else (some (s.1, s.2.2.2.2)))
noncomputable def bursarref20_Read.f (a : (ByteArray × (List (Int × ByteArray)))) : Option ((ByteArray × (ByteArray × (ByteArray × (Int × (ByteArray × (ByteArray × (ByteArray × (ByteArray × (ByteArray × (Int × (Int × ByteArray))))))))))) × Int) := (((bursarref19_Pack.f a)).bind fun x1 => (bif (x1.2 != (0 : Int)) then (some (((bs []), ((bs []), ((bs []), ((0 : Int), ((bs []), ((bs []), ((bs []), ((bs []), ((bs []), ((0 : Int), ((0 : Int), (bs [])))))))))))), (1 : Int))) else (((bursarref18_Parse.f a.1)).bind fun x2 => (bif x2.1.2.2.1 then (some (((bs []), ((bs []), ((bs []), ((0 : Int), ((bs []), ((bs []), ((bs []), ((bs []), ((bs []), ((0 : Int), ((0 : Int), (bs [])))))))))))), (17 : Int))) else (bif (true && (decide (((3 : Int) ≤ (a.1.size : Int))))) then (bif (Nat.ble ((ByteArray.extract a.1 0 3).size + 1) 9223372036854775807) then (((bursarref20_of.f (a, (7 : Int)))).bind fun x3 => (((bursarref20_of.f (a, (11 : Int)))).bind fun x4 => (((bursarref20_Read.l14 (true, (x2.1.1, ((x2.1.1 == (1 : Int)), (a.1, (a.2, ((bs []), ((bs []), ((bs []), ((0 : Int), ((bs []), ((bs []), ((bs []), ((bs []), ((bs []), ((0 : Int), ((0 : Int), ((bs []), (x2.1.1, (x2.1.2.1, (x2.1.2.2.1, (x2.1.2.2.2, (((ByteArray.extract a.1 0 3) ++ (bs [48])), ((bs []), ((bs []), ((0 : Int), (x3, (x4, ((bs []), ((bs []), ((bs []), ((0 : Int), ((0 : Int), (bs []))))))))))))))))))))))))))))))))))).bind fun x5 => (((bursarref20_Read.l16 x5)).bind fun x6 => (((bursarref20_Read.l41 x6)).bind fun x7 => (((bursarref20_Read.l42 x7)).bind fun x8 => (((bursarref20_Read.l48 x8)).bind fun x9 => (((bursarref20_Read.l49 x9)).bind fun x10 => (bif (!x10.1) then (some (((bs []), ((bs []), ((bs []), ((0 : Int), ((bs []), ((bs []), ((bs []), ((bs []), ((bs []), ((0 : Int), ((0 : Int), (bs [])))))))))))), (16 : Int))) else (some (x10.2.2.2.2.2.2.2.2.2.2.2.2.2, (0 : Int)))))))))))) else none) else none)))))
end Go.Proofs.YtpoiijkodpnobaaGreatDoor
end
section
set_option linter.unusedVariables false
set_option linter.unusedSimpArgs false
set_option maxHeartbeats 4000000
set_option maxRecDepth 10000
namespace Go.Proofs.YtpoiijkodpnobaaGreatDoor
open Go Go.Fw bursarref20_Read
theorem ge_one (n : Int) : decide (n ≥ 1) = !decide (n < 1) := by
  by_cases h : n < 1
  · rw [decide_eq_true h, decide_eq_false (by omega)]; rfl
  · rw [decide_eq_false h, decide_eq_true (by omega)]; rfl
theorem q1 : ((1 : Int) == 1) = true ∧ ((1 : Int) == 2) = false ∧ ((1 : Int) == 4) = false ∧ ((1 : Int) == 5) = false ∧ ((1 : Int) == 6) = false ∧ ((1 : Int) == 8) = false ∧ ((1 : Int) != 5) = true ∧ decide ((1 : Int) ≤ 6) = true ∧ decide ((1 : Int) ≤ 2) = true := by decide
theorem rread_class1 {m : Msg} {i : Nat} (hg : goodM m) (hp : (packF m).2 = 0) (hw : whose m.1 = some i) (ha : (mAt i).2.2.1 = false) (hk : (mAt i).1 = 1) :
    bursarref20_Read.f m = some (bif okT m 1 then (trT m (m.1.extract 0 3 ++ bs [48]) 1, 0) else (zT, 16)) := by
  obtain ⟨_, _, _, hok, _⟩ := packF_zero hp
  have hO : ∀ n, bursarref20_of.f (m, n) = some (fldM m n) := fun n => of_fld hg n
  have hO' : ∀ n, bursarref20_of.f ((m.1, m.2), n) = some (fldM m n) := fun n => of_fld hg n
  have hA : ∀ n, bursarref20_acq.f (fldM m n) = some (acqB (fldM m n)) := fun n => racq_is _ (by have := fld_small hg n; omega)
  have hH : bursarref20_has.f ((m.1, m.2), [(2 : Int), (3 : Int), (4 : Int), (7 : Int), (11 : Int), (32 : Int), (37 : Int)]) = some (hasM m 2 && (hasM m 3 && (hasM m 4 && (hasM m 7 && (hasM m 11 && (hasM m 32 && (hasM m 37))))))) := (has_fld hg [(2 : Int), (3 : Int), (4 : Int), (7 : Int), (11 : Int), (32 : Int), (37 : Int)] (by decide)).trans (by simp only [List.all_cons, List.all_nil, Bool.and_true])
  have h4 : m.1.size = 4 := by have := whose_len hw; simpa using this
  have d3 : decide ((3 : Int) ≤ (m.1.size : Int)) = true := decide_eq_true (by omega)
  have b3 : Nat.ble ((m.1.extract 0 3).size + 1) 9223372036854775807 = true := Nat.ble_eq_true_of_le (by rw [ByteArray.size_extract]; omega)
  have ok : okT m 1 = (hasM m 7 && (hasM m 11 && (hasM m 2 && (cardB (fldM m 2) && (hasM m 3 && (hasM m 4 && (!decide (numM m 4 < 1) && (hasM m 32 && (acqB (fldM m 32) && (hasM m 37 && refB (fldM m 37))))))))))) := rfl
  rw [ok]
  unfold bursarref20_Read.f
  simp only [refIsoPack_is hg, hp, Option.bind_some, bne_self_eq_false, cond_false, mtiRefParse_is, hw, ha, d3, b3, Bool.and_self, cond_true, hO]
  simp only [hk, l14, l16, l41, l42, l48, l49, q1, bT, hO, hO', rpan_is, hA, ref_Ref_is, hH]
  cases h2 : hasM m 2
  · simp only [l14, l16, l41, l42, l48, l49, q1, bT, hO, hO', rpan_is, hA, ref_Ref_is, hH]
    rfl
  simp only [l14, l16, l41, l42, l48, l49, q1, bT, hO, hO', rpan_is, hA, ref_Ref_is, hH]
  cases h3 : hasM m 3
  · simp only [l14, l16, l41, l42, l48, l49, q1, bT, hO, hO', rpan_is, hA, ref_Ref_is, hH]
    rfl
  simp only [l14, l16, l41, l42, l48, l49, q1, bT, hO, hO', rpan_is, hA, ref_Ref_is, hH]
  cases h4F : hasM m 4
  · simp only [l14, l16, l41, l42, l48, l49, q1, bT, hO, hO', rpan_is, hA, ref_Ref_is, hH]
    rfl
  simp only [l14, l16, l41, l42, l48, l49, q1, bT, hO, hO', rpan_is, hA, ref_Ref_is, hH]
  cases h7 : hasM m 7
  · simp only [l14, l16, l41, l42, l48, l49, q1, bT, hO, hO', rpan_is, hA, ref_Ref_is, hH]
    rfl
  simp only [l14, l16, l41, l42, l48, l49, q1, bT, hO, hO', rpan_is, hA, ref_Ref_is, hH]
  cases h11 : hasM m 11
  · simp only [l14, l16, l41, l42, l48, l49, q1, bT, hO, hO', rpan_is, hA, ref_Ref_is, hH]
    rfl
  simp only [l14, l16, l41, l42, l48, l49, q1, bT, hO, hO', rpan_is, hA, ref_Ref_is, hH]
  cases h32 : hasM m 32
  · simp only [l14, l16, l41, l42, l48, l49, q1, bT, hO, hO', rpan_is, hA, ref_Ref_is, hH]
    rfl
  simp only [l14, l16, l41, l42, l48, l49, q1, bT, hO, hO', rpan_is, hA, ref_Ref_is, hH]
  cases h37 : hasM m 37
  · simp only [l14, l16, l41, l42, l48, l49, q1, bT, hO, hO', rpan_is, hA, ref_Ref_is, hH]
    rfl
  simp only [l14, l16, l41, l42, l48, l49, q1, bT, hO, hO', rpan_is, hA, ref_Ref_is, hH]
  cases hc2 : cardB (fldM m 2)
  · simp only [l14, l16, l41, l42, l48, l49, q1, bT, hO, hO', rpan_is, hA, ref_Ref_is, hH]
    rfl
  simp only [l14, l16, l41, l42, l48, l49, q1, bT, hO, hO', rpan_is, hA, ref_Ref_is, hH]
  cases hc32 : acqB (fldM m 32)
  · simp only [l14, l16, l41, l42, l48, l49, q1, bT, hO, hO', rpan_is, hA, ref_Ref_is, hH]
    rfl
  simp only [l14, l16, l41, l42, l48, l49, q1, bT, hO, hO', rpan_is, hA, ref_Ref_is, hH]
  cases hc37 : refB (fldM m 37)
  · simp only [l14, l16, l41, l42, l48, l49, q1, bT, hO, hO', rpan_is, hA, ref_Ref_is, hH]
    rfl
  simp only [l14, l16, l41, l42, l48, l49, q1, bT, hO, hO', rpan_is, hA, ref_Ref_is, hH]
  obtain ⟨_, _, hn4⟩ := fnum hg hok h4F of4 (by omega)
  simp only [hn4, ge_one, l14, l16, l41, l42, l48, l49, q1, bT, hO, hO', rpan_is, hA, ref_Ref_is, hH]
  cases decide (numM m 4 < 1) <;> rfl
theorem q2 : ((2 : Int) == 1) = false ∧ ((2 : Int) == 2) = true ∧ ((2 : Int) == 4) = false ∧ ((2 : Int) == 5) = false ∧ ((2 : Int) == 6) = false ∧ ((2 : Int) == 8) = false ∧ ((2 : Int) != 5) = true ∧ decide ((2 : Int) ≤ 6) = true ∧ decide ((2 : Int) ≤ 2) = true := by decide
theorem rread_class2 {m : Msg} {i : Nat} (hg : goodM m) (hp : (packF m).2 = 0) (hw : whose m.1 = some i) (ha : (mAt i).2.2.1 = false) (hk : (mAt i).1 = 2) :
    bursarref20_Read.f m = some (bif okT m 2 then (trT m (m.1.extract 0 3 ++ bs [48]) 2, 0) else (zT, 16)) := by
  obtain ⟨_, _, _, hok, _⟩ := packF_zero hp
  have hO : ∀ n, bursarref20_of.f (m, n) = some (fldM m n) := fun n => of_fld hg n
  have hO' : ∀ n, bursarref20_of.f ((m.1, m.2), n) = some (fldM m n) := fun n => of_fld hg n
  have hA : ∀ n, bursarref20_acq.f (fldM m n) = some (acqB (fldM m n)) := fun n => racq_is _ (by have := fld_small hg n; omega)
  have hH : bursarref20_has.f ((m.1, m.2), [(2 : Int), (3 : Int), (4 : Int), (7 : Int), (11 : Int), (32 : Int), (37 : Int)]) = some (hasM m 2 && (hasM m 3 && (hasM m 4 && (hasM m 7 && (hasM m 11 && (hasM m 32 && (hasM m 37))))))) := (has_fld hg [(2 : Int), (3 : Int), (4 : Int), (7 : Int), (11 : Int), (32 : Int), (37 : Int)] (by decide)).trans (by simp only [List.all_cons, List.all_nil, Bool.and_true])
  have h4 : m.1.size = 4 := by have := whose_len hw; simpa using this
  have d3 : decide ((3 : Int) ≤ (m.1.size : Int)) = true := decide_eq_true (by omega)
  have b3 : Nat.ble ((m.1.extract 0 3).size + 1) 9223372036854775807 = true := Nat.ble_eq_true_of_le (by rw [ByteArray.size_extract]; omega)
  have ok : okT m 2 = (hasM m 7 && (hasM m 11 && (hasM m 2 && (cardB (fldM m 2) && (hasM m 3 && (hasM m 4 && (!decide (numM m 4 < 1) && (hasM m 32 && (acqB (fldM m 32) && (hasM m 37 && refB (fldM m 37))))))))))) := rfl
  rw [ok]
  unfold bursarref20_Read.f
  simp only [refIsoPack_is hg, hp, Option.bind_some, bne_self_eq_false, cond_false, mtiRefParse_is, hw, ha, d3, b3, Bool.and_self, cond_true, hO]
  simp only [hk, l14, l16, l41, l42, l48, l49, q2, bT, hO, hO', rpan_is, hA, ref_Ref_is, hH]
  cases h2 : hasM m 2
  · simp only [l14, l16, l41, l42, l48, l49, q2, bT, hO, hO', rpan_is, hA, ref_Ref_is, hH]
    rfl
  simp only [l14, l16, l41, l42, l48, l49, q2, bT, hO, hO', rpan_is, hA, ref_Ref_is, hH]
  cases h3 : hasM m 3
  · simp only [l14, l16, l41, l42, l48, l49, q2, bT, hO, hO', rpan_is, hA, ref_Ref_is, hH]
    rfl
  simp only [l14, l16, l41, l42, l48, l49, q2, bT, hO, hO', rpan_is, hA, ref_Ref_is, hH]
  cases h4F : hasM m 4
  · simp only [l14, l16, l41, l42, l48, l49, q2, bT, hO, hO', rpan_is, hA, ref_Ref_is, hH]
    rfl
  simp only [l14, l16, l41, l42, l48, l49, q2, bT, hO, hO', rpan_is, hA, ref_Ref_is, hH]
  cases h7 : hasM m 7
  · simp only [l14, l16, l41, l42, l48, l49, q2, bT, hO, hO', rpan_is, hA, ref_Ref_is, hH]
    rfl
  simp only [l14, l16, l41, l42, l48, l49, q2, bT, hO, hO', rpan_is, hA, ref_Ref_is, hH]
  cases h11 : hasM m 11
  · simp only [l14, l16, l41, l42, l48, l49, q2, bT, hO, hO', rpan_is, hA, ref_Ref_is, hH]
    rfl
  simp only [l14, l16, l41, l42, l48, l49, q2, bT, hO, hO', rpan_is, hA, ref_Ref_is, hH]
  cases h32 : hasM m 32
  · simp only [l14, l16, l41, l42, l48, l49, q2, bT, hO, hO', rpan_is, hA, ref_Ref_is, hH]
    rfl
  simp only [l14, l16, l41, l42, l48, l49, q2, bT, hO, hO', rpan_is, hA, ref_Ref_is, hH]
  cases h37 : hasM m 37
  · simp only [l14, l16, l41, l42, l48, l49, q2, bT, hO, hO', rpan_is, hA, ref_Ref_is, hH]
    rfl
  simp only [l14, l16, l41, l42, l48, l49, q2, bT, hO, hO', rpan_is, hA, ref_Ref_is, hH]
  cases hc2 : cardB (fldM m 2)
  · simp only [l14, l16, l41, l42, l48, l49, q2, bT, hO, hO', rpan_is, hA, ref_Ref_is, hH]
    rfl
  simp only [l14, l16, l41, l42, l48, l49, q2, bT, hO, hO', rpan_is, hA, ref_Ref_is, hH]
  cases hc32 : acqB (fldM m 32)
  · simp only [l14, l16, l41, l42, l48, l49, q2, bT, hO, hO', rpan_is, hA, ref_Ref_is, hH]
    rfl
  simp only [l14, l16, l41, l42, l48, l49, q2, bT, hO, hO', rpan_is, hA, ref_Ref_is, hH]
  cases hc37 : refB (fldM m 37)
  · simp only [l14, l16, l41, l42, l48, l49, q2, bT, hO, hO', rpan_is, hA, ref_Ref_is, hH]
    rfl
  simp only [l14, l16, l41, l42, l48, l49, q2, bT, hO, hO', rpan_is, hA, ref_Ref_is, hH]
  obtain ⟨_, _, hn4⟩ := fnum hg hok h4F of4 (by omega)
  simp only [hn4, ge_one, l14, l16, l41, l42, l48, l49, q2, bT, hO, hO', rpan_is, hA, ref_Ref_is, hH]
  cases decide (numM m 4 < 1) <;> rfl
theorem q4 : ((4 : Int) == 1) = false ∧ ((4 : Int) == 2) = false ∧ ((4 : Int) == 4) = true ∧ ((4 : Int) == 5) = false ∧ ((4 : Int) == 6) = false ∧ ((4 : Int) == 8) = false ∧ ((4 : Int) != 5) = true ∧ decide ((4 : Int) ≤ 6) = true ∧ decide ((4 : Int) ≤ 2) = false := by decide
theorem rread_class4 {m : Msg} {i : Nat} (hg : goodM m) (hp : (packF m).2 = 0) (hw : whose m.1 = some i) (ha : (mAt i).2.2.1 = false) (hk : (mAt i).1 = 4) :
    bursarref20_Read.f m = some (bif okT m 4 then (trT m (m.1.extract 0 3 ++ bs [48]) 4, 0) else (zT, 16)) := by
  obtain ⟨_, _, _, hok, _⟩ := packF_zero hp
  have hO : ∀ n, bursarref20_of.f (m, n) = some (fldM m n) := fun n => of_fld hg n
  have hO' : ∀ n, bursarref20_of.f ((m.1, m.2), n) = some (fldM m n) := fun n => of_fld hg n
  have hA : ∀ n, bursarref20_acq.f (fldM m n) = some (acqB (fldM m n)) := fun n => racq_is _ (by have := fld_small hg n; omega)
  have hH : bursarref20_has.f ((m.1, m.2), [(4 : Int), (7 : Int), (11 : Int), (32 : Int), (37 : Int), (90 : Int)]) = some (hasM m 4 && (hasM m 7 && (hasM m 11 && (hasM m 32 && (hasM m 37 && (hasM m 90)))))) := (has_fld hg [(4 : Int), (7 : Int), (11 : Int), (32 : Int), (37 : Int), (90 : Int)] (by decide)).trans (by simp only [List.all_cons, List.all_nil, Bool.and_true])
  have h4 : m.1.size = 4 := by have := whose_len hw; simpa using this
  have d3 : decide ((3 : Int) ≤ (m.1.size : Int)) = true := decide_eq_true (by omega)
  have b3 : Nat.ble ((m.1.extract 0 3).size + 1) 9223372036854775807 = true := Nat.ble_eq_true_of_le (by rw [ByteArray.size_extract]; omega)
  have ok : okT m 4 = (hasM m 7 && (hasM m 11 && (hasM m 4 && (hasM m 32 && (acqB (fldM m 32) && (hasM m 37 && (refB (fldM m 37) && (hasM m 90 && origB (fldM m 90))))))))) := rfl
  rw [ok]
  unfold bursarref20_Read.f
  simp only [refIsoPack_is hg, hp, Option.bind_some, bne_self_eq_false, cond_false, mtiRefParse_is, hw, ha, d3, b3, Bool.and_self, cond_true, hO]
  by_cases h42 : (fldM m 90).size = 42
  rotate_left
  · have h90 : hasM m 90 = false := by
      cases h : hasM m 90
      · rfl
      · exact absurd (by have := fsize hg hok h of90; omega) h42
    have e42 : (((fldM m 90).size : Int) == 42) = false := by simp; omega
    simp only [hk, e42, h90, l14, l16, l41, l42, l48, l49, q4, bT, hO, hO', rpan_is, hA, ref_Ref_is, hH]
    rfl
  have e42 : (((fldM m 90).size : Int) == 42) = true := by simp; omega
  obtain ⟨b1, b2, b4, b5⟩ := orig_ble (s := fldM m 90) (rrn := fldM m 37) (acq := fldM m 32) h42 (fld_small hg 37) (fld_small hg 32)
  have f2 : decide ((2 : Int) ≤ ((fldM m 90).size : Int)) = true := decide_eq_true (by omega)
  have f4 : decide ((4 : Int) ≤ ((fldM m 90).size : Int)) = true := decide_eq_true (by omega)
  have f10 : decide ((10 : Int) ≤ ((fldM m 90).size : Int)) = true := decide_eq_true (by omega)
  have f20 : decide ((20 : Int) ≤ ((fldM m 90).size : Int)) = true := decide_eq_true (by omega)
  simp only [hk, e42, f2, f4, f10, f20, b1, b2, b4, b5, mtiRefParse_is, l14, l16, l41, l42, l48, l49, q4, bT, hO, hO', rpan_is, hA, ref_Ref_is, hH]
  unfold origB
  cases h4F : hasM m 4
  · simp only [l14, l16, l41, l42, l48, l49, q4, bT, hO, hO', rpan_is, hA, ref_Ref_is, hH]
    rfl
  simp only [l14, l16, l41, l42, l48, l49, q4, bT, hO, hO', rpan_is, hA, ref_Ref_is, hH]
  cases h7 : hasM m 7
  · simp only [l14, l16, l41, l42, l48, l49, q4, bT, hO, hO', rpan_is, hA, ref_Ref_is, hH]
    rfl
  simp only [l14, l16, l41, l42, l48, l49, q4, bT, hO, hO', rpan_is, hA, ref_Ref_is, hH]
  cases h11 : hasM m 11
  · simp only [l14, l16, l41, l42, l48, l49, q4, bT, hO, hO', rpan_is, hA, ref_Ref_is, hH]
    rfl
  simp only [l14, l16, l41, l42, l48, l49, q4, bT, hO, hO', rpan_is, hA, ref_Ref_is, hH]
  cases h32 : hasM m 32
  · simp only [l14, l16, l41, l42, l48, l49, q4, bT, hO, hO', rpan_is, hA, ref_Ref_is, hH]
    rfl
  simp only [l14, l16, l41, l42, l48, l49, q4, bT, hO, hO', rpan_is, hA, ref_Ref_is, hH]
  cases h37 : hasM m 37
  · simp only [l14, l16, l41, l42, l48, l49, q4, bT, hO, hO', rpan_is, hA, ref_Ref_is, hH]
    rfl
  simp only [l14, l16, l41, l42, l48, l49, q4, bT, hO, hO', rpan_is, hA, ref_Ref_is, hH]
  cases h90 : hasM m 90
  · simp only [l14, l16, l41, l42, l48, l49, q4, bT, hO, hO', rpan_is, hA, ref_Ref_is, hH]
    rfl
  simp only [l14, l16, l41, l42, l48, l49, q4, bT, hO, hO', rpan_is, hA, ref_Ref_is, hH]
  cases hc32 : acqB (fldM m 32)
  · simp only [l14, l16, l41, l42, l48, l49, q4, bT, hO, hO', rpan_is, hA, ref_Ref_is, hH]
    rfl
  simp only [l14, l16, l41, l42, l48, l49, q4, bT, hO, hO', rpan_is, hA, ref_Ref_is, hH]
  cases hc37 : refB (fldM m 37)
  · simp only [l14, l16, l41, l42, l48, l49, q4, bT, hO, hO', rpan_is, hA, ref_Ref_is, hH]
    rfl
  simp only [l14, l16, l41, l42, l48, l49, q4, bT, hO, hO', rpan_is, hA, ref_Ref_is, hH]
  obtain ⟨_, _, hn4⟩ := fnum hg hok h4F of4 (by omega)
  cases hwo : whose ((fldM m 90).extract 0 4) with
  | none =>
    simp only [l14, l16, l41, l42, l48, l49, q4, bT, hO, hO', rpan_is, hA, ref_Ref_is, hH]
    rfl
  | some j =>
    simp only [l14, l16, l41, l42, l48, l49, q4, bT, hO, hO', rpan_is, hA, ref_Ref_is, hH]
    rcases class_at j (whose_lt hwo).1 with hj | hj | hj | hj | hj | hj <;> simp only [hj] <;> cases (mAt j).2.2.1 <;> simp only [hn4, decide_eq_true (show numM m 4 ≥ 0 by have := numM_nn m 4; omega), show decide ((1 : Int) ≤ 2) = true from rfl, show decide ((2 : Int) ≤ 2) = true from rfl, show decide ((5 : Int) ≤ 2) = false from rfl, show decide ((6 : Int) ≤ 2) = false from rfl, show decide ((8 : Int) ≤ 2) = false from rfl, l14, l16, l41, l42, l48, l49, q4, bT, hO, hO', rpan_is, hA, ref_Ref_is, hH] <;> rfl
theorem q5 : ((5 : Int) == 1) = false ∧ ((5 : Int) == 2) = false ∧ ((5 : Int) == 4) = false ∧ ((5 : Int) == 5) = true ∧ ((5 : Int) == 6) = false ∧ ((5 : Int) == 8) = false ∧ ((5 : Int) != 5) = false ∧ decide ((5 : Int) ≤ 6) = true ∧ decide ((5 : Int) ≤ 2) = false := by decide
theorem rread_class5 {m : Msg} {i : Nat} (hg : goodM m) (hp : (packF m).2 = 0) (hw : whose m.1 = some i) (ha : (mAt i).2.2.1 = false) (hk : (mAt i).1 = 5) :
    bursarref20_Read.f m = some (bif okT m 5 then (trT m (m.1.extract 0 3 ++ bs [48]) 5, 0) else (zT, 16)) := by
  obtain ⟨_, _, _, hok, _⟩ := packF_zero hp
  have hO : ∀ n, bursarref20_of.f (m, n) = some (fldM m n) := fun n => of_fld hg n
  have hO' : ∀ n, bursarref20_of.f ((m.1, m.2), n) = some (fldM m n) := fun n => of_fld hg n
  have hA : ∀ n, bursarref20_acq.f (fldM m n) = some (acqB (fldM m n)) := fun n => racq_is _ (by have := fld_small hg n; omega)
  have hH : bursarref20_has.f ((m.1, m.2), [(7 : Int), (11 : Int), (32 : Int), (74 : Int), (86 : Int)]) = some (hasM m 7 && (hasM m 11 && (hasM m 32 && (hasM m 74 && (hasM m 86))))) := (has_fld hg [(7 : Int), (11 : Int), (32 : Int), (74 : Int), (86 : Int)] (by decide)).trans (by simp only [List.all_cons, List.all_nil, Bool.and_true])
  have h4 : m.1.size = 4 := by have := whose_len hw; simpa using this
  have d3 : decide ((3 : Int) ≤ (m.1.size : Int)) = true := decide_eq_true (by omega)
  have b3 : Nat.ble ((m.1.extract 0 3).size + 1) 9223372036854775807 = true := Nat.ble_eq_true_of_le (by rw [ByteArray.size_extract]; omega)
  have ok : okT m 5 = (hasM m 7 && (hasM m 11 && (hasM m 32 && (acqB (fldM m 32) && (hasM m 74 && hasM m 86))))) := rfl
  rw [ok]
  unfold bursarref20_Read.f
  simp only [refIsoPack_is hg, hp, Option.bind_some, bne_self_eq_false, cond_false, mtiRefParse_is, hw, ha, d3, b3, Bool.and_self, cond_true, hO]
  simp only [hk, l14, l16, l41, l42, l48, l49, q5, bT, hO, hO', rpan_is, hA, ref_Ref_is, hH]
  cases h7 : hasM m 7
  · simp only [l14, l16, l41, l42, l48, l49, q5, bT, hO, hO', rpan_is, hA, ref_Ref_is, hH]
    rfl
  simp only [l14, l16, l41, l42, l48, l49, q5, bT, hO, hO', rpan_is, hA, ref_Ref_is, hH]
  cases h11 : hasM m 11
  · simp only [l14, l16, l41, l42, l48, l49, q5, bT, hO, hO', rpan_is, hA, ref_Ref_is, hH]
    rfl
  simp only [l14, l16, l41, l42, l48, l49, q5, bT, hO, hO', rpan_is, hA, ref_Ref_is, hH]
  cases h32 : hasM m 32
  · simp only [l14, l16, l41, l42, l48, l49, q5, bT, hO, hO', rpan_is, hA, ref_Ref_is, hH]
    rfl
  simp only [l14, l16, l41, l42, l48, l49, q5, bT, hO, hO', rpan_is, hA, ref_Ref_is, hH]
  cases h74 : hasM m 74
  · simp only [l14, l16, l41, l42, l48, l49, q5, bT, hO, hO', rpan_is, hA, ref_Ref_is, hH]
    rfl
  simp only [l14, l16, l41, l42, l48, l49, q5, bT, hO, hO', rpan_is, hA, ref_Ref_is, hH]
  cases h86 : hasM m 86
  · simp only [l14, l16, l41, l42, l48, l49, q5, bT, hO, hO', rpan_is, hA, ref_Ref_is, hH]
    rfl
  simp only [l14, l16, l41, l42, l48, l49, q5, bT, hO, hO', rpan_is, hA, ref_Ref_is, hH]
  cases hc32 : acqB (fldM m 32)
  · simp only [l14, l16, l41, l42, l48, l49, q5, bT, hO, hO', rpan_is, hA, ref_Ref_is, hH]
    rfl
  simp only [l14, l16, l41, l42, l48, l49, q5, bT, hO, hO', rpan_is, hA, ref_Ref_is, hH]
  obtain ⟨_, _, hn74⟩ := fnum hg hok h74 of74 (by omega)
  obtain ⟨_, _, hn86⟩ := fnum hg hok h86 of86 (by omega)
  simp only [hn74, hn86, decide_eq_true (show numM m 74 ≥ 0 by have := numM_nn m 74; omega), decide_eq_true (show numM m 86 ≥ 0 by have := numM_nn m 86; omega), l14, l16, l41, l42, l48, l49, q5, bT, hO, hO', rpan_is, hA, ref_Ref_is, hH]
  rfl
theorem q6 : ((6 : Int) == 1) = false ∧ ((6 : Int) == 2) = false ∧ ((6 : Int) == 4) = false ∧ ((6 : Int) == 5) = false ∧ ((6 : Int) == 6) = true ∧ ((6 : Int) == 8) = false ∧ ((6 : Int) != 5) = true ∧ decide ((6 : Int) ≤ 6) = true ∧ decide ((6 : Int) ≤ 2) = false := by decide
theorem rread_class6 {m : Msg} {i : Nat} (hg : goodM m) (hp : (packF m).2 = 0) (hw : whose m.1 = some i) (ha : (mAt i).2.2.1 = false) (hk : (mAt i).1 = 6) :
    bursarref20_Read.f m = some (bif okT m 6 then (trT m (m.1.extract 0 3 ++ bs [48]) 6, 0) else (zT, 16)) := by
  obtain ⟨_, _, _, hok, _⟩ := packF_zero hp
  have hO : ∀ n, bursarref20_of.f (m, n) = some (fldM m n) := fun n => of_fld hg n
  have hO' : ∀ n, bursarref20_of.f ((m.1, m.2), n) = some (fldM m n) := fun n => of_fld hg n
  have hA : ∀ n, bursarref20_acq.f (fldM m n) = some (acqB (fldM m n)) := fun n => racq_is _ (by have := fld_small hg n; omega)
  have hH : bursarref20_has.f ((m.1, m.2), [(3 : Int), (4 : Int), (7 : Int), (11 : Int), (32 : Int), (37 : Int)]) = some (hasM m 3 && (hasM m 4 && (hasM m 7 && (hasM m 11 && (hasM m 32 && (hasM m 37)))))) := (has_fld hg [(3 : Int), (4 : Int), (7 : Int), (11 : Int), (32 : Int), (37 : Int)] (by decide)).trans (by simp only [List.all_cons, List.all_nil, Bool.and_true])
  have h4 : m.1.size = 4 := by have := whose_len hw; simpa using this
  have d3 : decide ((3 : Int) ≤ (m.1.size : Int)) = true := decide_eq_true (by omega)
  have b3 : Nat.ble ((m.1.extract 0 3).size + 1) 9223372036854775807 = true := Nat.ble_eq_true_of_le (by rw [ByteArray.size_extract]; omega)
  have ok : okT m 6 = (hasM m 7 && (hasM m 11 && (hasM m 3 && (hasM m 4 && (!decide (numM m 4 < 1) && (hasM m 32 && (acqB (fldM m 32) && (hasM m 37 && refB (fldM m 37))))))))) := rfl
  rw [ok]
  unfold bursarref20_Read.f
  simp only [refIsoPack_is hg, hp, Option.bind_some, bne_self_eq_false, cond_false, mtiRefParse_is, hw, ha, d3, b3, Bool.and_self, cond_true, hO]
  simp only [hk, l14, l16, l41, l42, l48, l49, q6, bT, hO, hO', rpan_is, hA, ref_Ref_is, hH]
  cases h3 : hasM m 3
  · simp only [l14, l16, l41, l42, l48, l49, q6, bT, hO, hO', rpan_is, hA, ref_Ref_is, hH]
    rfl
  simp only [l14, l16, l41, l42, l48, l49, q6, bT, hO, hO', rpan_is, hA, ref_Ref_is, hH]
  cases h4F : hasM m 4
  · simp only [l14, l16, l41, l42, l48, l49, q6, bT, hO, hO', rpan_is, hA, ref_Ref_is, hH]
    rfl
  simp only [l14, l16, l41, l42, l48, l49, q6, bT, hO, hO', rpan_is, hA, ref_Ref_is, hH]
  cases h7 : hasM m 7
  · simp only [l14, l16, l41, l42, l48, l49, q6, bT, hO, hO', rpan_is, hA, ref_Ref_is, hH]
    rfl
  simp only [l14, l16, l41, l42, l48, l49, q6, bT, hO, hO', rpan_is, hA, ref_Ref_is, hH]
  cases h11 : hasM m 11
  · simp only [l14, l16, l41, l42, l48, l49, q6, bT, hO, hO', rpan_is, hA, ref_Ref_is, hH]
    rfl
  simp only [l14, l16, l41, l42, l48, l49, q6, bT, hO, hO', rpan_is, hA, ref_Ref_is, hH]
  cases h32 : hasM m 32
  · simp only [l14, l16, l41, l42, l48, l49, q6, bT, hO, hO', rpan_is, hA, ref_Ref_is, hH]
    rfl
  simp only [l14, l16, l41, l42, l48, l49, q6, bT, hO, hO', rpan_is, hA, ref_Ref_is, hH]
  cases h37 : hasM m 37
  · simp only [l14, l16, l41, l42, l48, l49, q6, bT, hO, hO', rpan_is, hA, ref_Ref_is, hH]
    rfl
  simp only [l14, l16, l41, l42, l48, l49, q6, bT, hO, hO', rpan_is, hA, ref_Ref_is, hH]
  cases hc32 : acqB (fldM m 32)
  · simp only [l14, l16, l41, l42, l48, l49, q6, bT, hO, hO', rpan_is, hA, ref_Ref_is, hH]
    rfl
  simp only [l14, l16, l41, l42, l48, l49, q6, bT, hO, hO', rpan_is, hA, ref_Ref_is, hH]
  cases hc37 : refB (fldM m 37)
  · simp only [l14, l16, l41, l42, l48, l49, q6, bT, hO, hO', rpan_is, hA, ref_Ref_is, hH]
    rfl
  simp only [l14, l16, l41, l42, l48, l49, q6, bT, hO, hO', rpan_is, hA, ref_Ref_is, hH]
  obtain ⟨_, _, hn4⟩ := fnum hg hok h4F of4 (by omega)
  simp only [hn4, ge_one, l14, l16, l41, l42, l48, l49, q6, bT, hO, hO', rpan_is, hA, ref_Ref_is, hH]
  cases decide (numM m 4 < 1) <;> rfl
theorem q8 : ((8 : Int) == 1) = false ∧ ((8 : Int) == 2) = false ∧ ((8 : Int) == 4) = false ∧ ((8 : Int) == 5) = false ∧ ((8 : Int) == 6) = false ∧ ((8 : Int) == 8) = true ∧ ((8 : Int) != 5) = true ∧ decide ((8 : Int) ≤ 6) = false ∧ decide ((8 : Int) ≤ 2) = false := by decide
theorem rread_class8 {m : Msg} {i : Nat} (hg : goodM m) (hp : (packF m).2 = 0) (hw : whose m.1 = some i) (ha : (mAt i).2.2.1 = false) (hk : (mAt i).1 = 8) :
    bursarref20_Read.f m = some (bif okT m 8 then (trT m (m.1.extract 0 3 ++ bs [48]) 8, 0) else (zT, 16)) := by
  obtain ⟨_, _, _, hok, _⟩ := packF_zero hp
  have hO : ∀ n, bursarref20_of.f (m, n) = some (fldM m n) := fun n => of_fld hg n
  have hO' : ∀ n, bursarref20_of.f ((m.1, m.2), n) = some (fldM m n) := fun n => of_fld hg n
  have hA : ∀ n, bursarref20_acq.f (fldM m n) = some (acqB (fldM m n)) := fun n => racq_is _ (by have := fld_small hg n; omega)
  have hH : bursarref20_has.f ((m.1, m.2), [(7 : Int), (11 : Int), (70 : Int)]) = some (hasM m 7 && (hasM m 11 && (hasM m 70))) := (has_fld hg [(7 : Int), (11 : Int), (70 : Int)] (by decide)).trans (by simp only [List.all_cons, List.all_nil, Bool.and_true])
  have h4 : m.1.size = 4 := by have := whose_len hw; simpa using this
  have d3 : decide ((3 : Int) ≤ (m.1.size : Int)) = true := decide_eq_true (by omega)
  have b3 : Nat.ble ((m.1.extract 0 3).size + 1) 9223372036854775807 = true := Nat.ble_eq_true_of_le (by rw [ByteArray.size_extract]; omega)
  have ok : okT m 8 = (hasM m 7 && (hasM m 11 && hasM m 70)) := rfl
  rw [ok]
  unfold bursarref20_Read.f
  simp only [refIsoPack_is hg, hp, Option.bind_some, bne_self_eq_false, cond_false, mtiRefParse_is, hw, ha, d3, b3, Bool.and_self, cond_true, hO]
  simp only [hk, l14, l16, l41, l42, l48, l49, q8, bT, hO, hO', rpan_is, hA, ref_Ref_is, hH]
  cases h7 : hasM m 7
  · simp only [l14, l16, l41, l42, l48, l49, q8, bT, hO, hO', rpan_is, hA, ref_Ref_is, hH]
    rfl
  simp only [l14, l16, l41, l42, l48, l49, q8, bT, hO, hO', rpan_is, hA, ref_Ref_is, hH]
  cases h11 : hasM m 11
  · simp only [l14, l16, l41, l42, l48, l49, q8, bT, hO, hO', rpan_is, hA, ref_Ref_is, hH]
    rfl
  simp only [l14, l16, l41, l42, l48, l49, q8, bT, hO, hO', rpan_is, hA, ref_Ref_is, hH]
  cases h70 : hasM m 70
  · simp only [l14, l16, l41, l42, l48, l49, q8, bT, hO, hO', rpan_is, hA, ref_Ref_is, hH]
    rfl
  simp only [l14, l16, l41, l42, l48, l49, q8, bT, hO, hO', rpan_is, hA, ref_Ref_is, hH]
  rfl
theorem refRead_is {m : Msg} {i : Nat} (hg : goodM m) (hp : (packF m).2 = 0) (hw : whose m.1 = some i) (ha : (mAt i).2.2.1 = false) :
    bursarref20_Read.f m = some (bif okT m (mAt i).1 then (trT m (m.1.extract 0 3 ++ bs [48]) (mAt i).1, 0) else (zT, 16)) := by
  rcases class_at i (whose_lt hw).1 with h | h | h | h | h | h <;> rw [h]
  · exact rread_class1 hg hp hw ha h
  · exact rread_class2 hg hp hw ha h
  · exact rread_class4 hg hp hw ha h
  · exact rread_class5 hg hp hw ha h
  · exact rread_class6 hg hp hw ha h
  · exact rread_class8 hg hp hw ha h
theorem refRead_bad {m : Msg} (hg : goodM m) (hp : (packF m).2 ≠ 0) : bursarref20_Read.f m = some (zT, 1) := by
  have e : ((packF m).2 != 0) = true := by simpa using hp
  unfold bursarref20_Read.f
  simp only [refIsoPack_is hg, Option.bind_some, e, cond_true]
  rfl
theorem refRead_answer {m : Msg} {i : Nat} (hg : goodM m) (hp : (packF m).2 = 0) (hw : whose m.1 = some i) (ha : (mAt i).2.2.1 = true) : bursarref20_Read.f m = some (zT, 17) := by
  unfold bursarref20_Read.f
  simp only [refIsoPack_is hg, hp, Option.bind_some, bne_self_eq_false, cond_false, mtiRefParse_is, hw, ha, cond_true]
  rfl
end Go.Proofs.YtpoiijkodpnobaaGreatDoor
end
section
set_option linter.unusedVariables false
set_option linter.unusedSimpArgs false
set_option maxHeartbeats 1000000
set_option maxRecDepth 10000
namespace Go.Proofs.YtpoiijkodpnobaaGreatDoor
open Go Go.Fw
structure ReadT (m : Msg) (t : Tr) : Prop where
  mti : t.1 = m.1.extract 0 3 ++ bs [48]
  four : t.1.size = 4
  sent : t.2.2.2.2.1.size = 10
  stan : t.2.2.2.2.2.1.size = 6
  acq : t.2.2.2.2.2.2.1 = bs [] ∨ t.2.2.2.2.2.2.1.size = 6
  rrn : t.2.2.2.2.2.2.2.1 = bs [] ∨ t.2.2.2.2.2.2.2.1.size = 12
theorem readT_of {m : Msg} {i : Nat} (hg : goodM m) (hp : (packF m).2 = 0) (hw : whose m.1 = some i) (ho : okT m (mAt i).1 = true) : ReadT m (trT m (m.1.extract 0 3 ++ bs [48]) (mAt i).1) := by
  obtain ⟨_, _, _, hok, _⟩ := packF_zero hp
  have h4 : m.1.size = 4 := by have := whose_len hw; simpa using this
  have hf : (m.1.extract 0 3 ++ bs [48]).size = 4 := by rw [ByteArray.size_append, ByteArray.size_extract, bs_size]; simp; omega
  have s7 : hasM m 7 = true → (fldM m 7).size = 10 := fun h => by have := fsize hg hok h of7; omega
  have s11 : hasM m 11 = true → (fldM m 11).size = 6 := fun h => by have := fsize hg hok h of11; omega
  obtain ⟨k, hk⟩ : ∃ k, (mAt i).1 = k := ⟨_, rfl⟩
  have hc := class_at i (whose_lt hw).1
  rw [hk] at ho hc ⊢
  rcases hc with rfl | rfl | rfl | rfl | rfl | rfl
  · have ho : (hasM m 7 && (hasM m 11 && (hasM m 2 && (cardB (fldM m 2) && (hasM m 3 && (hasM m 4 && (!decide (numM m 4 < 1) && (hasM m 32 && (acqB (fldM m 32) && (hasM m 37 && refB (fldM m 37))))))))))) = true := ho
    simp only [Bool.and_eq_true] at ho
    exact ⟨rfl, hf, s7 ho.1, s11 ho.2.1, .inr (acq_size ho.2.2.2.2.2.2.2.2.1), .inr (ref_size ho.2.2.2.2.2.2.2.2.2.2)⟩
  · have ho : (hasM m 7 && (hasM m 11 && (hasM m 2 && (cardB (fldM m 2) && (hasM m 3 && (hasM m 4 && (!decide (numM m 4 < 1) && (hasM m 32 && (acqB (fldM m 32) && (hasM m 37 && refB (fldM m 37))))))))))) = true := ho
    simp only [Bool.and_eq_true] at ho
    exact ⟨rfl, hf, s7 ho.1, s11 ho.2.1, .inr (acq_size ho.2.2.2.2.2.2.2.2.1), .inr (ref_size ho.2.2.2.2.2.2.2.2.2.2)⟩
  · have ho : (hasM m 7 && (hasM m 11 && (hasM m 4 && (hasM m 32 && (acqB (fldM m 32) && (hasM m 37 && (refB (fldM m 37) && (hasM m 90 && origB (fldM m 90))))))))) = true := ho
    simp only [Bool.and_eq_true] at ho
    exact ⟨rfl, hf, s7 ho.1, s11 ho.2.1, .inr (acq_size ho.2.2.2.2.1), .inr (ref_size ho.2.2.2.2.2.2.1)⟩
  · have ho : (hasM m 7 && (hasM m 11 && (hasM m 32 && (acqB (fldM m 32) && (hasM m 74 && hasM m 86))))) = true := ho
    simp only [Bool.and_eq_true] at ho
    exact ⟨rfl, hf, s7 ho.1, s11 ho.2.1, .inr (acq_size ho.2.2.2.1), .inl rfl⟩
  · have ho : (hasM m 7 && (hasM m 11 && (hasM m 3 && (hasM m 4 && (!decide (numM m 4 < 1) && (hasM m 32 && (acqB (fldM m 32) && (hasM m 37 && refB (fldM m 37))))))))) = true := ho
    simp only [Bool.and_eq_true] at ho
    exact ⟨rfl, hf, s7 ho.1, s11 ho.2.1, .inr (acq_size ho.2.2.2.2.2.2.1), .inr (ref_size ho.2.2.2.2.2.2.2.2)⟩
  · have ho : (hasM m 7 && (hasM m 11 && hasM m 70)) = true := ho
    simp only [Bool.and_eq_true] at ho
    exact ⟨rfl, hf, s7 ho.1, s11 ho.2.1, .inl rfl, .inl rfl⟩
theorem ReadT.key {m : Msg} {t : Tr} (h : ReadT m t) : keyT t := by
  refine ⟨by rw [h.four]; omega, by rw [h.stan]; omega, ?_, ?_, by rw [h.sent]; omega⟩
  · rcases h.rrn with e | e
    · rw [e]; decide
    · rw [e]; omega
  · rcases h.acq with e | e
    · rw [e]; decide
    · rw [e]; omega
theorem ReadT.len {m : Msg} {t : Tr} (h : ReadT m t) : (keyL t).length = 35 := by
  have h1 : (t.1.extract 1 2).data.toList.length = 1 := by
    show (t.1.extract 1 2).size = 1
    rw [ByteArray.size_extract, h.four]; rfl
  have h2 : t.2.2.2.2.2.1.data.toList.length = 6 := h.stan
  have h3 : t.2.2.2.2.1.data.toList.length = 10 := h.sent
  have h4 := orL_16 h.rrn
  have h5 := orL_16 h.acq
  unfold keyL
  simp only [List.length_append]
  omega
theorem read_cases {m : Msg} (hg : goodM m) : (∃ e : Int, e ≠ 0 ∧ trade_Read.f m = some (zT, e) ∧ bursarref20_Read.f m = some (zT, e)) ∨
    ∃ i, (packF m).2 = 0 ∧ whose m.1 = some i ∧ (mAt i).2.2.1 = false ∧ okT m (mAt i).1 = true ∧ trade_Read.f m = some (trT m (m.1.extract 0 3 ++ bs [48]) (mAt i).1, 0) ∧ bursarref20_Read.f m = some (trT m (m.1.extract 0 3 ++ bs [48]) (mAt i).1, 0) := by
  by_cases hp : (packF m).2 = 0
  · obtain ⟨i, hw, _⟩ := packF_zero hp
    cases ha : (mAt i).2.2.1
    · cases ho : okT m (mAt i).1
      · refine .inl ⟨16, by decide, ?_, ?_⟩
        · rw [tradeRead_is hg hp hw ha, ho]; rfl
        · rw [refRead_is hg hp hw ha, ho]; rfl
      · refine .inr ⟨i, hp, hw, ha, ho, ?_, ?_⟩
        · rw [tradeRead_is hg hp hw ha, ho]; rfl
        · rw [refRead_is hg hp hw ha, ho]; rfl
    · exact .inl ⟨17, by decide, tradeRead_answer hg hp hw ha, refRead_answer hg hp hw ha⟩
  · exact .inl ⟨1, by decide, tradeRead_bad hg hp, refRead_bad hg hp⟩
end Go.Proofs.YtpoiijkodpnobaaGreatDoor
end
section
set_option linter.unusedVariables false
set_option maxRecDepth 100000
namespace Go.Proofs.YtpoiijkodpnobaaGreatDoor
open Go Go.Fw
abbrev bursarlaw20_TradeKeys.As : Shs := (.cons (.x T_api_Message) (.cons (.x T_api_Message) .nil))
abbrev bursarlaw20_TradeKeys.m : Back := [(false, .b)]
noncomputable abbrev bursarlaw20_TradeKeys.H : HK := hk P G1 E0 J0 [bursarlaw19_Few.row, trade_Read.row, bursarlaw20_awake.row, trade_Key.row] noLoops 4
theorem bursarlaw20_TradeKeys.rows : TabOK P G1 (tabF [bursarlaw19_Few.row, trade_Read.row, bursarlaw20_awake.row, trade_Key.row]) := rows_ok (ws := [bursarlaw19_Few.row, trade_Read.row, bursarlaw20_awake.row, trade_Key.row]) ⟨(bursarlaw19_Few.row_ok.more g01), ⟨trade_Read.row_ok, ⟨bursarlaw20_awake.row_ok, ⟨(trade_Key.row_ok.more g01), trivial⟩⟩⟩⟩
theorem bursarlaw20_TradeKeys.hok : HKOK P bursarlaw20_TradeKeys.H := hk_ok e0_ok j0_ok bursarlaw20_TradeKeys.rows (fun g n => noLoops_ok g n) 4
noncomputable abbrev bursarlaw20_TradeKeys.sh10 : SSh := ⟨[(5, (.pt 0 0)), (7, (.pt 1 0)), (9, (.pt 2 0)), (10, (.pt 3 0)), (11, (.x (.i .i64)))], [.box (.cons (.x .s) (.cons (.x .s) (.cons (.x .s) (.cons (.x (.i .i64)) (.cons (.x .s) (.cons (.x .s) (.cons (.x .s) (.cons (.x .s) (.cons (.x .s) (.cons (.x (.i .i64)) (.cons (.x (.i .i64)) (.cons (.x .s) .nil)))))))))))), .box (.cons (.x .s) (.cons (.x .s) (.cons (.x .s) (.cons (.x (.i .i64)) (.cons (.x .s) (.cons (.x .s) (.cons (.x .s) (.cons (.x .s) (.cons (.x .s) (.cons (.x (.i .i64)) (.cons (.x (.i .i64)) (.cons (.x .s) .nil)))))))))))), .box (.cons (.x .s) (.cons (.x .s) .nil)), .box (.cons (.x .s) (.cons (.x .s) .nil))]⟩
noncomputable abbrev bursarlaw20_TradeKeys.os10 : PEnds := [((.exit 0), ⟨[(5, (.pt 0 0)), (7, (.pt 1 0)), (9, (.pt 2 0)), (10, (.pt 3 0))], [.box (.cons (.x .s) (.cons (.x .s) (.cons (.x .s) (.cons (.x (.i .i64)) (.cons (.x .s) (.cons (.x .s) (.cons (.x .s) (.cons (.x .s) (.cons (.x .s) (.cons (.x (.i .i64)) (.cons (.x (.i .i64)) (.cons (.x .s) .nil)))))))))))), .box (.cons (.x .s) (.cons (.x .s) (.cons (.x .s) (.cons (.x (.i .i64)) (.cons (.x .s) (.cons (.x .s) (.cons (.x .s) (.cons (.x .s) (.cons (.x .s) (.cons (.x (.i .i64)) (.cons (.x (.i .i64)) (.cons (.x .s) .nil)))))))))))), .box (.cons (.x .s) (.cons (.x .s) .nil)), .box (.cons (.x .s) (.cons (.x .s) .nil))]⟩)]
noncomputable def bursarlaw20_TradeKeys.t10 (s : (Int × (ByteArray × (ByteArray × (ByteArray × (Int × (ByteArray × (ByteArray × (ByteArray × (ByteArray × (ByteArray × (Int × (Int × (ByteArray × (ByteArray × (ByteArray × (ByteArray × (Int × (ByteArray × (ByteArray × (ByteArray × (ByteArray × (ByteArray × (Int × (Int × (ByteArray × (ByteArray × (ByteArray × (ByteArray × ByteArray))))))))))))))))))))))))))))) : Option ((Int × (ByteArray × (ByteArray × (ByteArray × (Int × (ByteArray × (ByteArray × (ByteArray × (ByteArray × (ByteArray × (Int × (Int × (ByteArray × (ByteArray × (ByteArray × (ByteArray × (Int × (ByteArray × (ByteArray × (ByteArray × (ByteArray × (ByteArray × (Int × (Int × (ByteArray × (ByteArray × (ByteArray × (ByteArray × ByteArray)))))))))))))))))))))))))))) ⊕ ((ByteArray × (ByteArray × (ByteArray × (Int × (ByteArray × (ByteArray × (ByteArray × (ByteArray × (ByteArray × (Int × (Int × (ByteArray × (ByteArray × (ByteArray × (ByteArray × (Int × (ByteArray × (ByteArray × (ByteArray × (ByteArray × (ByteArray × (Int × (Int × (ByteArray × (ByteArray × (ByteArray × (ByteArray × ByteArray))))))))))))))))))))))))))))) := (bif (decide ((s.1 < (2 : Int)))) then (bif (s.1 == (0 : Int)) then (bif ((ByteArray.toList s.2.2.2.2.2.2.2.2.2.2.2.2.2.2.2.2.2.2.2.2.2.2.2.2.2.1) == []) then (bif (s.1 == (0 : Int)) then (bif (s.1 == (0 : Int)) then (bif ((ByteArray.toList s.2.2.2.2.2.2.2.2.2.2.2.2.2.2.2.2.2.2.2.2.2.2.2.2.2.2.2.1) == []) then (bif (s.1 == (0 : Int)) then (some (.inl ((IntKind.wrap .i64 (s.1 + (1 : Int))), (s.2.1, (s.2.2.1, (s.2.2.2.1, (s.2.2.2.2.1, (s.2.2.2.2.2.1, (s.2.2.2.2.2.2.1, (s.2.2.2.2.2.2.2.1, (s.2.2.2.2.2.2.2.2.1, (s.2.2.2.2.2.2.2.2.2.1, (s.2.2.2.2.2.2.2.2.2.2.1, (s.2.2.2.2.2.2.2.2.2.2.2.1, (s.2.2.2.2.2.2.2.2.2.2.2.2.1, (s.2.2.2.2.2.2.2.2.2.2.2.2.2.1, (s.2.2.2.2.2.2.2.2.2.2.2.2.2.2.1, (s.2.2.2.2.2.2.2.2.2.2.2.2.2.2.2.1, (s.2.2.2.2.2.2.2.2.2.2.2.2.2.2.2.2.1, (s.2.2.2.2.2.2.2.2.2.2.2.2.2.2.2.2.2.1, (s.2.2.2.2.2.2.2.2.2.2.2.2.2.2.2.2.2.2.1, (s.2.2.2.2.2.2.2.2.2.2.2.2.2.2.2.2.2.2.2.1, (s.2.2.2.2.2.2.2.2.2.2.2.2.2.2.2.2.2.2.2.2.1, (s.2.2.2.2.2.2.2.2.2.2.2.2.2.2.2.2.2.2.2.2.2.1, (s.2.2.2.2.2.2.2.2.2.2.2.2.2.2.2.2.2.2.2.2.2.2.1, (s.2.2.2.2.2.2.2.2.2.2.2.2.2.2.2.2.2.2.2.2.2.2.2.1, (s.2.2.2.2.2.2.2.2.2.2.2.2.2.2.2.2.2.2.2.2.2.2.2.2.1, ((bs [48, 48, 48, 48, 48, 48, 48, 48, 48, 48, 48, 48]), (s.2.2.2.2.2.2.2.2.2.2.2.2.2.2.2.2.2.2.2.2.2.2.2.2.2.2.1, ((bs [48, 48, 48, 48, 48, 48]), s.2.2.2.2.2.2.2.2.2.2.2.2.2.2.2.2.2.2.2.2.2.2.2.2.2.2.2.2)))))))))))))))))))))))))))))) else (bif (s.1 == (1 : Int)) then (some (.inl ((IntKind.wrap .i64 (s.1 + (1 : Int))), (s.2.1, (s.2.2.1, (s.2.2.2.1, (s.2.2.2.2.1, (s.2.2.2.2.2.1, (s.2.2.2.2.2.2.1, (s.2.2.2.2.2.2.2.1, (s.2.2.2.2.2.2.2.2.1, (s.2.2.2.2.2.2.2.2.2.1, (s.2.2.2.2.2.2.2.2.2.2.1, (s.2.2.2.2.2.2.2.2.2.2.2.1, (s.2.2.2.2.2.2.2.2.2.2.2.2.1, (s.2.2.2.2.2.2.2.2.2.2.2.2.2.1, (s.2.2.2.2.2.2.2.2.2.2.2.2.2.2.1, (s.2.2.2.2.2.2.2.2.2.2.2.2.2.2.2.1, (s.2.2.2.2.2.2.2.2.2.2.2.2.2.2.2.2.1, (s.2.2.2.2.2.2.2.2.2.2.2.2.2.2.2.2.2.1, (s.2.2.2.2.2.2.2.2.2.2.2.2.2.2.2.2.2.2.1, (s.2.2.2.2.2.2.2.2.2.2.2.2.2.2.2.2.2.2.2.1, (s.2.2.2.2.2.2.2.2.2.2.2.2.2.2.2.2.2.2.2.2.1, (s.2.2.2.2.2.2.2.2.2.2.2.2.2.2.2.2.2.2.2.2.2.1, (s.2.2.2.2.2.2.2.2.2.2.2.2.2.2.2.2.2.2.2.2.2.2.1, (s.2.2.2.2.2.2.2.2.2.2.2.2.2.2.2.2.2.2.2.2.2.2.2.1, (s.2.2.2.2.2.2.2.2.2.2.2.2.2.2.2.2.2.2.2.2.2.2.2.2.1, ((bs [48, 48, 48, 48, 48, 48, 48, 48, 48, 48, 48, 48]), (s.2.2.2.2.2.2.2.2.2.2.2.2.2.2.2.2.2.2.2.2.2.2.2.2.2.2.1, (s.2.2.2.2.2.2.2.2.2.2.2.2.2.2.2.2.2.2.2.2.2.2.2.2.2.2.2.1, (bs [48, 48, 48, 48, 48, 48]))))))))))))))))))))))))))))))) else none)) else (some (.inl ((IntKind.wrap .i64 (s.1 + (1 : Int))), (s.2.1, (s.2.2.1, (s.2.2.2.1, (s.2.2.2.2.1, (s.2.2.2.2.2.1, (s.2.2.2.2.2.2.1, (s.2.2.2.2.2.2.2.1, (s.2.2.2.2.2.2.2.2.1, (s.2.2.2.2.2.2.2.2.2.1, (s.2.2.2.2.2.2.2.2.2.2.1, (s.2.2.2.2.2.2.2.2.2.2.2.1, (s.2.2.2.2.2.2.2.2.2.2.2.2.1, (s.2.2.2.2.2.2.2.2.2.2.2.2.2.1, (s.2.2.2.2.2.2.2.2.2.2.2.2.2.2.1, (s.2.2.2.2.2.2.2.2.2.2.2.2.2.2.2.1, (s.2.2.2.2.2.2.2.2.2.2.2.2.2.2.2.2.1, (s.2.2.2.2.2.2.2.2.2.2.2.2.2.2.2.2.2.1, (s.2.2.2.2.2.2.2.2.2.2.2.2.2.2.2.2.2.2.1, (s.2.2.2.2.2.2.2.2.2.2.2.2.2.2.2.2.2.2.2.1, (s.2.2.2.2.2.2.2.2.2.2.2.2.2.2.2.2.2.2.2.2.1, (s.2.2.2.2.2.2.2.2.2.2.2.2.2.2.2.2.2.2.2.2.2.1, (s.2.2.2.2.2.2.2.2.2.2.2.2.2.2.2.2.2.2.2.2.2.2.1, (s.2.2.2.2.2.2.2.2.2.2.2.2.2.2.2.2.2.2.2.2.2.2.2.1, (s.2.2.2.2.2.2.2.2.2.2.2.2.2.2.2.2.2.2.2.2.2.2.2.2.1, ((bs [48, 48, 48, 48, 48, 48, 48, 48, 48, 48, 48, 48]), s.2.2.2.2.2.2.2.2.2.2.2.2.2.2.2.2.2.2.2.2.2.2.2.2.2.2))))))))))))))))))))))))))))) else (bif (s.1 == (1 : Int)) then (bif ((ByteArray.toList s.2.2.2.2.2.2.2.2.2.2.2.2.2.2.2.2.2.2.2.2.2.2.2.2.2.2.2.2) == []) then (bif (s.1 == (0 : Int)) then (some (.inl ((IntKind.wrap .i64 (s.1 + (1 : Int))), (s.2.1, (s.2.2.1, (s.2.2.2.1, (s.2.2.2.2.1, (s.2.2.2.2.2.1, (s.2.2.2.2.2.2.1, (s.2.2.2.2.2.2.2.1, (s.2.2.2.2.2.2.2.2.1, (s.2.2.2.2.2.2.2.2.2.1, (s.2.2.2.2.2.2.2.2.2.2.1, (s.2.2.2.2.2.2.2.2.2.2.2.1, (s.2.2.2.2.2.2.2.2.2.2.2.2.1, (s.2.2.2.2.2.2.2.2.2.2.2.2.2.1, (s.2.2.2.2.2.2.2.2.2.2.2.2.2.2.1, (s.2.2.2.2.2.2.2.2.2.2.2.2.2.2.2.1, (s.2.2.2.2.2.2.2.2.2.2.2.2.2.2.2.2.1, (s.2.2.2.2.2.2.2.2.2.2.2.2.2.2.2.2.2.1, (s.2.2.2.2.2.2.2.2.2.2.2.2.2.2.2.2.2.2.1, (s.2.2.2.2.2.2.2.2.2.2.2.2.2.2.2.2.2.2.2.1, (s.2.2.2.2.2.2.2.2.2.2.2.2.2.2.2.2.2.2.2.2.1, (s.2.2.2.2.2.2.2.2.2.2.2.2.2.2.2.2.2.2.2.2.2.1, (s.2.2.2.2.2.2.2.2.2.2.2.2.2.2.2.2.2.2.2.2.2.2.1, (s.2.2.2.2.2.2.2.2.2.2.2.2.2.2.2.2.2.2.2.2.2.2.2.1, (s.2.2.2.2.2.2.2.2.2.2.2.2.2.2.2.2.2.2.2.2.2.2.2.2.1, ((bs [48, 48, 48, 48, 48, 48, 48, 48, 48, 48, 48, 48]), (s.2.2.2.2.2.2.2.2.2.2.2.2.2.2.2.2.2.2.2.2.2.2.2.2.2.2.1, ((bs [48, 48, 48, 48, 48, 48]), s.2.2.2.2.2.2.2.2.2.2.2.2.2.2.2.2.2.2.2.2.2.2.2.2.2.2.2.2)))))))))))))))))))))))))))))) else (bif (s.1 == (1 : Int)) then (some (.inl ((IntKind.wrap .i64 (s.1 + (1 : Int))), (s.2.1, (s.2.2.1, (s.2.2.2.1, (s.2.2.2.2.1, (s.2.2.2.2.2.1, (s.2.2.2.2.2.2.1, (s.2.2.2.2.2.2.2.1, (s.2.2.2.2.2.2.2.2.1, (s.2.2.2.2.2.2.2.2.2.1, (s.2.2.2.2.2.2.2.2.2.2.1, (s.2.2.2.2.2.2.2.2.2.2.2.1, (s.2.2.2.2.2.2.2.2.2.2.2.2.1, (s.2.2.2.2.2.2.2.2.2.2.2.2.2.1, (s.2.2.2.2.2.2.2.2.2.2.2.2.2.2.1, (s.2.2.2.2.2.2.2.2.2.2.2.2.2.2.2.1, (s.2.2.2.2.2.2.2.2.2.2.2.2.2.2.2.2.1, (s.2.2.2.2.2.2.2.2.2.2.2.2.2.2.2.2.2.1, (s.2.2.2.2.2.2.2.2.2.2.2.2.2.2.2.2.2.2.1, (s.2.2.2.2.2.2.2.2.2.2.2.2.2.2.2.2.2.2.2.1, (s.2.2.2.2.2.2.2.2.2.2.2.2.2.2.2.2.2.2.2.2.1, (s.2.2.2.2.2.2.2.2.2.2.2.2.2.2.2.2.2.2.2.2.2.1, (s.2.2.2.2.2.2.2.2.2.2.2.2.2.2.2.2.2.2.2.2.2.2.1, (s.2.2.2.2.2.2.2.2.2.2.2.2.2.2.2.2.2.2.2.2.2.2.2.1, (s.2.2.2.2.2.2.2.2.2.2.2.2.2.2.2.2.2.2.2.2.2.2.2.2.1, ((bs [48, 48, 48, 48, 48, 48, 48, 48, 48, 48, 48, 48]), (s.2.2.2.2.2.2.2.2.2.2.2.2.2.2.2.2.2.2.2.2.2.2.2.2.2.2.1, (s.2.2.2.2.2.2.2.2.2.2.2.2.2.2.2.2.2.2.2.2.2.2.2.2.2.2.2.1, (bs [48, 48, 48, 48, 48, 48]))))))))))))))))))))))))))))))) else none)) else (some (.inl ((IntKind.wrap .i64 (s.1 + (1 : Int))), (s.2.1, (s.2.2.1, (s.2.2.2.1, (s.2.2.2.2.1, (s.2.2.2.2.2.1, (s.2.2.2.2.2.2.1, (s.2.2.2.2.2.2.2.1, (s.2.2.2.2.2.2.2.2.1, (s.2.2.2.2.2.2.2.2.2.1, (s.2.2.2.2.2.2.2.2.2.2.1, (s.2.2.2.2.2.2.2.2.2.2.2.1, (s.2.2.2.2.2.2.2.2.2.2.2.2.1, (s.2.2.2.2.2.2.2.2.2.2.2.2.2.1, (s.2.2.2.2.2.2.2.2.2.2.2.2.2.2.1, (s.2.2.2.2.2.2.2.2.2.2.2.2.2.2.2.1, (s.2.2.2.2.2.2.2.2.2.2.2.2.2.2.2.2.1, (s.2.2.2.2.2.2.2.2.2.2.2.2.2.2.2.2.2.1, (s.2.2.2.2.2.2.2.2.2.2.2.2.2.2.2.2.2.2.1, (s.2.2.2.2.2.2.2.2.2.2.2.2.2.2.2.2.2.2.2.1, (s.2.2.2.2.2.2.2.2.2.2.2.2.2.2.2.2.2.2.2.2.1, (s.2.2.2.2.2.2.2.2.2.2.2.2.2.2.2.2.2.2.2.2.2.1, (s.2.2.2.2.2.2.2.2.2.2.2.2.2.2.2.2.2.2.2.2.2.2.1, (s.2.2.2.2.2.2.2.2.2.2.2.2.2.2.2.2.2.2.2.2.2.2.2.1, (s.2.2.2.2.2.2.2.2.2.2.2.2.2.2.2.2.2.2.2.2.2.2.2.2.1, ((bs [48, 48, 48, 48, 48, 48, 48, 48, 48, 48, 48, 48]), s.2.2.2.2.2.2.2.2.2.2.2.2.2.2.2.2.2.2.2.2.2.2.2.2.2.2))))))))))))))))))))))))))))) else none)) else (bif (s.1 == (1 : Int)) then (bif (s.1 == (0 : Int)) then (bif ((ByteArray.toList s.2.2.2.2.2.2.2.2.2.2.2.2.2.2.2.2.2.2.2.2.2.2.2.2.2.2.2.1) == []) then (bif (s.1 == (0 : Int)) then (some (.inl ((IntKind.wrap .i64 (s.1 + (1 : Int))), (s.2.1, (s.2.2.1, (s.2.2.2.1, (s.2.2.2.2.1, (s.2.2.2.2.2.1, (s.2.2.2.2.2.2.1, (s.2.2.2.2.2.2.2.1, (s.2.2.2.2.2.2.2.2.1, (s.2.2.2.2.2.2.2.2.2.1, (s.2.2.2.2.2.2.2.2.2.2.1, (s.2.2.2.2.2.2.2.2.2.2.2.1, (s.2.2.2.2.2.2.2.2.2.2.2.2.1, (s.2.2.2.2.2.2.2.2.2.2.2.2.2.1, (s.2.2.2.2.2.2.2.2.2.2.2.2.2.2.1, (s.2.2.2.2.2.2.2.2.2.2.2.2.2.2.2.1, (s.2.2.2.2.2.2.2.2.2.2.2.2.2.2.2.2.1, (s.2.2.2.2.2.2.2.2.2.2.2.2.2.2.2.2.2.1, (s.2.2.2.2.2.2.2.2.2.2.2.2.2.2.2.2.2.2.1, (s.2.2.2.2.2.2.2.2.2.2.2.2.2.2.2.2.2.2.2.1, (s.2.2.2.2.2.2.2.2.2.2.2.2.2.2.2.2.2.2.2.2.1, (s.2.2.2.2.2.2.2.2.2.2.2.2.2.2.2.2.2.2.2.2.2.1, (s.2.2.2.2.2.2.2.2.2.2.2.2.2.2.2.2.2.2.2.2.2.2.1, (s.2.2.2.2.2.2.2.2.2.2.2.2.2.2.2.2.2.2.2.2.2.2.2.1, (s.2.2.2.2.2.2.2.2.2.2.2.2.2.2.2.2.2.2.2.2.2.2.2.2.1, (s.2.2.2.2.2.2.2.2.2.2.2.2.2.2.2.2.2.2.2.2.2.2.2.2.2.1, ((bs [48, 48, 48, 48, 48, 48, 48, 48, 48, 48, 48, 48]), ((bs [48, 48, 48, 48, 48, 48]), s.2.2.2.2.2.2.2.2.2.2.2.2.2.2.2.2.2.2.2.2.2.2.2.2.2.2.2.2)))))))))))))))))))))))))))))) else (bif (s.1 == (1 : Int)) then (some (.inl ((IntKind.wrap .i64 (s.1 + (1 : Int))), (s.2.1, (s.2.2.1, (s.2.2.2.1, (s.2.2.2.2.1, (s.2.2.2.2.2.1, (s.2.2.2.2.2.2.1, (s.2.2.2.2.2.2.2.1, (s.2.2.2.2.2.2.2.2.1, (s.2.2.2.2.2.2.2.2.2.1, (s.2.2.2.2.2.2.2.2.2.2.1, (s.2.2.2.2.2.2.2.2.2.2.2.1, (s.2.2.2.2.2.2.2.2.2.2.2.2.1, (s.2.2.2.2.2.2.2.2.2.2.2.2.2.1, (s.2.2.2.2.2.2.2.2.2.2.2.2.2.2.1, (s.2.2.2.2.2.2.2.2.2.2.2.2.2.2.2.1, (s.2.2.2.2.2.2.2.2.2.2.2.2.2.2.2.2.1, (s.2.2.2.2.2.2.2.2.2.2.2.2.2.2.2.2.2.1, (s.2.2.2.2.2.2.2.2.2.2.2.2.2.2.2.2.2.2.1, (s.2.2.2.2.2.2.2.2.2.2.2.2.2.2.2.2.2.2.2.1, (s.2.2.2.2.2.2.2.2.2.2.2.2.2.2.2.2.2.2.2.2.1, (s.2.2.2.2.2.2.2.2.2.2.2.2.2.2.2.2.2.2.2.2.2.1, (s.2.2.2.2.2.2.2.2.2.2.2.2.2.2.2.2.2.2.2.2.2.2.1, (s.2.2.2.2.2.2.2.2.2.2.2.2.2.2.2.2.2.2.2.2.2.2.2.1, (s.2.2.2.2.2.2.2.2.2.2.2.2.2.2.2.2.2.2.2.2.2.2.2.2.1, (s.2.2.2.2.2.2.2.2.2.2.2.2.2.2.2.2.2.2.2.2.2.2.2.2.2.1, ((bs [48, 48, 48, 48, 48, 48, 48, 48, 48, 48, 48, 48]), (s.2.2.2.2.2.2.2.2.2.2.2.2.2.2.2.2.2.2.2.2.2.2.2.2.2.2.2.1, (bs [48, 48, 48, 48, 48, 48]))))))))))))))))))))))))))))))) else none)) else (some (.inl ((IntKind.wrap .i64 (s.1 + (1 : Int))), (s.2.1, (s.2.2.1, (s.2.2.2.1, (s.2.2.2.2.1, (s.2.2.2.2.2.1, (s.2.2.2.2.2.2.1, (s.2.2.2.2.2.2.2.1, (s.2.2.2.2.2.2.2.2.1, (s.2.2.2.2.2.2.2.2.2.1, (s.2.2.2.2.2.2.2.2.2.2.1, (s.2.2.2.2.2.2.2.2.2.2.2.1, (s.2.2.2.2.2.2.2.2.2.2.2.2.1, (s.2.2.2.2.2.2.2.2.2.2.2.2.2.1, (s.2.2.2.2.2.2.2.2.2.2.2.2.2.2.1, (s.2.2.2.2.2.2.2.2.2.2.2.2.2.2.2.1, (s.2.2.2.2.2.2.2.2.2.2.2.2.2.2.2.2.1, (s.2.2.2.2.2.2.2.2.2.2.2.2.2.2.2.2.2.1, (s.2.2.2.2.2.2.2.2.2.2.2.2.2.2.2.2.2.2.1, (s.2.2.2.2.2.2.2.2.2.2.2.2.2.2.2.2.2.2.2.1, (s.2.2.2.2.2.2.2.2.2.2.2.2.2.2.2.2.2.2.2.2.1, (s.2.2.2.2.2.2.2.2.2.2.2.2.2.2.2.2.2.2.2.2.2.1, (s.2.2.2.2.2.2.2.2.2.2.2.2.2.2.2.2.2.2.2.2.2.2.1, (s.2.2.2.2.2.2.2.2.2.2.2.2.2.2.2.2.2.2.2.2.2.2.2.1, (s.2.2.2.2.2.2.2.2.2.2.2.2.2.2.2.2.2.2.2.2.2.2.2.2.1, (s.2.2.2.2.2.2.2.2.2.2.2.2.2.2.2.2.2.2.2.2.2.2.2.2.2.1, ((bs [48, 48, 48, 48, 48, 48, 48, 48, 48, 48, 48, 48]), s.2.2.2.2.2.2.2.2.2.2.2.2.2.2.2.2.2.2.2.2.2.2.2.2.2.2.2)))))))))))))))))))))))))))))) else (bif (s.1 == (1 : Int)) then (bif ((ByteArray.toList s.2.2.2.2.2.2.2.2.2.2.2.2.2.2.2.2.2.2.2.2.2.2.2.2.2.2.2.2) == []) then (bif (s.1 == (0 : Int)) then (some (.inl ((IntKind.wrap .i64 (s.1 + (1 : Int))), (s.2.1, (s.2.2.1, (s.2.2.2.1, (s.2.2.2.2.1, (s.2.2.2.2.2.1, (s.2.2.2.2.2.2.1, (s.2.2.2.2.2.2.2.1, (s.2.2.2.2.2.2.2.2.1, (s.2.2.2.2.2.2.2.2.2.1, (s.2.2.2.2.2.2.2.2.2.2.1, (s.2.2.2.2.2.2.2.2.2.2.2.1, (s.2.2.2.2.2.2.2.2.2.2.2.2.1, (s.2.2.2.2.2.2.2.2.2.2.2.2.2.1, (s.2.2.2.2.2.2.2.2.2.2.2.2.2.2.1, (s.2.2.2.2.2.2.2.2.2.2.2.2.2.2.2.1, (s.2.2.2.2.2.2.2.2.2.2.2.2.2.2.2.2.1, (s.2.2.2.2.2.2.2.2.2.2.2.2.2.2.2.2.2.1, (s.2.2.2.2.2.2.2.2.2.2.2.2.2.2.2.2.2.2.1, (s.2.2.2.2.2.2.2.2.2.2.2.2.2.2.2.2.2.2.2.1, (s.2.2.2.2.2.2.2.2.2.2.2.2.2.2.2.2.2.2.2.2.1, (s.2.2.2.2.2.2.2.2.2.2.2.2.2.2.2.2.2.2.2.2.2.1, (s.2.2.2.2.2.2.2.2.2.2.2.2.2.2.2.2.2.2.2.2.2.2.1, (s.2.2.2.2.2.2.2.2.2.2.2.2.2.2.2.2.2.2.2.2.2.2.2.1, (s.2.2.2.2.2.2.2.2.2.2.2.2.2.2.2.2.2.2.2.2.2.2.2.2.1, (s.2.2.2.2.2.2.2.2.2.2.2.2.2.2.2.2.2.2.2.2.2.2.2.2.2.1, ((bs [48, 48, 48, 48, 48, 48, 48, 48, 48, 48, 48, 48]), ((bs [48, 48, 48, 48, 48, 48]), s.2.2.2.2.2.2.2.2.2.2.2.2.2.2.2.2.2.2.2.2.2.2.2.2.2.2.2.2)))))))))))))))))))))))))))))) else (bif (s.1 == (1 : Int)) then (some (.inl ((IntKind.wrap .i64 (s.1 + (1 : Int))), (s.2.1, (s.2.2.1, (s.2.2.2.1, (s.2.2.2.2.1, (s.2.2.2.2.2.1, (s.2.2.2.2.2.2.1, (s.2.2.2.2.2.2.2.1, (s.2.2.2.2.2.2.2.2.1, (s.2.2.2.2.2.2.2.2.2.1, (s.2.2.2.2.2.2.2.2.2.2.1, (s.2.2.2.2.2.2.2.2.2.2.2.1, (s.2.2.2.2.2.2.2.2.2.2.2.2.1, (s.2.2.2.2.2.2.2.2.2.2.2.2.2.1, (s.2.2.2.2.2.2.2.2.2.2.2.2.2.2.1, (s.2.2.2.2.2.2.2.2.2.2.2.2.2.2.2.1, (s.2.2.2.2.2.2.2.2.2.2.2.2.2.2.2.2.1, (s.2.2.2.2.2.2.2.2.2.2.2.2.2.2.2.2.2.1, (s.2.2.2.2.2.2.2.2.2.2.2.2.2.2.2.2.2.2.1, (s.2.2.2.2.2.2.2.2.2.2.2.2.2.2.2.2.2.2.2.1, (s.2.2.2.2.2.2.2.2.2.2.2.2.2.2.2.2.2.2.2.2.1, (s.2.2.2.2.2.2.2.2.2.2.2.2.2.2.2.2.2.2.2.2.2.1, (s.2.2.2.2.2.2.2.2.2.2.2.2.2.2.2.2.2.2.2.2.2.2.1, (s.2.2.2.2.2.2.2.2.2.2.2.2.2.2.2.2.2.2.2.2.2.2.2.1, (s.2.2.2.2.2.2.2.2.2.2.2.2.2.2.2.2.2.2.2.2.2.2.2.2.1, (s.2.2.2.2.2.2.2.2.2.2.2.2.2.2.2.2.2.2.2.2.2.2.2.2.2.1, ((bs [48, 48, 48, 48, 48, 48, 48, 48, 48, 48, 48, 48]), (s.2.2.2.2.2.2.2.2.2.2.2.2.2.2.2.2.2.2.2.2.2.2.2.2.2.2.2.1, (bs [48, 48, 48, 48, 48, 48]))))))))))))))))))))))))))))))) else none)) else (some (.inl ((IntKind.wrap .i64 (s.1 + (1 : Int))), (s.2.1, (s.2.2.1, (s.2.2.2.1, (s.2.2.2.2.1, (s.2.2.2.2.2.1, (s.2.2.2.2.2.2.1, (s.2.2.2.2.2.2.2.1, (s.2.2.2.2.2.2.2.2.1, (s.2.2.2.2.2.2.2.2.2.1, (s.2.2.2.2.2.2.2.2.2.2.1, (s.2.2.2.2.2.2.2.2.2.2.2.1, (s.2.2.2.2.2.2.2.2.2.2.2.2.1, (s.2.2.2.2.2.2.2.2.2.2.2.2.2.1, (s.2.2.2.2.2.2.2.2.2.2.2.2.2.2.1, (s.2.2.2.2.2.2.2.2.2.2.2.2.2.2.2.1, (s.2.2.2.2.2.2.2.2.2.2.2.2.2.2.2.2.1, (s.2.2.2.2.2.2.2.2.2.2.2.2.2.2.2.2.2.1, (s.2.2.2.2.2.2.2.2.2.2.2.2.2.2.2.2.2.2.1, (s.2.2.2.2.2.2.2.2.2.2.2.2.2.2.2.2.2.2.2.1, (s.2.2.2.2.2.2.2.2.2.2.2.2.2.2.2.2.2.2.2.2.1, (s.2.2.2.2.2.2.2.2.2.2.2.2.2.2.2.2.2.2.2.2.2.1, (s.2.2.2.2.2.2.2.2.2.2.2.2.2.2.2.2.2.2.2.2.2.2.1, (s.2.2.2.2.2.2.2.2.2.2.2.2.2.2.2.2.2.2.2.2.2.2.2.1, (s.2.2.2.2.2.2.2.2.2.2.2.2.2.2.2.2.2.2.2.2.2.2.2.2.1, (s.2.2.2.2.2.2.2.2.2.2.2.2.2.2.2.2.2.2.2.2.2.2.2.2.2.1, ((bs [48, 48, 48, 48, 48, 48, 48, 48, 48, 48, 48, 48]), s.2.2.2.2.2.2.2.2.2.2.2.2.2.2.2.2.2.2.2.2.2.2.2.2.2.2.2)))))))))))))))))))))))))))))) else none)) else none)) else (bif (s.1 == (0 : Int)) then (bif ((ByteArray.toList s.2.2.2.2.2.2.2.2.2.2.2.2.2.2.2.2.2.2.2.2.2.2.2.2.2.2.2.1) == []) then (bif (s.1 == (0 : Int)) then (some (.inl ((IntKind.wrap .i64 (s.1 + (1 : Int))), (s.2.1, (s.2.2.1, (s.2.2.2.1, (s.2.2.2.2.1, (s.2.2.2.2.2.1, (s.2.2.2.2.2.2.1, (s.2.2.2.2.2.2.2.1, (s.2.2.2.2.2.2.2.2.1, (s.2.2.2.2.2.2.2.2.2.1, (s.2.2.2.2.2.2.2.2.2.2.1, (s.2.2.2.2.2.2.2.2.2.2.2.1, (s.2.2.2.2.2.2.2.2.2.2.2.2.1, (s.2.2.2.2.2.2.2.2.2.2.2.2.2.1, (s.2.2.2.2.2.2.2.2.2.2.2.2.2.2.1, (s.2.2.2.2.2.2.2.2.2.2.2.2.2.2.2.1, (s.2.2.2.2.2.2.2.2.2.2.2.2.2.2.2.2.1, (s.2.2.2.2.2.2.2.2.2.2.2.2.2.2.2.2.2.1, (s.2.2.2.2.2.2.2.2.2.2.2.2.2.2.2.2.2.2.1, (s.2.2.2.2.2.2.2.2.2.2.2.2.2.2.2.2.2.2.2.1, (s.2.2.2.2.2.2.2.2.2.2.2.2.2.2.2.2.2.2.2.2.1, (s.2.2.2.2.2.2.2.2.2.2.2.2.2.2.2.2.2.2.2.2.2.1, (s.2.2.2.2.2.2.2.2.2.2.2.2.2.2.2.2.2.2.2.2.2.2.1, (s.2.2.2.2.2.2.2.2.2.2.2.2.2.2.2.2.2.2.2.2.2.2.2.1, (s.2.2.2.2.2.2.2.2.2.2.2.2.2.2.2.2.2.2.2.2.2.2.2.2.1, (s.2.2.2.2.2.2.2.2.2.2.2.2.2.2.2.2.2.2.2.2.2.2.2.2.2.1, (s.2.2.2.2.2.2.2.2.2.2.2.2.2.2.2.2.2.2.2.2.2.2.2.2.2.2.1, ((bs [48, 48, 48, 48, 48, 48]), s.2.2.2.2.2.2.2.2.2.2.2.2.2.2.2.2.2.2.2.2.2.2.2.2.2.2.2.2)))))))))))))))))))))))))))))) else (bif (s.1 == (1 : Int)) then (some (.inl ((IntKind.wrap .i64 (s.1 + (1 : Int))), (s.2.1, (s.2.2.1, (s.2.2.2.1, (s.2.2.2.2.1, (s.2.2.2.2.2.1, (s.2.2.2.2.2.2.1, (s.2.2.2.2.2.2.2.1, (s.2.2.2.2.2.2.2.2.1, (s.2.2.2.2.2.2.2.2.2.1, (s.2.2.2.2.2.2.2.2.2.2.1, (s.2.2.2.2.2.2.2.2.2.2.2.1, (s.2.2.2.2.2.2.2.2.2.2.2.2.1, (s.2.2.2.2.2.2.2.2.2.2.2.2.2.1, (s.2.2.2.2.2.2.2.2.2.2.2.2.2.2.1, (s.2.2.2.2.2.2.2.2.2.2.2.2.2.2.2.1, (s.2.2.2.2.2.2.2.2.2.2.2.2.2.2.2.2.1, (s.2.2.2.2.2.2.2.2.2.2.2.2.2.2.2.2.2.1, (s.2.2.2.2.2.2.2.2.2.2.2.2.2.2.2.2.2.2.1, (s.2.2.2.2.2.2.2.2.2.2.2.2.2.2.2.2.2.2.2.1, (s.2.2.2.2.2.2.2.2.2.2.2.2.2.2.2.2.2.2.2.2.1, (s.2.2.2.2.2.2.2.2.2.2.2.2.2.2.2.2.2.2.2.2.2.1, (s.2.2.2.2.2.2.2.2.2.2.2.2.2.2.2.2.2.2.2.2.2.2.1, (s.2.2.2.2.2.2.2.2.2.2.2.2.2.2.2.2.2.2.2.2.2.2.2.1, (s.2.2.2.2.2.2.2.2.2.2.2.2.2.2.2.2.2.2.2.2.2.2.2.2.1, (s.2.2.2.2.2.2.2.2.2.2.2.2.2.2.2.2.2.2.2.2.2.2.2.2.2.1, (s.2.2.2.2.2.2.2.2.2.2.2.2.2.2.2.2.2.2.2.2.2.2.2.2.2.2.1, (s.2.2.2.2.2.2.2.2.2.2.2.2.2.2.2.2.2.2.2.2.2.2.2.2.2.2.2.1, (bs [48, 48, 48, 48, 48, 48]))))))))))))))))))))))))))))))) else none)) else (some (.inl ((IntKind.wrap .i64 (s.1 + (1 : Int))), s.2)))) else (bif (s.1 == (1 : Int)) then (bif ((ByteArray.toList s.2.2.2.2.2.2.2.2.2.2.2.2.2.2.2.2.2.2.2.2.2.2.2.2.2.2.2.2) == []) then (bif (s.1 == (0 : Int)) then (some (.inl ((IntKind.wrap .i64 (s.1 + (1 : Int))), (s.2.1, (s.2.2.1, (s.2.2.2.1, (s.2.2.2.2.1, (s.2.2.2.2.2.1, (s.2.2.2.2.2.2.1, (s.2.2.2.2.2.2.2.1, (s.2.2.2.2.2.2.2.2.1, (s.2.2.2.2.2.2.2.2.2.1, (s.2.2.2.2.2.2.2.2.2.2.1, (s.2.2.2.2.2.2.2.2.2.2.2.1, (s.2.2.2.2.2.2.2.2.2.2.2.2.1, (s.2.2.2.2.2.2.2.2.2.2.2.2.2.1, (s.2.2.2.2.2.2.2.2.2.2.2.2.2.2.1, (s.2.2.2.2.2.2.2.2.2.2.2.2.2.2.2.1, (s.2.2.2.2.2.2.2.2.2.2.2.2.2.2.2.2.1, (s.2.2.2.2.2.2.2.2.2.2.2.2.2.2.2.2.2.1, (s.2.2.2.2.2.2.2.2.2.2.2.2.2.2.2.2.2.2.1, (s.2.2.2.2.2.2.2.2.2.2.2.2.2.2.2.2.2.2.2.1, (s.2.2.2.2.2.2.2.2.2.2.2.2.2.2.2.2.2.2.2.2.1, (s.2.2.2.2.2.2.2.2.2.2.2.2.2.2.2.2.2.2.2.2.2.1, (s.2.2.2.2.2.2.2.2.2.2.2.2.2.2.2.2.2.2.2.2.2.2.1, (s.2.2.2.2.2.2.2.2.2.2.2.2.2.2.2.2.2.2.2.2.2.2.2.1, (s.2.2.2.2.2.2.2.2.2.2.2.2.2.2.2.2.2.2.2.2.2.2.2.2.1, (s.2.2.2.2.2.2.2.2.2.2.2.2.2.2.2.2.2.2.2.2.2.2.2.2.2.1, (s.2.2.2.2.2.2.2.2.2.2.2.2.2.2.2.2.2.2.2.2.2.2.2.2.2.2.1, ((bs [48, 48, 48, 48, 48, 48]), s.2.2.2.2.2.2.2.2.2.2.2.2.2.2.2.2.2.2.2.2.2.2.2.2.2.2.2.2)))))))))))))))))))))))))))))) else (bif (s.1 == (1 : Int)) then (some (.inl ((IntKind.wrap .i64 (s.1 + (1 : Int))), (s.2.1, (s.2.2.1, (s.2.2.2.1, (s.2.2.2.2.1, (s.2.2.2.2.2.1, (s.2.2.2.2.2.2.1, (s.2.2.2.2.2.2.2.1, (s.2.2.2.2.2.2.2.2.1, (s.2.2.2.2.2.2.2.2.2.1, (s.2.2.2.2.2.2.2.2.2.2.1, (s.2.2.2.2.2.2.2.2.2.2.2.1, (s.2.2.2.2.2.2.2.2.2.2.2.2.1, (s.2.2.2.2.2.2.2.2.2.2.2.2.2.1, (s.2.2.2.2.2.2.2.2.2.2.2.2.2.2.1, (s.2.2.2.2.2.2.2.2.2.2.2.2.2.2.2.1, (s.2.2.2.2.2.2.2.2.2.2.2.2.2.2.2.2.1, (s.2.2.2.2.2.2.2.2.2.2.2.2.2.2.2.2.2.1, (s.2.2.2.2.2.2.2.2.2.2.2.2.2.2.2.2.2.2.1, (s.2.2.2.2.2.2.2.2.2.2.2.2.2.2.2.2.2.2.2.1, (s.2.2.2.2.2.2.2.2.2.2.2.2.2.2.2.2.2.2.2.2.1, (s.2.2.2.2.2.2.2.2.2.2.2.2.2.2.2.2.2.2.2.2.2.1, (s.2.2.2.2.2.2.2.2.2.2.2.2.2.2.2.2.2.2.2.2.2.2.1, (s.2.2.2.2.2.2.2.2.2.2.2.2.2.2.2.2.2.2.2.2.2.2.2.1, (s.2.2.2.2.2.2.2.2.2.2.2.2.2.2.2.2.2.2.2.2.2.2.2.2.1, (s.2.2.2.2.2.2.2.2.2.2.2.2.2.2.2.2.2.2.2.2.2.2.2.2.2.1, (s.2.2.2.2.2.2.2.2.2.2.2.2.2.2.2.2.2.2.2.2.2.2.2.2.2.2.1, (s.2.2.2.2.2.2.2.2.2.2.2.2.2.2.2.2.2.2.2.2.2.2.2.2.2.2.2.1, (bs [48, 48, 48, 48, 48, 48]))))))))))))))))))))))))))))))) else none)) else (some (.inl ((IntKind.wrap .i64 (s.1 + (1 : Int))), s.2)))) else none))) else (bif (s.1 == (1 : Int)) then (bif ((ByteArray.toList s.2.2.2.2.2.2.2.2.2.2.2.2.2.2.2.2.2.2.2.2.2.2.2.2.2.2.1) == []) then (bif (s.1 == (0 : Int)) then (bif (s.1 == (0 : Int)) then (bif ((ByteArray.toList s.2.2.2.2.2.2.2.2.2.2.2.2.2.2.2.2.2.2.2.2.2.2.2.2.2.2.2.1) == []) then (bif (s.1 == (0 : Int)) then (some (.inl ((IntKind.wrap .i64 (s.1 + (1 : Int))), (s.2.1, (s.2.2.1, (s.2.2.2.1, (s.2.2.2.2.1, (s.2.2.2.2.2.1, (s.2.2.2.2.2.2.1, (s.2.2.2.2.2.2.2.1, (s.2.2.2.2.2.2.2.2.1, (s.2.2.2.2.2.2.2.2.2.1, (s.2.2.2.2.2.2.2.2.2.2.1, (s.2.2.2.2.2.2.2.2.2.2.2.1, (s.2.2.2.2.2.2.2.2.2.2.2.2.1, (s.2.2.2.2.2.2.2.2.2.2.2.2.2.1, (s.2.2.2.2.2.2.2.2.2.2.2.2.2.2.1, (s.2.2.2.2.2.2.2.2.2.2.2.2.2.2.2.1, (s.2.2.2.2.2.2.2.2.2.2.2.2.2.2.2.2.1, (s.2.2.2.2.2.2.2.2.2.2.2.2.2.2.2.2.2.1, (s.2.2.2.2.2.2.2.2.2.2.2.2.2.2.2.2.2.2.1, (s.2.2.2.2.2.2.2.2.2.2.2.2.2.2.2.2.2.2.2.1, (s.2.2.2.2.2.2.2.2.2.2.2.2.2.2.2.2.2.2.2.2.1, (s.2.2.2.2.2.2.2.2.2.2.2.2.2.2.2.2.2.2.2.2.2.1, (s.2.2.2.2.2.2.2.2.2.2.2.2.2.2.2.2.2.2.2.2.2.2.1, (s.2.2.2.2.2.2.2.2.2.2.2.2.2.2.2.2.2.2.2.2.2.2.2.1, (s.2.2.2.2.2.2.2.2.2.2.2.2.2.2.2.2.2.2.2.2.2.2.2.2.1, ((bs [48, 48, 48, 48, 48, 48, 48, 48, 48, 48, 48, 48]), (s.2.2.2.2.2.2.2.2.2.2.2.2.2.2.2.2.2.2.2.2.2.2.2.2.2.2.1, ((bs [48, 48, 48, 48, 48, 48]), s.2.2.2.2.2.2.2.2.2.2.2.2.2.2.2.2.2.2.2.2.2.2.2.2.2.2.2.2)))))))))))))))))))))))))))))) else (bif (s.1 == (1 : Int)) then (some (.inl ((IntKind.wrap .i64 (s.1 + (1 : Int))), (s.2.1, (s.2.2.1, (s.2.2.2.1, (s.2.2.2.2.1, (s.2.2.2.2.2.1, (s.2.2.2.2.2.2.1, (s.2.2.2.2.2.2.2.1, (s.2.2.2.2.2.2.2.2.1, (s.2.2.2.2.2.2.2.2.2.1, (s.2.2.2.2.2.2.2.2.2.2.1, (s.2.2.2.2.2.2.2.2.2.2.2.1, (s.2.2.2.2.2.2.2.2.2.2.2.2.1, (s.2.2.2.2.2.2.2.2.2.2.2.2.2.1, (s.2.2.2.2.2.2.2.2.2.2.2.2.2.2.1, (s.2.2.2.2.2.2.2.2.2.2.2.2.2.2.2.1, (s.2.2.2.2.2.2.2.2.2.2.2.2.2.2.2.2.1, (s.2.2.2.2.2.2.2.2.2.2.2.2.2.2.2.2.2.1, (s.2.2.2.2.2.2.2.2.2.2.2.2.2.2.2.2.2.2.1, (s.2.2.2.2.2.2.2.2.2.2.2.2.2.2.2.2.2.2.2.1, (s.2.2.2.2.2.2.2.2.2.2.2.2.2.2.2.2.2.2.2.2.1, (s.2.2.2.2.2.2.2.2.2.2.2.2.2.2.2.2.2.2.2.2.2.1, (s.2.2.2.2.2.2.2.2.2.2.2.2.2.2.2.2.2.2.2.2.2.2.1, (s.2.2.2.2.2.2.2.2.2.2.2.2.2.2.2.2.2.2.2.2.2.2.2.1, (s.2.2.2.2.2.2.2.2.2.2.2.2.2.2.2.2.2.2.2.2.2.2.2.2.1, ((bs [48, 48, 48, 48, 48, 48, 48, 48, 48, 48, 48, 48]), (s.2.2.2.2.2.2.2.2.2.2.2.2.2.2.2.2.2.2.2.2.2.2.2.2.2.2.1, (s.2.2.2.2.2.2.2.2.2.2.2.2.2.2.2.2.2.2.2.2.2.2.2.2.2.2.2.1, (bs [48, 48, 48, 48, 48, 48]))))))))))))))))))))))))))))))) else none)) else (some (.inl ((IntKind.wrap .i64 (s.1 + (1 : Int))), (s.2.1, (s.2.2.1, (s.2.2.2.1, (s.2.2.2.2.1, (s.2.2.2.2.2.1, (s.2.2.2.2.2.2.1, (s.2.2.2.2.2.2.2.1, (s.2.2.2.2.2.2.2.2.1, (s.2.2.2.2.2.2.2.2.2.1, (s.2.2.2.2.2.2.2.2.2.2.1, (s.2.2.2.2.2.2.2.2.2.2.2.1, (s.2.2.2.2.2.2.2.2.2.2.2.2.1, (s.2.2.2.2.2.2.2.2.2.2.2.2.2.1, (s.2.2.2.2.2.2.2.2.2.2.2.2.2.2.1, (s.2.2.2.2.2.2.2.2.2.2.2.2.2.2.2.1, (s.2.2.2.2.2.2.2.2.2.2.2.2.2.2.2.2.1, (s.2.2.2.2.2.2.2.2.2.2.2.2.2.2.2.2.2.1, (s.2.2.2.2.2.2.2.2.2.2.2.2.2.2.2.2.2.2.1, (s.2.2.2.2.2.2.2.2.2.2.2.2.2.2.2.2.2.2.2.1, (s.2.2.2.2.2.2.2.2.2.2.2.2.2.2.2.2.2.2.2.2.1, (s.2.2.2.2.2.2.2.2.2.2.2.2.2.2.2.2.2.2.2.2.2.1, (s.2.2.2.2.2.2.2.2.2.2.2.2.2.2.2.2.2.2.2.2.2.2.1, (s.2.2.2.2.2.2.2.2.2.2.2.2.2.2.2.2.2.2.2.2.2.2.2.1, (s.2.2.2.2.2.2.2.2.2.2.2.2.2.2.2.2.2.2.2.2.2.2.2.2.1, ((bs [48, 48, 48, 48, 48, 48, 48, 48, 48, 48, 48, 48]), s.2.2.2.2.2.2.2.2.2.2.2.2.2.2.2.2.2.2.2.2.2.2.2.2.2.2))))))))))))))))))))))))))))) else (bif (s.1 == (1 : Int)) then (bif ((ByteArray.toList s.2.2.2.2.2.2.2.2.2.2.2.2.2.2.2.2.2.2.2.2.2.2.2.2.2.2.2.2) == []) then (bif (s.1 == (0 : Int)) then (some (.inl ((IntKind.wrap .i64 (s.1 + (1 : Int))), (s.2.1, (s.2.2.1, (s.2.2.2.1, (s.2.2.2.2.1, (s.2.2.2.2.2.1, (s.2.2.2.2.2.2.1, (s.2.2.2.2.2.2.2.1, (s.2.2.2.2.2.2.2.2.1, (s.2.2.2.2.2.2.2.2.2.1, (s.2.2.2.2.2.2.2.2.2.2.1, (s.2.2.2.2.2.2.2.2.2.2.2.1, (s.2.2.2.2.2.2.2.2.2.2.2.2.1, (s.2.2.2.2.2.2.2.2.2.2.2.2.2.1, (s.2.2.2.2.2.2.2.2.2.2.2.2.2.2.1, (s.2.2.2.2.2.2.2.2.2.2.2.2.2.2.2.1, (s.2.2.2.2.2.2.2.2.2.2.2.2.2.2.2.2.1, (s.2.2.2.2.2.2.2.2.2.2.2.2.2.2.2.2.2.1, (s.2.2.2.2.2.2.2.2.2.2.2.2.2.2.2.2.2.2.1, (s.2.2.2.2.2.2.2.2.2.2.2.2.2.2.2.2.2.2.2.1, (s.2.2.2.2.2.2.2.2.2.2.2.2.2.2.2.2.2.2.2.2.1, (s.2.2.2.2.2.2.2.2.2.2.2.2.2.2.2.2.2.2.2.2.2.1, (s.2.2.2.2.2.2.2.2.2.2.2.2.2.2.2.2.2.2.2.2.2.2.1, (s.2.2.2.2.2.2.2.2.2.2.2.2.2.2.2.2.2.2.2.2.2.2.2.1, (s.2.2.2.2.2.2.2.2.2.2.2.2.2.2.2.2.2.2.2.2.2.2.2.2.1, ((bs [48, 48, 48, 48, 48, 48, 48, 48, 48, 48, 48, 48]), (s.2.2.2.2.2.2.2.2.2.2.2.2.2.2.2.2.2.2.2.2.2.2.2.2.2.2.1, ((bs [48, 48, 48, 48, 48, 48]), s.2.2.2.2.2.2.2.2.2.2.2.2.2.2.2.2.2.2.2.2.2.2.2.2.2.2.2.2)))))))))))))))))))))))))))))) else (bif (s.1 == (1 : Int)) then (some (.inl ((IntKind.wrap .i64 (s.1 + (1 : Int))), (s.2.1, (s.2.2.1, (s.2.2.2.1, (s.2.2.2.2.1, (s.2.2.2.2.2.1, (s.2.2.2.2.2.2.1, (s.2.2.2.2.2.2.2.1, (s.2.2.2.2.2.2.2.2.1, (s.2.2.2.2.2.2.2.2.2.1, (s.2.2.2.2.2.2.2.2.2.2.1, (s.2.2.2.2.2.2.2.2.2.2.2.1, (s.2.2.2.2.2.2.2.2.2.2.2.2.1, (s.2.2.2.2.2.2.2.2.2.2.2.2.2.1, (s.2.2.2.2.2.2.2.2.2.2.2.2.2.2.1, (s.2.2.2.2.2.2.2.2.2.2.2.2.2.2.2.1, (s.2.2.2.2.2.2.2.2.2.2.2.2.2.2.2.2.1, (s.2.2.2.2.2.2.2.2.2.2.2.2.2.2.2.2.2.1, (s.2.2.2.2.2.2.2.2.2.2.2.2.2.2.2.2.2.2.1, (s.2.2.2.2.2.2.2.2.2.2.2.2.2.2.2.2.2.2.2.1, (s.2.2.2.2.2.2.2.2.2.2.2.2.2.2.2.2.2.2.2.2.1, (s.2.2.2.2.2.2.2.2.2.2.2.2.2.2.2.2.2.2.2.2.2.1, (s.2.2.2.2.2.2.2.2.2.2.2.2.2.2.2.2.2.2.2.2.2.2.1, (s.2.2.2.2.2.2.2.2.2.2.2.2.2.2.2.2.2.2.2.2.2.2.2.1, (s.2.2.2.2.2.2.2.2.2.2.2.2.2.2.2.2.2.2.2.2.2.2.2.2.1, ((bs [48, 48, 48, 48, 48, 48, 48, 48, 48, 48, 48, 48]), (s.2.2.2.2.2.2.2.2.2.2.2.2.2.2.2.2.2.2.2.2.2.2.2.2.2.2.1, (s.2.2.2.2.2.2.2.2.2.2.2.2.2.2.2.2.2.2.2.2.2.2.2.2.2.2.2.1, (bs [48, 48, 48, 48, 48, 48]))))))))))))))))))))))))))))))) else none)) else (some (.inl ((IntKind.wrap .i64 (s.1 + (1 : Int))), (s.2.1, (s.2.2.1, (s.2.2.2.1, (s.2.2.2.2.1, (s.2.2.2.2.2.1, (s.2.2.2.2.2.2.1, (s.2.2.2.2.2.2.2.1, (s.2.2.2.2.2.2.2.2.1, (s.2.2.2.2.2.2.2.2.2.1, (s.2.2.2.2.2.2.2.2.2.2.1, (s.2.2.2.2.2.2.2.2.2.2.2.1, (s.2.2.2.2.2.2.2.2.2.2.2.2.1, (s.2.2.2.2.2.2.2.2.2.2.2.2.2.1, (s.2.2.2.2.2.2.2.2.2.2.2.2.2.2.1, (s.2.2.2.2.2.2.2.2.2.2.2.2.2.2.2.1, (s.2.2.2.2.2.2.2.2.2.2.2.2.2.2.2.2.1, (s.2.2.2.2.2.2.2.2.2.2.2.2.2.2.2.2.2.1, (s.2.2.2.2.2.2.2.2.2.2.2.2.2.2.2.2.2.2.1, (s.2.2.2.2.2.2.2.2.2.2.2.2.2.2.2.2.2.2.2.1, (s.2.2.2.2.2.2.2.2.2.2.2.2.2.2.2.2.2.2.2.2.1, (s.2.2.2.2.2.2.2.2.2.2.2.2.2.2.2.2.2.2.2.2.2.1, (s.2.2.2.2.2.2.2.2.2.2.2.2.2.2.2.2.2.2.2.2.2.2.1, (s.2.2.2.2.2.2.2.2.2.2.2.2.2.2.2.2.2.2.2.2.2.2.2.1, (s.2.2.2.2.2.2.2.2.2.2.2.2.2.2.2.2.2.2.2.2.2.2.2.2.1, ((bs [48, 48, 48, 48, 48, 48, 48, 48, 48, 48, 48, 48]), s.2.2.2.2.2.2.2.2.2.2.2.2.2.2.2.2.2.2.2.2.2.2.2.2.2.2))))))))))))))))))))))))))))) else none)) else (bif (s.1 == (1 : Int)) then (bif (s.1 == (0 : Int)) then (bif ((ByteArray.toList s.2.2.2.2.2.2.2.2.2.2.2.2.2.2.2.2.2.2.2.2.2.2.2.2.2.2.2.1) == []) then (bif (s.1 == (0 : Int)) then (some (.inl ((IntKind.wrap .i64 (s.1 + (1 : Int))), (s.2.1, (s.2.2.1, (s.2.2.2.1, (s.2.2.2.2.1, (s.2.2.2.2.2.1, (s.2.2.2.2.2.2.1, (s.2.2.2.2.2.2.2.1, (s.2.2.2.2.2.2.2.2.1, (s.2.2.2.2.2.2.2.2.2.1, (s.2.2.2.2.2.2.2.2.2.2.1, (s.2.2.2.2.2.2.2.2.2.2.2.1, (s.2.2.2.2.2.2.2.2.2.2.2.2.1, (s.2.2.2.2.2.2.2.2.2.2.2.2.2.1, (s.2.2.2.2.2.2.2.2.2.2.2.2.2.2.1, (s.2.2.2.2.2.2.2.2.2.2.2.2.2.2.2.1, (s.2.2.2.2.2.2.2.2.2.2.2.2.2.2.2.2.1, (s.2.2.2.2.2.2.2.2.2.2.2.2.2.2.2.2.2.1, (s.2.2.2.2.2.2.2.2.2.2.2.2.2.2.2.2.2.2.1, (s.2.2.2.2.2.2.2.2.2.2.2.2.2.2.2.2.2.2.2.1, (s.2.2.2.2.2.2.2.2.2.2.2.2.2.2.2.2.2.2.2.2.1, (s.2.2.2.2.2.2.2.2.2.2.2.2.2.2.2.2.2.2.2.2.2.1, (s.2.2.2.2.2.2.2.2.2.2.2.2.2.2.2.2.2.2.2.2.2.2.1, (s.2.2.2.2.2.2.2.2.2.2.2.2.2.2.2.2.2.2.2.2.2.2.2.1, (s.2.2.2.2.2.2.2.2.2.2.2.2.2.2.2.2.2.2.2.2.2.2.2.2.1, (s.2.2.2.2.2.2.2.2.2.2.2.2.2.2.2.2.2.2.2.2.2.2.2.2.2.1, ((bs [48, 48, 48, 48, 48, 48, 48, 48, 48, 48, 48, 48]), ((bs [48, 48, 48, 48, 48, 48]), s.2.2.2.2.2.2.2.2.2.2.2.2.2.2.2.2.2.2.2.2.2.2.2.2.2.2.2.2)))))))))))))))))))))))))))))) else (bif (s.1 == (1 : Int)) then (some (.inl ((IntKind.wrap .i64 (s.1 + (1 : Int))), (s.2.1, (s.2.2.1, (s.2.2.2.1, (s.2.2.2.2.1, (s.2.2.2.2.2.1, (s.2.2.2.2.2.2.1, (s.2.2.2.2.2.2.2.1, (s.2.2.2.2.2.2.2.2.1, (s.2.2.2.2.2.2.2.2.2.1, (s.2.2.2.2.2.2.2.2.2.2.1, (s.2.2.2.2.2.2.2.2.2.2.2.1, (s.2.2.2.2.2.2.2.2.2.2.2.2.1, (s.2.2.2.2.2.2.2.2.2.2.2.2.2.1, (s.2.2.2.2.2.2.2.2.2.2.2.2.2.2.1, (s.2.2.2.2.2.2.2.2.2.2.2.2.2.2.2.1, (s.2.2.2.2.2.2.2.2.2.2.2.2.2.2.2.2.1, (s.2.2.2.2.2.2.2.2.2.2.2.2.2.2.2.2.2.1, (s.2.2.2.2.2.2.2.2.2.2.2.2.2.2.2.2.2.2.1, (s.2.2.2.2.2.2.2.2.2.2.2.2.2.2.2.2.2.2.2.1, (s.2.2.2.2.2.2.2.2.2.2.2.2.2.2.2.2.2.2.2.2.1, (s.2.2.2.2.2.2.2.2.2.2.2.2.2.2.2.2.2.2.2.2.2.1, (s.2.2.2.2.2.2.2.2.2.2.2.2.2.2.2.2.2.2.2.2.2.2.1, (s.2.2.2.2.2.2.2.2.2.2.2.2.2.2.2.2.2.2.2.2.2.2.2.1, (s.2.2.2.2.2.2.2.2.2.2.2.2.2.2.2.2.2.2.2.2.2.2.2.2.1, (s.2.2.2.2.2.2.2.2.2.2.2.2.2.2.2.2.2.2.2.2.2.2.2.2.2.1, ((bs [48, 48, 48, 48, 48, 48, 48, 48, 48, 48, 48, 48]), (s.2.2.2.2.2.2.2.2.2.2.2.2.2.2.2.2.2.2.2.2.2.2.2.2.2.2.2.1, (bs [48, 48, 48, 48, 48, 48]))))))))))))))))))))))))))))))) else none)) else (some (.inl ((IntKind.wrap .i64 (s.1 + (1 : Int))), (s.2.1, (s.2.2.1, (s.2.2.2.1, (s.2.2.2.2.1, (s.2.2.2.2.2.1, (s.2.2.2.2.2.2.1, (s.2.2.2.2.2.2.2.1, (s.2.2.2.2.2.2.2.2.1, (s.2.2.2.2.2.2.2.2.2.1, (s.2.2.2.2.2.2.2.2.2.2.1, (s.2.2.2.2.2.2.2.2.2.2.2.1, (s.2.2.2.2.2.2.2.2.2.2.2.2.1, (s.2.2.2.2.2.2.2.2.2.2.2.2.2.1, (s.2.2.2.2.2.2.2.2.2.2.2.2.2.2.1, (s.2.2.2.2.2.2.2.2.2.2.2.2.2.2.2.1, (s.2.2.2.2.2.2.2.2.2.2.2.2.2.2.2.2.1, (s.2.2.2.2.2.2.2.2.2.2.2.2.2.2.2.2.2.1, (s.2.2.2.2.2.2.2.2.2.2.2.2.2.2.2.2.2.2.1, (s.2.2.2.2.2.2.2.2.2.2.2.2.2.2.2.2.2.2.2.1, (s.2.2.2.2.2.2.2.2.2.2.2.2.2.2.2.2.2.2.2.2.1, (s.2.2.2.2.2.2.2.2.2.2.2.2.2.2.2.2.2.2.2.2.2.1, (s.2.2.2.2.2.2.2.2.2.2.2.2.2.2.2.2.2.2.2.2.2.2.1, (s.2.2.2.2.2.2.2.2.2.2.2.2.2.2.2.2.2.2.2.2.2.2.2.1, (s.2.2.2.2.2.2.2.2.2.2.2.2.2.2.2.2.2.2.2.2.2.2.2.2.1, (s.2.2.2.2.2.2.2.2.2.2.2.2.2.2.2.2.2.2.2.2.2.2.2.2.2.1, ((bs [48, 48, 48, 48, 48, 48, 48, 48, 48, 48, 48, 48]), s.2.2.2.2.2.2.2.2.2.2.2.2.2.2.2.2.2.2.2.2.2.2.2.2.2.2.2)))))))))))))))))))))))))))))) else (bif (s.1 == (1 : Int)) then (bif ((ByteArray.toList s.2.2.2.2.2.2.2.2.2.2.2.2.2.2.2.2.2.2.2.2.2.2.2.2.2.2.2.2) == []) then (bif (s.1 == (0 : Int)) then (some (.inl ((IntKind.wrap .i64 (s.1 + (1 : Int))), (s.2.1, (s.2.2.1, (s.2.2.2.1, (s.2.2.2.2.1, (s.2.2.2.2.2.1, (s.2.2.2.2.2.2.1, (s.2.2.2.2.2.2.2.1, (s.2.2.2.2.2.2.2.2.1, (s.2.2.2.2.2.2.2.2.2.1, (s.2.2.2.2.2.2.2.2.2.2.1, (s.2.2.2.2.2.2.2.2.2.2.2.1, (s.2.2.2.2.2.2.2.2.2.2.2.2.1, (s.2.2.2.2.2.2.2.2.2.2.2.2.2.1, (s.2.2.2.2.2.2.2.2.2.2.2.2.2.2.1, (s.2.2.2.2.2.2.2.2.2.2.2.2.2.2.2.1, (s.2.2.2.2.2.2.2.2.2.2.2.2.2.2.2.2.1, (s.2.2.2.2.2.2.2.2.2.2.2.2.2.2.2.2.2.1, (s.2.2.2.2.2.2.2.2.2.2.2.2.2.2.2.2.2.2.1, (s.2.2.2.2.2.2.2.2.2.2.2.2.2.2.2.2.2.2.2.1, (s.2.2.2.2.2.2.2.2.2.2.2.2.2.2.2.2.2.2.2.2.1, (s.2.2.2.2.2.2.2.2.2.2.2.2.2.2.2.2.2.2.2.2.2.1, (s.2.2.2.2.2.2.2.2.2.2.2.2.2.2.2.2.2.2.2.2.2.2.1, (s.2.2.2.2.2.2.2.2.2.2.2.2.2.2.2.2.2.2.2.2.2.2.2.1, (s.2.2.2.2.2.2.2.2.2.2.2.2.2.2.2.2.2.2.2.2.2.2.2.2.1, (s.2.2.2.2.2.2.2.2.2.2.2.2.2.2.2.2.2.2.2.2.2.2.2.2.2.1, ((bs [48, 48, 48, 48, 48, 48, 48, 48, 48, 48, 48, 48]), ((bs [48, 48, 48, 48, 48, 48]), s.2.2.2.2.2.2.2.2.2.2.2.2.2.2.2.2.2.2.2.2.2.2.2.2.2.2.2.2)))))))))))))))))))))))))))))) else (bif (s.1 == (1 : Int)) then (some (.inl ((IntKind.wrap .i64 (s.1 + (1 : Int))), (s.2.1, (s.2.2.1, (s.2.2.2.1, (s.2.2.2.2.1, (s.2.2.2.2.2.1, (s.2.2.2.2.2.2.1, (s.2.2.2.2.2.2.2.1, (s.2.2.2.2.2.2.2.2.1, (s.2.2.2.2.2.2.2.2.2.1, (s.2.2.2.2.2.2.2.2.2.2.1, (s.2.2.2.2.2.2.2.2.2.2.2.1, (s.2.2.2.2.2.2.2.2.2.2.2.2.1, (s.2.2.2.2.2.2.2.2.2.2.2.2.2.1, (s.2.2.2.2.2.2.2.2.2.2.2.2.2.2.1, (s.2.2.2.2.2.2.2.2.2.2.2.2.2.2.2.1, (s.2.2.2.2.2.2.2.2.2.2.2.2.2.2.2.2.1, (s.2.2.2.2.2.2.2.2.2.2.2.2.2.2.2.2.2.1, (s.2.2.2.2.2.2.2.2.2.2.2.2.2.2.2.2.2.2.1, (s.2.2.2.2.2.2.2.2.2.2.2.2.2.2.2.2.2.2.2.1, (s.2.2.2.2.2.2.2.2.2.2.2.2.2.2.2.2.2.2.2.2.1, (s.2.2.2.2.2.2.2.2.2.2.2.2.2.2.2.2.2.2.2.2.2.1, (s.2.2.2.2.2.2.2.2.2.2.2.2.2.2.2.2.2.2.2.2.2.2.1, (s.2.2.2.2.2.2.2.2.2.2.2.2.2.2.2.2.2.2.2.2.2.2.2.1, (s.2.2.2.2.2.2.2.2.2.2.2.2.2.2.2.2.2.2.2.2.2.2.2.2.1, (s.2.2.2.2.2.2.2.2.2.2.2.2.2.2.2.2.2.2.2.2.2.2.2.2.2.1, ((bs [48, 48, 48, 48, 48, 48, 48, 48, 48, 48, 48, 48]), (s.2.2.2.2.2.2.2.2.2.2.2.2.2.2.2.2.2.2.2.2.2.2.2.2.2.2.2.1, (bs [48, 48, 48, 48, 48, 48]))))))))))))))))))))))))))))))) else none)) else (some (.inl ((IntKind.wrap .i64 (s.1 + (1 : Int))), (s.2.1, (s.2.2.1, (s.2.2.2.1, (s.2.2.2.2.1, (s.2.2.2.2.2.1, (s.2.2.2.2.2.2.1, (s.2.2.2.2.2.2.2.1, (s.2.2.2.2.2.2.2.2.1, (s.2.2.2.2.2.2.2.2.2.1, (s.2.2.2.2.2.2.2.2.2.2.1, (s.2.2.2.2.2.2.2.2.2.2.2.1, (s.2.2.2.2.2.2.2.2.2.2.2.2.1, (s.2.2.2.2.2.2.2.2.2.2.2.2.2.1, (s.2.2.2.2.2.2.2.2.2.2.2.2.2.2.1, (s.2.2.2.2.2.2.2.2.2.2.2.2.2.2.2.1, (s.2.2.2.2.2.2.2.2.2.2.2.2.2.2.2.2.1, (s.2.2.2.2.2.2.2.2.2.2.2.2.2.2.2.2.2.1, (s.2.2.2.2.2.2.2.2.2.2.2.2.2.2.2.2.2.2.1, (s.2.2.2.2.2.2.2.2.2.2.2.2.2.2.2.2.2.2.2.1, (s.2.2.2.2.2.2.2.2.2.2.2.2.2.2.2.2.2.2.2.2.1, (s.2.2.2.2.2.2.2.2.2.2.2.2.2.2.2.2.2.2.2.2.2.1, (s.2.2.2.2.2.2.2.2.2.2.2.2.2.2.2.2.2.2.2.2.2.2.1, (s.2.2.2.2.2.2.2.2.2.2.2.2.2.2.2.2.2.2.2.2.2.2.2.1, (s.2.2.2.2.2.2.2.2.2.2.2.2.2.2.2.2.2.2.2.2.2.2.2.2.1, (s.2.2.2.2.2.2.2.2.2.2.2.2.2.2.2.2.2.2.2.2.2.2.2.2.2.1, ((bs [48, 48, 48, 48, 48, 48, 48, 48, 48, 48, 48, 48]), s.2.2.2.2.2.2.2.2.2.2.2.2.2.2.2.2.2.2.2.2.2.2.2.2.2.2.2)))))))))))))))))))))))))))))) else none)) else none)) else (bif (s.1 == (0 : Int)) then (bif ((ByteArray.toList s.2.2.2.2.2.2.2.2.2.2.2.2.2.2.2.2.2.2.2.2.2.2.2.2.2.2.2.1) == []) then (bif (s.1 == (0 : Int)) then (some (.inl ((IntKind.wrap .i64 (s.1 + (1 : Int))), (s.2.1, (s.2.2.1, (s.2.2.2.1, (s.2.2.2.2.1, (s.2.2.2.2.2.1, (s.2.2.2.2.2.2.1, (s.2.2.2.2.2.2.2.1, (s.2.2.2.2.2.2.2.2.1, (s.2.2.2.2.2.2.2.2.2.1, (s.2.2.2.2.2.2.2.2.2.2.1, (s.2.2.2.2.2.2.2.2.2.2.2.1, (s.2.2.2.2.2.2.2.2.2.2.2.2.1, (s.2.2.2.2.2.2.2.2.2.2.2.2.2.1, (s.2.2.2.2.2.2.2.2.2.2.2.2.2.2.1, (s.2.2.2.2.2.2.2.2.2.2.2.2.2.2.2.1, (s.2.2.2.2.2.2.2.2.2.2.2.2.2.2.2.2.1, (s.2.2.2.2.2.2.2.2.2.2.2.2.2.2.2.2.2.1, (s.2.2.2.2.2.2.2.2.2.2.2.2.2.2.2.2.2.2.1, (s.2.2.2.2.2.2.2.2.2.2.2.2.2.2.2.2.2.2.2.1, (s.2.2.2.2.2.2.2.2.2.2.2.2.2.2.2.2.2.2.2.2.1, (s.2.2.2.2.2.2.2.2.2.2.2.2.2.2.2.2.2.2.2.2.2.1, (s.2.2.2.2.2.2.2.2.2.2.2.2.2.2.2.2.2.2.2.2.2.2.1, (s.2.2.2.2.2.2.2.2.2.2.2.2.2.2.2.2.2.2.2.2.2.2.2.1, (s.2.2.2.2.2.2.2.2.2.2.2.2.2.2.2.2.2.2.2.2.2.2.2.2.1, (s.2.2.2.2.2.2.2.2.2.2.2.2.2.2.2.2.2.2.2.2.2.2.2.2.2.1, (s.2.2.2.2.2.2.2.2.2.2.2.2.2.2.2.2.2.2.2.2.2.2.2.2.2.2.1, ((bs [48, 48, 48, 48, 48, 48]), s.2.2.2.2.2.2.2.2.2.2.2.2.2.2.2.2.2.2.2.2.2.2.2.2.2.2.2.2)))))))))))))))))))))))))))))) else (bif (s.1 == (1 : Int)) then (some (.inl ((IntKind.wrap .i64 (s.1 + (1 : Int))), (s.2.1, (s.2.2.1, (s.2.2.2.1, (s.2.2.2.2.1, (s.2.2.2.2.2.1, (s.2.2.2.2.2.2.1, (s.2.2.2.2.2.2.2.1, (s.2.2.2.2.2.2.2.2.1, (s.2.2.2.2.2.2.2.2.2.1, (s.2.2.2.2.2.2.2.2.2.2.1, (s.2.2.2.2.2.2.2.2.2.2.2.1, (s.2.2.2.2.2.2.2.2.2.2.2.2.1, (s.2.2.2.2.2.2.2.2.2.2.2.2.2.1, (s.2.2.2.2.2.2.2.2.2.2.2.2.2.2.1, (s.2.2.2.2.2.2.2.2.2.2.2.2.2.2.2.1, (s.2.2.2.2.2.2.2.2.2.2.2.2.2.2.2.2.1, (s.2.2.2.2.2.2.2.2.2.2.2.2.2.2.2.2.2.1, (s.2.2.2.2.2.2.2.2.2.2.2.2.2.2.2.2.2.2.1, (s.2.2.2.2.2.2.2.2.2.2.2.2.2.2.2.2.2.2.2.1, (s.2.2.2.2.2.2.2.2.2.2.2.2.2.2.2.2.2.2.2.2.1, (s.2.2.2.2.2.2.2.2.2.2.2.2.2.2.2.2.2.2.2.2.2.1, (s.2.2.2.2.2.2.2.2.2.2.2.2.2.2.2.2.2.2.2.2.2.2.1, (s.2.2.2.2.2.2.2.2.2.2.2.2.2.2.2.2.2.2.2.2.2.2.2.1, (s.2.2.2.2.2.2.2.2.2.2.2.2.2.2.2.2.2.2.2.2.2.2.2.2.1, (s.2.2.2.2.2.2.2.2.2.2.2.2.2.2.2.2.2.2.2.2.2.2.2.2.2.1, (s.2.2.2.2.2.2.2.2.2.2.2.2.2.2.2.2.2.2.2.2.2.2.2.2.2.2.1, (s.2.2.2.2.2.2.2.2.2.2.2.2.2.2.2.2.2.2.2.2.2.2.2.2.2.2.2.1, (bs [48, 48, 48, 48, 48, 48]))))))))))))))))))))))))))))))) else none)) else (some (.inl ((IntKind.wrap .i64 (s.1 + (1 : Int))), s.2)))) else (bif (s.1 == (1 : Int)) then (bif ((ByteArray.toList s.2.2.2.2.2.2.2.2.2.2.2.2.2.2.2.2.2.2.2.2.2.2.2.2.2.2.2.2) == []) then (bif (s.1 == (0 : Int)) then (some (.inl ((IntKind.wrap .i64 (s.1 + (1 : Int))), (s.2.1, (s.2.2.1, (s.2.2.2.1, (s.2.2.2.2.1, (s.2.2.2.2.2.1, (s.2.2.2.2.2.2.1, (s.2.2.2.2.2.2.2.1, (s.2.2.2.2.2.2.2.2.1, (s.2.2.2.2.2.2.2.2.2.1, (s.2.2.2.2.2.2.2.2.2.2.1, (s.2.2.2.2.2.2.2.2.2.2.2.1, (s.2.2.2.2.2.2.2.2.2.2.2.2.1, (s.2.2.2.2.2.2.2.2.2.2.2.2.2.1, (s.2.2.2.2.2.2.2.2.2.2.2.2.2.2.1, (s.2.2.2.2.2.2.2.2.2.2.2.2.2.2.2.1, (s.2.2.2.2.2.2.2.2.2.2.2.2.2.2.2.2.1, (s.2.2.2.2.2.2.2.2.2.2.2.2.2.2.2.2.2.1, (s.2.2.2.2.2.2.2.2.2.2.2.2.2.2.2.2.2.2.1, (s.2.2.2.2.2.2.2.2.2.2.2.2.2.2.2.2.2.2.2.1, (s.2.2.2.2.2.2.2.2.2.2.2.2.2.2.2.2.2.2.2.2.1, (s.2.2.2.2.2.2.2.2.2.2.2.2.2.2.2.2.2.2.2.2.2.1, (s.2.2.2.2.2.2.2.2.2.2.2.2.2.2.2.2.2.2.2.2.2.2.1, (s.2.2.2.2.2.2.2.2.2.2.2.2.2.2.2.2.2.2.2.2.2.2.2.1, (s.2.2.2.2.2.2.2.2.2.2.2.2.2.2.2.2.2.2.2.2.2.2.2.2.1, (s.2.2.2.2.2.2.2.2.2.2.2.2.2.2.2.2.2.2.2.2.2.2.2.2.2.1, (s.2.2.2.2.2.2.2.2.2.2.2.2.2.2.2.2.2.2.2.2.2.2.2.2.2.2.1, ((bs [48, 48, 48, 48, 48, 48]), s.2.2.2.2.2.2.2.2.2.2.2.2.2.2.2.2.2.2.2.2.2.2.2.2.2.2.2.2)))))))))))))))))))))))))))))) else (bif (s.1 == (1 : Int)) then (some (.inl ((IntKind.wrap .i64 (s.1 + (1 : Int))), (s.2.1, (s.2.2.1, (s.2.2.2.1, (s.2.2.2.2.1, (s.2.2.2.2.2.1, (s.2.2.2.2.2.2.1, (s.2.2.2.2.2.2.2.1, (s.2.2.2.2.2.2.2.2.1, (s.2.2.2.2.2.2.2.2.2.1, (s.2.2.2.2.2.2.2.2.2.2.1, (s.2.2.2.2.2.2.2.2.2.2.2.1, (s.2.2.2.2.2.2.2.2.2.2.2.2.1, (s.2.2.2.2.2.2.2.2.2.2.2.2.2.1, (s.2.2.2.2.2.2.2.2.2.2.2.2.2.2.1, (s.2.2.2.2.2.2.2.2.2.2.2.2.2.2.2.1, (s.2.2.2.2.2.2.2.2.2.2.2.2.2.2.2.2.1, (s.2.2.2.2.2.2.2.2.2.2.2.2.2.2.2.2.2.1, (s.2.2.2.2.2.2.2.2.2.2.2.2.2.2.2.2.2.2.1, (s.2.2.2.2.2.2.2.2.2.2.2.2.2.2.2.2.2.2.2.1, (s.2.2.2.2.2.2.2.2.2.2.2.2.2.2.2.2.2.2.2.2.1, (s.2.2.2.2.2.2.2.2.2.2.2.2.2.2.2.2.2.2.2.2.2.1, (s.2.2.2.2.2.2.2.2.2.2.2.2.2.2.2.2.2.2.2.2.2.2.1, (s.2.2.2.2.2.2.2.2.2.2.2.2.2.2.2.2.2.2.2.2.2.2.2.1, (s.2.2.2.2.2.2.2.2.2.2.2.2.2.2.2.2.2.2.2.2.2.2.2.2.1, (s.2.2.2.2.2.2.2.2.2.2.2.2.2.2.2.2.2.2.2.2.2.2.2.2.2.1, (s.2.2.2.2.2.2.2.2.2.2.2.2.2.2.2.2.2.2.2.2.2.2.2.2.2.2.1, (s.2.2.2.2.2.2.2.2.2.2.2.2.2.2.2.2.2.2.2.2.2.2.2.2.2.2.2.1, (bs [48, 48, 48, 48, 48, 48]))))))))))))))))))))))))))))))) else none)) else (some (.inl ((IntKind.wrap .i64 (s.1 + (1 : Int))), s.2)))) else none))) else none)) else (some (.inr s.2)))
theorem bursarlaw20_TradeKeys.t10_ok : ∀ s : Vals bursarlaw20_TradeKeys.sh10.tys, turnK P bursarlaw20_TradeKeys.H (lp []) (bodyAt (codeOf P 4) 10) 0 bursarlaw20_TradeKeys.sh10 bursarlaw20_TradeKeys.os10 s some = bursarlaw20_TradeKeys.t10 s := fun s => by kernel_rfl
noncomputable def bursarlaw20_TradeKeys.l10 : (Int × (ByteArray × (ByteArray × (ByteArray × (Int × (ByteArray × (ByteArray × (ByteArray × (ByteArray × (ByteArray × (Int × (Int × (ByteArray × (ByteArray × (ByteArray × (ByteArray × (Int × (ByteArray × (ByteArray × (ByteArray × (ByteArray × (ByteArray × (Int × (Int × (ByteArray × (ByteArray × (ByteArray × (ByteArray × ByteArray)))))))))))))))))))))))))))) → Option ((ByteArray × (ByteArray × (ByteArray × (Int × (ByteArray × (ByteArray × (ByteArray × (ByteArray × (ByteArray × (Int × (Int × (ByteArray × (ByteArray × (ByteArray × (ByteArray × (Int × (ByteArray × (ByteArray × (ByteArray × (ByteArray × (ByteArray × (Int × (Int × (ByteArray × (ByteArray × (ByteArray × (ByteArray × ByteArray)))))))))))))))))))))))))))) := rounds bursarlaw20_TradeKeys.t10
noncomputable def bursarlaw20_TradeKeys.f (a : ((ByteArray × (List (Int × ByteArray))) × (ByteArray × (List (Int × ByteArray))))) : Option Bool := (((bursarlaw19_Few.f a.1)).bind fun x2 => (((trade_Read.f x2)).bind fun x3 => (((bursarlaw19_Few.f a.2)).bind fun x4 => (((trade_Read.f x4)).bind fun x5 => (bif (x3.2 != (0 : Int)) then (bif (x3.2 != (0 : Int)) then (((bursarlaw20_awake.f ())).bind fun x6 => (some x6)) else (bif (x5.2 != (0 : Int)) then (((bursarlaw20_awake.f ())).bind fun x6 => (some x6)) else (some false))) else (bif (x5.2 != (0 : Int)) then (bif (x3.2 != (0 : Int)) then (((bursarlaw20_awake.f ())).bind fun x6 => (some x6)) else (bif (x5.2 != (0 : Int)) then (((bursarlaw20_awake.f ())).bind fun x6 => (some x6)) else (some false))) else (bif ((x3.1.1.size : Int) != (4 : Int)) then (bif (x3.2 != (0 : Int)) then (((bursarlaw20_awake.f ())).bind fun x6 => (some x6)) else (bif (x5.2 != (0 : Int)) then (((bursarlaw20_awake.f ())).bind fun x6 => (some x6)) else (some false))) else (bif ((x5.1.1.size : Int) != (4 : Int)) then (bif (x3.2 != (0 : Int)) then (((bursarlaw20_awake.f ())).bind fun x6 => (some x6)) else (bif (x5.2 != (0 : Int)) then (((bursarlaw20_awake.f ())).bind fun x6 => (some x6)) else (some false))) else (((bursarlaw20_TradeKeys.l10 ((0 : Int), (x3.1.1, (x3.1.2.1, (x3.1.2.2.1, (x3.1.2.2.2.1, (x3.1.2.2.2.2.1, (x3.1.2.2.2.2.2.1, (x3.1.2.2.2.2.2.2.1, (x3.1.2.2.2.2.2.2.2.1, (x3.1.2.2.2.2.2.2.2.2.1, (x3.1.2.2.2.2.2.2.2.2.2.1, (x3.1.2.2.2.2.2.2.2.2.2.2.1, (x3.1.2.2.2.2.2.2.2.2.2.2.2, (x5.1.1, (x5.1.2.1, (x5.1.2.2.1, (x5.1.2.2.2.1, (x5.1.2.2.2.2.1, (x5.1.2.2.2.2.2.1, (x5.1.2.2.2.2.2.2.1, (x5.1.2.2.2.2.2.2.2.1, (x5.1.2.2.2.2.2.2.2.2.1, (x5.1.2.2.2.2.2.2.2.2.2.1, (x5.1.2.2.2.2.2.2.2.2.2.2.1, (x5.1.2.2.2.2.2.2.2.2.2.2.2, (x3.1.2.2.2.2.2.2.2.1, (x5.1.2.2.2.2.2.2.2.1, (x3.1.2.2.2.2.2.2.1, x5.1.2.2.2.2.2.2.1)))))))))))))))))))))))))))))).bind fun x6 => (bif (true && (decide (((1 : Int) < (x6.1.size : Int))))) then (bif (true && (decide (((1 : Int) < (x6.2.2.2.2.2.2.2.2.2.2.2.2.1.size : Int))))) then (bif ((bt x6.1 1) == (bt x6.2.2.2.2.2.2.2.2.2.2.2.2.1 1)) then (bif ((ByteArray.toList x6.2.2.2.2.2.1) == (ByteArray.toList x6.2.2.2.2.2.2.2.2.2.2.2.2.2.2.2.2.2.1)) then (bif ((ByteArray.toList x6.2.2.2.2.2.2.2.2.2.2.2.2.2.2.2.2.2.2.2.2.2.2.2.2.1) == (ByteArray.toList x6.2.2.2.2.2.2.2.2.2.2.2.2.2.2.2.2.2.2.2.2.2.2.2.2.2.1)) then (bif ((ByteArray.toList x6.2.2.2.2.2.2.2.2.2.2.2.2.2.2.2.2.2.2.2.2.2.2.2.2.2.2.1) == (ByteArray.toList x6.2.2.2.2.2.2.2.2.2.2.2.2.2.2.2.2.2.2.2.2.2.2.2.2.2.2.2)) then (((trade_Key.f (x6.1, (x6.2.1, (x6.2.2.1, (x6.2.2.2.1, (x6.2.2.2.2.1, (x6.2.2.2.2.2.1, (x6.2.2.2.2.2.2.1, (x6.2.2.2.2.2.2.2.1, (x6.2.2.2.2.2.2.2.2.1, (x6.2.2.2.2.2.2.2.2.2.1, (x6.2.2.2.2.2.2.2.2.2.2.1, x6.2.2.2.2.2.2.2.2.2.2.2.1))))))))))))).bind fun x7 => (((trade_Key.f (x6.2.2.2.2.2.2.2.2.2.2.2.2.1, (x6.2.2.2.2.2.2.2.2.2.2.2.2.2.1, (x6.2.2.2.2.2.2.2.2.2.2.2.2.2.2.1, (x6.2.2.2.2.2.2.2.2.2.2.2.2.2.2.2.1, (x6.2.2.2.2.2.2.2.2.2.2.2.2.2.2.2.2.1, (x6.2.2.2.2.2.2.2.2.2.2.2.2.2.2.2.2.2.1, (x6.2.2.2.2.2.2.2.2.2.2.2.2.2.2.2.2.2.2.1, (x6.2.2.2.2.2.2.2.2.2.2.2.2.2.2.2.2.2.2.2.1, (x6.2.2.2.2.2.2.2.2.2.2.2.2.2.2.2.2.2.2.2.2.1, (x6.2.2.2.2.2.2.2.2.2.2.2.2.2.2.2.2.2.2.2.2.2.1, (x6.2.2.2.2.2.2.2.2.2.2.2.2.2.2.2.2.2.2.2.2.2.2.1, x6.2.2.2.2.2.2.2.2.2.2.2.2.2.2.2.2.2.2.2.2.2.2.2.1))))))))))))).bind fun x8 => (bif (((ByteArray.toList x7) == (ByteArray.toList x8)) == ((ByteArray.toList x6.2.2.2.2.1) == (ByteArray.toList x6.2.2.2.2.2.2.2.2.2.2.2.2.2.2.2.2.1))) then (((trade_Key.f (x6.1, (x6.2.1, (x6.2.2.1, (x6.2.2.2.1, (x6.2.2.2.2.1, (x6.2.2.2.2.2.1, (x6.2.2.2.2.2.2.1, (x6.2.2.2.2.2.2.2.1, (x6.2.2.2.2.2.2.2.2.1, (x6.2.2.2.2.2.2.2.2.2.1, (x6.2.2.2.2.2.2.2.2.2.2.1, x6.2.2.2.2.2.2.2.2.2.2.2.1))))))))))))).bind fun x9 => (bif ((x9.size : Int) == (35 : Int)) then (((bursarlaw20_awake.f ())).bind fun x10 => (some x10)) else (some false))) else (some false)))) else (((trade_Key.f (x6.1, (x6.2.1, (x6.2.2.1, (x6.2.2.2.1, (x6.2.2.2.2.1, (x6.2.2.2.2.2.1, (x6.2.2.2.2.2.2.1, (x6.2.2.2.2.2.2.2.1, (x6.2.2.2.2.2.2.2.2.1, (x6.2.2.2.2.2.2.2.2.2.1, (x6.2.2.2.2.2.2.2.2.2.2.1, x6.2.2.2.2.2.2.2.2.2.2.2.1))))))))))))).bind fun x7 => (((trade_Key.f (x6.2.2.2.2.2.2.2.2.2.2.2.2.1, (x6.2.2.2.2.2.2.2.2.2.2.2.2.2.1, (x6.2.2.2.2.2.2.2.2.2.2.2.2.2.2.1, (x6.2.2.2.2.2.2.2.2.2.2.2.2.2.2.2.1, (x6.2.2.2.2.2.2.2.2.2.2.2.2.2.2.2.2.1, (x6.2.2.2.2.2.2.2.2.2.2.2.2.2.2.2.2.2.1, (x6.2.2.2.2.2.2.2.2.2.2.2.2.2.2.2.2.2.2.1, (x6.2.2.2.2.2.2.2.2.2.2.2.2.2.2.2.2.2.2.2.1, (x6.2.2.2.2.2.2.2.2.2.2.2.2.2.2.2.2.2.2.2.2.1, (x6.2.2.2.2.2.2.2.2.2.2.2.2.2.2.2.2.2.2.2.2.2.1, (x6.2.2.2.2.2.2.2.2.2.2.2.2.2.2.2.2.2.2.2.2.2.2.1, x6.2.2.2.2.2.2.2.2.2.2.2.2.2.2.2.2.2.2.2.2.2.2.2.1))))))))))))).bind fun x8 => (bif (((ByteArray.toList x7) == (ByteArray.toList x8)) == false) then (((trade_Key.f (x6.1, (x6.2.1, (x6.2.2.1, (x6.2.2.2.1, (x6.2.2.2.2.1, (x6.2.2.2.2.2.1, (x6.2.2.2.2.2.2.1, (x6.2.2.2.2.2.2.2.1, (x6.2.2.2.2.2.2.2.2.1, (x6.2.2.2.2.2.2.2.2.2.1, (x6.2.2.2.2.2.2.2.2.2.2.1, x6.2.2.2.2.2.2.2.2.2.2.2.1))))))))))))).bind fun x9 => (bif ((x9.size : Int) == (35 : Int)) then (((bursarlaw20_awake.f ())).bind fun x10 => (some x10)) else (some false))) else (some false))))) else (((trade_Key.f (x6.1, (x6.2.1, (x6.2.2.1, (x6.2.2.2.1, (x6.2.2.2.2.1, (x6.2.2.2.2.2.1, (x6.2.2.2.2.2.2.1, (x6.2.2.2.2.2.2.2.1, (x6.2.2.2.2.2.2.2.2.1, (x6.2.2.2.2.2.2.2.2.2.1, (x6.2.2.2.2.2.2.2.2.2.2.1, x6.2.2.2.2.2.2.2.2.2.2.2.1))))))))))))).bind fun x7 => (((trade_Key.f (x6.2.2.2.2.2.2.2.2.2.2.2.2.1, (x6.2.2.2.2.2.2.2.2.2.2.2.2.2.1, (x6.2.2.2.2.2.2.2.2.2.2.2.2.2.2.1, (x6.2.2.2.2.2.2.2.2.2.2.2.2.2.2.2.1, (x6.2.2.2.2.2.2.2.2.2.2.2.2.2.2.2.2.1, (x6.2.2.2.2.2.2.2.2.2.2.2.2.2.2.2.2.2.1, (x6.2.2.2.2.2.2.2.2.2.2.2.2.2.2.2.2.2.2.1, (x6.2.2.2.2.2.2.2.2.2.2.2.2.2.2.2.2.2.2.2.1, (x6.2.2.2.2.2.2.2.2.2.2.2.2.2.2.2.2.2.2.2.2.1, (x6.2.2.2.2.2.2.2.2.2.2.2.2.2.2.2.2.2.2.2.2.2.1, (x6.2.2.2.2.2.2.2.2.2.2.2.2.2.2.2.2.2.2.2.2.2.2.1, x6.2.2.2.2.2.2.2.2.2.2.2.2.2.2.2.2.2.2.2.2.2.2.2.1))))))))))))).bind fun x8 => (bif (((ByteArray.toList x7) == (ByteArray.toList x8)) == false) then (((trade_Key.f (x6.1, (x6.2.1, (x6.2.2.1, (x6.2.2.2.1, (x6.2.2.2.2.1, (x6.2.2.2.2.2.1, (x6.2.2.2.2.2.2.1, (x6.2.2.2.2.2.2.2.1, (x6.2.2.2.2.2.2.2.2.1, (x6.2.2.2.2.2.2.2.2.2.1, (x6.2.2.2.2.2.2.2.2.2.2.1, x6.2.2.2.2.2.2.2.2.2.2.2.1))))))))))))).bind fun x9 => (bif ((x9.size : Int) == (35 : Int)) then (((bursarlaw20_awake.f ())).bind fun x10 => (some x10)) else (some false))) else (some false))))) else (((trade_Key.f (x6.1, (x6.2.1, (x6.2.2.1, (x6.2.2.2.1, (x6.2.2.2.2.1, (x6.2.2.2.2.2.1, (x6.2.2.2.2.2.2.1, (x6.2.2.2.2.2.2.2.1, (x6.2.2.2.2.2.2.2.2.1, (x6.2.2.2.2.2.2.2.2.2.1, (x6.2.2.2.2.2.2.2.2.2.2.1, x6.2.2.2.2.2.2.2.2.2.2.2.1))))))))))))).bind fun x7 => (((trade_Key.f (x6.2.2.2.2.2.2.2.2.2.2.2.2.1, (x6.2.2.2.2.2.2.2.2.2.2.2.2.2.1, (x6.2.2.2.2.2.2.2.2.2.2.2.2.2.2.1, (x6.2.2.2.2.2.2.2.2.2.2.2.2.2.2.2.1, (x6.2.2.2.2.2.2.2.2.2.2.2.2.2.2.2.2.1, (x6.2.2.2.2.2.2.2.2.2.2.2.2.2.2.2.2.2.1, (x6.2.2.2.2.2.2.2.2.2.2.2.2.2.2.2.2.2.2.1, (x6.2.2.2.2.2.2.2.2.2.2.2.2.2.2.2.2.2.2.2.1, (x6.2.2.2.2.2.2.2.2.2.2.2.2.2.2.2.2.2.2.2.2.1, (x6.2.2.2.2.2.2.2.2.2.2.2.2.2.2.2.2.2.2.2.2.2.1, (x6.2.2.2.2.2.2.2.2.2.2.2.2.2.2.2.2.2.2.2.2.2.2.1, x6.2.2.2.2.2.2.2.2.2.2.2.2.2.2.2.2.2.2.2.2.2.2.2.1))))))))))))).bind fun x8 => (bif (((ByteArray.toList x7) == (ByteArray.toList x8)) == false) then (((trade_Key.f (x6.1, (x6.2.1, (x6.2.2.1, (x6.2.2.2.1, (x6.2.2.2.2.1, (x6.2.2.2.2.2.1, (x6.2.2.2.2.2.2.1, (x6.2.2.2.2.2.2.2.1, (x6.2.2.2.2.2.2.2.2.1, (x6.2.2.2.2.2.2.2.2.2.1, (x6.2.2.2.2.2.2.2.2.2.2.1, x6.2.2.2.2.2.2.2.2.2.2.2.1))))))))))))).bind fun x9 => (bif ((x9.size : Int) == (35 : Int)) then (((bursarlaw20_awake.f ())).bind fun x10 => (some x10)) else (some false))) else (some false))))) else (((trade_Key.f (x6.1, (x6.2.1, (x6.2.2.1, (x6.2.2.2.1, (x6.2.2.2.2.1, (x6.2.2.2.2.2.1, (x6.2.2.2.2.2.2.1, (x6.2.2.2.2.2.2.2.1, (x6.2.2.2.2.2.2.2.2.1, (x6.2.2.2.2.2.2.2.2.2.1, (x6.2.2.2.2.2.2.2.2.2.2.1, x6.2.2.2.2.2.2.2.2.2.2.2.1))))))))))))).bind fun x7 => (((trade_Key.f (x6.2.2.2.2.2.2.2.2.2.2.2.2.1, (x6.2.2.2.2.2.2.2.2.2.2.2.2.2.1, (x6.2.2.2.2.2.2.2.2.2.2.2.2.2.2.1, (x6.2.2.2.2.2.2.2.2.2.2.2.2.2.2.2.1, (x6.2.2.2.2.2.2.2.2.2.2.2.2.2.2.2.2.1, (x6.2.2.2.2.2.2.2.2.2.2.2.2.2.2.2.2.2.1, (x6.2.2.2.2.2.2.2.2.2.2.2.2.2.2.2.2.2.2.1, (x6.2.2.2.2.2.2.2.2.2.2.2.2.2.2.2.2.2.2.2.1, (x6.2.2.2.2.2.2.2.2.2.2.2.2.2.2.2.2.2.2.2.2.1, (x6.2.2.2.2.2.2.2.2.2.2.2.2.2.2.2.2.2.2.2.2.2.1, (x6.2.2.2.2.2.2.2.2.2.2.2.2.2.2.2.2.2.2.2.2.2.2.1, x6.2.2.2.2.2.2.2.2.2.2.2.2.2.2.2.2.2.2.2.2.2.2.2.1))))))))))))).bind fun x8 => (bif (((ByteArray.toList x7) == (ByteArray.toList x8)) == false) then (((trade_Key.f (x6.1, (x6.2.1, (x6.2.2.1, (x6.2.2.2.1, (x6.2.2.2.2.1, (x6.2.2.2.2.2.1, (x6.2.2.2.2.2.2.1, (x6.2.2.2.2.2.2.2.1, (x6.2.2.2.2.2.2.2.2.1, (x6.2.2.2.2.2.2.2.2.2.1, (x6.2.2.2.2.2.2.2.2.2.2.1, x6.2.2.2.2.2.2.2.2.2.2.2.1))))))))))))).bind fun x9 => (bif ((x9.size : Int) == (35 : Int)) then (((bursarlaw20_awake.f ())).bind fun x10 => (some x10)) else (some false))) else (some false))))) else none) else none))))))))))
theorem bursarlaw20_TradeKeys.ok : ∀ a : Vals bursarlaw20_TradeKeys.As.tys, fnK P bursarlaw20_TradeKeys.H (lp [(10, (NodeT.summ ⟨bursarlaw20_TradeKeys.sh10, bursarlaw20_TradeKeys.os10, bursarlaw20_TradeKeys.l10⟩ 0))]) 4 bursarlaw20_TradeKeys.As bursarlaw20_TradeKeys.m a some = bursarlaw20_TradeKeys.f a := fun a => by kernel_rfl
noncomputable abbrev bursarlaw20_TradeKeys.row : Row := fnRow 4 bursarlaw20_TradeKeys.As bursarlaw20_TradeKeys.m bursarlaw20_TradeKeys.f
theorem bursarlaw20_TradeKeys.row_ok : RowOK P G1 bursarlaw20_TradeKeys.row := row_told bursarlaw20_TradeKeys.hok (lp_of (l := [(10, (NodeT.summ ⟨bursarlaw20_TradeKeys.sh10, bursarlaw20_TradeKeys.os10, bursarlaw20_TradeKeys.l10⟩ 0))]) ⟨(loop_sum bursarlaw20_TradeKeys.hok (by kernel_rfl) (by kernel_rfl) (l := []) trivial bursarlaw20_TradeKeys.sh10 bursarlaw20_TradeKeys.os10 (by kernel_rfl) bursarlaw20_TradeKeys.t10 bursarlaw20_TradeKeys.t10_ok), trivial⟩) (fun _ => rfl) bursarlaw20_TradeKeys.ok
end Go.Proofs.YtpoiijkodpnobaaGreatDoor
end
