/- Part 4 of what the proof of this statement stands on: What is wrong with any entry, its text, and the entry of any text, is as the document says; texts are parsed as they were. -/
import Derived.Test.YtcadnpdhiolmfaaDoorProg
import Derived.KernelRfl
import Derived.Laws.Externs
import Derived.Lib.Bytealg
import Derived.Laws.RangeString
import Derived.Shelf.Strconv.Itoa1
import Derived.Shelf.Strconv.Itoa2
import Derived.Shelf.LaysM
import Derived.Lib.Walk
import Derived.Lib.ItoaMem
import Derived.WalkKit
import Derived.BigCall
import Derived.BigGuard
import Derived.Deep.Draws
import Derived.Shelf.Pu.ParseUintPublic10
import Derived.Shelf.Pu.ErrVarParseUint
import Derived.Shelf.Strconv.Itoa3
import Derived.Test.YtcadnpdhiolmfaaDoorKEntryChecks3
section
set_option linter.unusedVariables false
set_option linter.unusedSimpArgs false
namespace Go.Proofs.YtcadnpdhiolmfaaDoor
open Go Go.Fw
noncomputable abbrev P := Tryd.prog
theorem pick_le {n : Nat} {cs : List D} {A B : Nat → Option (List D)} (h : ∀ g c, A g = some c → B g = some c) : ∀ g c, (bif g == n then some cs else A g) = some c → (bif g == n then some cs else B g) = some c := by
  intro g c
  cases (g == n)
  · exact h g c
  · exact fun h => h
abbrev G0 : Nat → Option (List D) := fun g => bif g == 3 then some [.i .u64 1, .i .u64 10, .i .u64 100, .i .u64 1000, .i .u64 10000, .i .u64 100000, .i .u64 1000000, .i .u64 10000000, .i .u64 100000000, .i .u64 1000000000, .i .u64 10000000000, .i .u64 100000000000, .i .u64 1000000000000, .i .u64 10000000000000, .i .u64 100000000000000, .i .u64 1000000000000000, .i .u64 10000000000000000, .i .u64 100000000000000000, .i .u64 1000000000000000000, .i .u64 10000000000000000000] else none
abbrev G1 : Nat → Option (List D) := fun g => bif g == 3 then some [.i .u64 1, .i .u64 10, .i .u64 100, .i .u64 1000, .i .u64 10000, .i .u64 100000, .i .u64 1000000, .i .u64 10000000, .i .u64 100000000, .i .u64 1000000000, .i .u64 10000000000, .i .u64 100000000000, .i .u64 1000000000000, .i .u64 10000000000000, .i .u64 100000000000000, .i .u64 1000000000000000, .i .u64 10000000000000000, .i .u64 100000000000000000, .i .u64 1000000000000000000, .i .u64 10000000000000000000] else bif g == 0 then some [.er true] else bif g == 1 then some [.er true] else none
theorem g01 : ∀ g cs, G0 g = some cs → G1 g = some cs := pick_le (fun _ _ h => by cases h)
abbrev T_api_Account : Ty := (.g (.p (.i .i64) .s))
abbrev T_api_Line : Ty := (.g (.p T_api_Account (.i .i64)))
abbrev T_api_Entry : Ty := (.g (.p (.i .i64) (.p .s (.l T_api_Line))))
def add64 : List D → Option (Bool × D) := fun ds => match ds with
  | [.i .u64 x, .i .u64 y, .i .u64 c] => some (decide (0 ≤ x) && decide (0 ≤ y) && decide (0 ≤ c) && decide (c ≤ 1), .tp [.i .u64 ((x + y + c) % 18446744073709551616), .i .u64 ((x + y + c) / 18446744073709551616)])
  | _ => none
theorem add64_ok : ExtOK P 47 (bare add64) := by
  intro ds r h w I vs hsz hv
  unfold bare add64 at h
  split at h
  · rename_i b q hq
    obtain ⟨hb, h⟩ := cond_some h
    injection h with h
    subst h
    split at hq
    · rename_i x y c
      injection hq with hq
      injection hq with hq1 hq2
      subst hq2
      rw [hb] at hq1
      simp only [Bool.and_eq_true, decide_eq_true_eq] at hq1
      have e0 := hv 0 _ rfl
      have e1 := hv 1 _ rfl
      have e2 := hv 2 _ rfl
      have hvs : vs = #[.int .u64 x, .int .u64 y, .int .u64 c] := by
        have : vs = #[vs.getD 0 undef, vs.getD 1 undef, vs.getD 2 undef] := by
          apply Array.ext
          · simpa using hsz
          · intro i hi hi'
            simp at hi'
            have : i = 0 ∨ i = 1 ∨ i = 2 := by omega
            rcases this with rfl | rfl | rfl <;> simp [Array.getD_eq_getD_getElem?, Array.getElem?_eq_getElem hi]
        rw [this]
        generalize vs.getD 0 undef = a0 at e0
        generalize vs.getD 1 undef = a1 at e1
        generalize vs.getD 2 undef = a2 at e2
        cases e0; cases e1; cases e2
        rfl
      refine ⟨_, by rw [hvs, run_callFunc_extern Tryd.func47 (by kernel_rfl) (by kernel_rfl) (by kernel_rfl) (e := add64Entry) (by kernel_rfl), run_add64 x y c (by omega) (by omega) (by omega) (by omega)]; rfl, ?_⟩
      refine .tp _ _ rfl fun j d hj => ?_
      match j, hj with
      | 0, hj => simp at hj; subst hj; exact .i _ _
      | 1, hj => simp at hj; subst hj; exact .i _ _
      | j + 2, hj => simp at hj
    · cases hq
  · cases h
def cntB : List D → Option (Bool × D) := fun ds => match ds with
  | [.s x, .i .u8 y] => some (true, .i .i64 (((Lib.countByte x.data.toList y.toNat.toUInt8 : Nat) : Int)))
  | _ => none
theorem cntB_ok : ExtOK P 80 (bare cntB) := by
  intro ds r h w I vs hsz hv
  unfold bare cntB at h
  split at h
  · rename_i b q hq
    obtain ⟨hb, h⟩ := cond_some h
    injection h with h
    subst h
    split at hq
    · rename_i x y
      injection hq with hq
      injection hq with hq1 hq2
      subst hq2
      have e0 := hv 0 _ rfl
      have e1 := hv 1 _ rfl
      have hvs : vs = #[vs.getD 0 undef, vs.getD 1 undef] := by
        apply Array.ext
        · simpa using hsz
        · intro i hi hi'
          simp at hi'
          have : i = 0 ∨ i = 1 := by omega
          rcases this with rfl | rfl <;> simp [Array.getD_eq_getD_getElem?, Array.getElem?_eq_getElem hi]
      generalize vs.getD 0 undef = a0 at e0 hvs
      generalize vs.getD 1 undef = a1 at e1 hvs
      cases e0; cases e1
      refine ⟨_, by rw [hvs, run_callFunc_extern Tryd.func80 (by kernel_rfl) (by kernel_rfl) (by kernel_rfl) (e := Extern.BytealgCount.count) (by kernel_rfl), Lib.run_countString]; rfl, ?_⟩
      exact .i _ _
    · cases hq
  · cases h
def idxB : List D → Option (Bool × D) := fun ds => match ds with
  | [.s x, .i .u8 y] => some (true, .i .i64 (Lib.indexByte x.data.toList y.toNat.toUInt8))
  | _ => none
theorem idxB_ok : ExtOK P 96 (bare idxB) := by
  intro ds r h w I vs hsz hv
  unfold bare idxB at h
  split at h
  · rename_i b q hq
    obtain ⟨hb, h⟩ := cond_some h
    injection h with h
    subst h
    split at hq
    · rename_i x y
      injection hq with hq
      injection hq with hq1 hq2
      subst hq2
      have e0 := hv 0 _ rfl
      have e1 := hv 1 _ rfl
      have hvs : vs = #[vs.getD 0 undef, vs.getD 1 undef] := by
        apply Array.ext
        · simpa using hsz
        · intro i hi hi'
          simp at hi'
          have : i = 0 ∨ i = 1 := by omega
          rcases this with rfl | rfl <;> simp [Array.getD_eq_getD_getElem?, Array.getElem?_eq_getElem hi]
      generalize vs.getD 0 undef = a0 at e0 hvs
      generalize vs.getD 1 undef = a1 at e1 hvs
      cases e0; cases e1
      refine ⟨_, by rw [hvs, run_callFunc_extern Tryd.func96 (by kernel_rfl) (by kernel_rfl) (by kernel_rfl) (e := Extern.BytealgIndexByte.indexByte) (by kernel_rfl), Lib.run_indexByteString]; rfl, ?_⟩
      exact .i _ _
    · cases hq
  · cases h
abbrev E0 : FuncId → Option (List D → Option (Bool × D)) := fun g => bif g == 47 then some add64 else bif g == 80 then some cntB else bif g == 96 then some idxB else none
theorem e0_ok : ∀ g f, E0 g = some f → ExtOK P g (bare f) := by
  intro g f h
  unfold E0 at h
  cases hg47 : (g == 47) with
  | true =>
    rw [hg47] at h
    injection h with h
    subst h
    have : g = 47 := by simpa using hg47
    subst this
    exact add64_ok
  | false =>
  rw [hg47] at h
  simp only [cond_false] at h
  cases hg80 : (g == 80) with
  | true =>
    rw [hg80] at h
    injection h with h
    subst h
    have : g = 80 := by simpa using hg80
    subst this
    exact cntB_ok
  | false =>
  rw [hg80] at h
  simp only [cond_false] at h
  cases hg96 : (g == 96) with
  | true =>
    rw [hg96] at h
    injection h with h
    subst h
    have : g = 96 := by simpa using hg96
    subst this
    exact idxB_ok
  | false =>
  rw [hg96] at h
  simp only [cond_false] at h
  cases h
abbrev J0 : FuncId → Option TypeId := fun g => none
theorem j0_ok : InsAll P J0 := by
  intro g e h
  unfold J0 at h
  cases h
end Go.Proofs.YtcadnpdhiolmfaaDoor
end
section
set_option linter.unusedVariables false
set_option maxRecDepth 100000
namespace Go.Proofs.YtcadnpdhiolmfaaDoor
open Go Go.Fw
abbrev utf8_RuneCountInString.As : Shs := (.cons (.x .s) .nil)
abbrev utf8_RuneCountInString.m : Back := [(false, (.i .i64))]
noncomputable abbrev utf8_RuneCountInString.H : HK := hk P G0 E0 J0 [] noLoops 4
theorem utf8_RuneCountInString.rows : TabOK P G0 (tabF []) := rows_ok (ws := []) trivial
theorem utf8_RuneCountInString.hok : HKOK P utf8_RuneCountInString.H := hk_ok e0_ok j0_ok utf8_RuneCountInString.rows (fun g n => noLoops_ok g n) 4
noncomputable abbrev utf8_RuneCountInString.sh3 : SSh := ⟨[(2, (.x (.i .i64))), (4, (.pt 0 0))], [.it]⟩
noncomputable abbrev utf8_RuneCountInString.os3 : PEnds := [((.exit 0), ⟨[(2, (.x (.i .i64)))], []⟩)]
noncomputable def utf8_RuneCountInString.t3 (s : (Int × (ByteArray × Int))) : Option ((Int × (ByteArray × Int)) ⊕ (Int)) := (bif (Nat.blt (Int.toNat s.2.2) s.2.1.size) then (some (.inl ((IntKind.wrap .i64 (s.1 + (1 : Int))), (s.2.1, (((Int.toNat s.2.2) + (runeD s.2.1 (Int.toNat s.2.2)).2) : Int))))) else (some (.inr s.1)))
theorem utf8_RuneCountInString.t3_ok : ∀ s : Vals utf8_RuneCountInString.sh3.tys, turnK P utf8_RuneCountInString.H (lp []) (bodyAt (codeOf P 78) 3) 0 utf8_RuneCountInString.sh3 utf8_RuneCountInString.os3 s some = utf8_RuneCountInString.t3 s := fun s => by kernel_rfl
noncomputable def utf8_RuneCountInString.l3 : (Int × (ByteArray × Int)) → Option (Int) := rounds utf8_RuneCountInString.t3
noncomputable def utf8_RuneCountInString.f (a : ByteArray) : Option Int := (((utf8_RuneCountInString.l3 ((0 : Int), (a, (0 : Int))))).bind fun x1 => (some x1))
theorem utf8_RuneCountInString.ok : ∀ a : Vals utf8_RuneCountInString.As.tys, fnK P utf8_RuneCountInString.H (lp [(3, (NodeT.summ ⟨utf8_RuneCountInString.sh3, utf8_RuneCountInString.os3, utf8_RuneCountInString.l3⟩ 0))]) 78 utf8_RuneCountInString.As utf8_RuneCountInString.m a some = utf8_RuneCountInString.f a := fun a => by kernel_rfl
noncomputable abbrev utf8_RuneCountInString.row : Row := fnRow 78 utf8_RuneCountInString.As utf8_RuneCountInString.m utf8_RuneCountInString.f
theorem utf8_RuneCountInString.row_ok : RowOK P G0 utf8_RuneCountInString.row := row_told utf8_RuneCountInString.hok (lp_of (l := [(3, (NodeT.summ ⟨utf8_RuneCountInString.sh3, utf8_RuneCountInString.os3, utf8_RuneCountInString.l3⟩ 0))]) ⟨(loop_sum utf8_RuneCountInString.hok (by kernel_rfl) (by kernel_rfl) (l := []) trivial utf8_RuneCountInString.sh3 utf8_RuneCountInString.os3 (by kernel_rfl) utf8_RuneCountInString.t3 utf8_RuneCountInString.t3_ok), trivial⟩) (fun _ => rfl) utf8_RuneCountInString.ok
abbrev utf8_decodeRuneInStringSlow.As : Shs := (.cons (.x .s) .nil)
abbrev utf8_decodeRuneInStringSlow.m : Back := [(false, (.i .i32)), (false, (.i .i64))]
noncomputable abbrev utf8_decodeRuneInStringSlow.H : HK := hk P G0 E0 J0 [] noLoops 4
theorem utf8_decodeRuneInStringSlow.rows : TabOK P G0 (tabF []) := rows_ok (ws := []) trivial
theorem utf8_decodeRuneInStringSlow.hok : HKOK P utf8_decodeRuneInStringSlow.H := hk_ok e0_ok j0_ok utf8_decodeRuneInStringSlow.rows (fun g n => noLoops_ok g n) 4
noncomputable def utf8_decodeRuneInStringSlow.f (a : ByteArray) : Option (Int × Int) := (bif (decide (((a.size : Int) < (1 : Int)))) then (some ((65533 : Int), (0 : Int))) else (bif (true && (decide (((0 : Int) < (a.size : Int))))) then none else none))
theorem utf8_decodeRuneInStringSlow.ok : ∀ a : Vals utf8_decodeRuneInStringSlow.As.tys, fnK P utf8_decodeRuneInStringSlow.H (lp []) 95 utf8_decodeRuneInStringSlow.As utf8_decodeRuneInStringSlow.m a some = utf8_decodeRuneInStringSlow.f a := fun a => by kernel_rfl
noncomputable abbrev utf8_decodeRuneInStringSlow.row : Row := fnRow 95 utf8_decodeRuneInStringSlow.As utf8_decodeRuneInStringSlow.m utf8_decodeRuneInStringSlow.f
theorem utf8_decodeRuneInStringSlow.row_ok : RowOK P G0 utf8_decodeRuneInStringSlow.row := row_told utf8_decodeRuneInStringSlow.hok (lp_of (l := []) trivial) (fun _ => rfl) utf8_decodeRuneInStringSlow.ok
abbrev utf8_DecodeRuneInString.As : Shs := (.cons (.x .s) .nil)
abbrev utf8_DecodeRuneInString.m : Back := [(false, (.i .i32)), (false, (.i .i64))]
noncomputable abbrev utf8_DecodeRuneInString.H : HK := hk P G0 E0 J0 [utf8_decodeRuneInStringSlow.row] noLoops 4
theorem utf8_DecodeRuneInString.rows : TabOK P G0 (tabF [utf8_decodeRuneInStringSlow.row]) := rows_ok (ws := [utf8_decodeRuneInStringSlow.row]) ⟨utf8_decodeRuneInStringSlow.row_ok, trivial⟩
theorem utf8_DecodeRuneInString.hok : HKOK P utf8_DecodeRuneInString.H := hk_ok e0_ok j0_ok utf8_DecodeRuneInString.rows (fun g n => noLoops_ok g n) 4
noncomputable def utf8_DecodeRuneInString.f (a : ByteArray) : Option (Int × Int) := (bif (!((ByteArray.toList a) == [])) then (bif (true && (decide (((0 : Int) < (a.size : Int))))) then (bif (decide (((bt a 0) < (128 : Int)))) then (bif (true && (decide (((0 : Int) < (a.size : Int))))) then (some ((IntKind.wrap .i32 (bt a 0)), (1 : Int))) else none) else (((utf8_decodeRuneInStringSlow.f a)).bind fun x1 => (some x1))) else none) else (((utf8_decodeRuneInStringSlow.f a)).bind fun x1 => (some x1)))
theorem utf8_DecodeRuneInString.ok : ∀ a : Vals utf8_DecodeRuneInString.As.tys, fnK P utf8_DecodeRuneInString.H (lp []) 79 utf8_DecodeRuneInString.As utf8_DecodeRuneInString.m a some = utf8_DecodeRuneInString.f a := fun a => by kernel_rfl
noncomputable abbrev utf8_DecodeRuneInString.row : Row := fnRow 79 utf8_DecodeRuneInString.As utf8_DecodeRuneInString.m utf8_DecodeRuneInString.f
theorem utf8_DecodeRuneInString.row_ok : RowOK P G0 utf8_DecodeRuneInString.row := row_told utf8_DecodeRuneInString.hok (lp_of (l := []) trivial) (fun _ => rfl) utf8_DecodeRuneInString.ok
abbrev strings_explode.As : Shs := (.cons (.x .s) (.cons (.x (.i .i64)) .nil))
abbrev strings_explode.m : Back := [(false, (.l .s))]
noncomputable abbrev strings_explode.H : HK := hk P G0 E0 J0 [utf8_RuneCountInString.row, utf8_DecodeRuneInString.row] noLoops 4
theorem strings_explode.rows : TabOK P G0 (tabF [utf8_RuneCountInString.row, utf8_DecodeRuneInString.row]) := rows_ok (ws := [utf8_RuneCountInString.row, utf8_DecodeRuneInString.row]) ⟨utf8_RuneCountInString.row_ok, ⟨utf8_DecodeRuneInString.row_ok, trivial⟩⟩
theorem strings_explode.hok : HKOK P strings_explode.H := hk_ok e0_ok j0_ok strings_explode.rows (fun g n => noLoops_ok g n) 4
noncomputable abbrev strings_explode.sh8 : SSh := ⟨[(0, (.x .s)), (1, (.x (.i .i64))), (6, (.own 0 1)), (7, (.x (.i .i64)))], [.arr .s]⟩
noncomputable abbrev strings_explode.os8 : PEnds := [((.exit 0), ⟨[(0, (.x .s)), (1, (.x (.i .i64))), (6, (.own 0 1))], [.arr .s]⟩)]
noncomputable def strings_explode.t8 (s : (ByteArray × (Int × (Int × (List ByteArray))))) : Option ((ByteArray × (Int × (Int × (List ByteArray)))) ⊕ ((ByteArray × (Int × (List ByteArray))))) := (bif (decide ((s.2.2.1 < (IntKind.wrap .i64 (s.2.1 - (1 : Int)))))) then (((utf8_DecodeRuneInString.f s.1)).bind fun x4 => (bif ((decide (((0 : Int) ≤ x4.2))) && (decide ((x4.2 ≤ (s.1.size : Int))))) then (bif ((decide (((0 : Int) ≤ s.2.2.1))) && (decide ((s.2.2.1 < ((List.length s.2.2.2) : Int))))) then (bif (true && (Nat.blt (0 + (Int.toNat s.2.2.1)) (List.length s.2.2.2))) then (bif ((decide (((0 : Int) ≤ x4.2))) && (decide ((x4.2 ≤ (s.1.size : Int))))) then (some (.inl ((ByteArray.extract s.1 (Int.toNat x4.2) s.1.size), (s.2.1, ((IntKind.wrap .i64 (s.2.2.1 + (1 : Int))), (List.set s.2.2.2 (0 + (Int.toNat s.2.2.1)) (ByteArray.extract s.1 0 (Int.toNat x4.2)))))))) else none) else none) else none) else none)) else (some (.inr (s.1, (s.2.1, s.2.2.2)))))
theorem strings_explode.t8_ok : ∀ s : Vals strings_explode.sh8.tys, turnK P strings_explode.H (lp []) (bodyAt (codeOf P 61) 8) 0 strings_explode.sh8 strings_explode.os8 s some = strings_explode.t8 s := fun s => by kernel_rfl
noncomputable def strings_explode.l8 : (ByteArray × (Int × (Int × (List ByteArray)))) → Option ((ByteArray × (Int × (List ByteArray)))) := rounds strings_explode.t8
noncomputable def strings_explode.f (a : (ByteArray × Int)) : Option (List ByteArray) := (((utf8_RuneCountInString.f a.1)).bind fun x2 => (bif (decide ((a.2 < (0 : Int)))) then (bif ((((((decide (((0 : Int) ≤ x2))) && (decide ((x2 ≤ x2)))) && (decide ((((16 : Int) * x2) ≤ (140737488355328 : Int))))) && (decide ((x2 ≤ (140737488355328 : Int))))) && true) && true) then (((strings_explode.l8 (a.1, (x2, ((0 : Int), (List.replicate (Int.toNat x2) (bs []))))))).bind fun x3 => (bif (decide ((x3.2.1 > (0 : Int)))) then (bif ((decide (((0 : Int) ≤ (IntKind.wrap .i64 (x3.2.1 - (1 : Int)))))) && (decide (((IntKind.wrap .i64 (x3.2.1 - (1 : Int))) < ((List.length x3.2.2) : Int))))) then (bif (true && (Nat.blt (0 + (Int.toNat (IntKind.wrap .i64 (x3.2.1 - (1 : Int))))) (List.length x3.2.2))) then (some (List.set x3.2.2 (0 + (Int.toNat (IntKind.wrap .i64 (x3.2.1 - (1 : Int))))) x3.1)) else none) else none) else (some x3.2.2))) else none) else (bif (decide ((a.2 > x2))) then (bif ((((((decide (((0 : Int) ≤ x2))) && (decide ((x2 ≤ x2)))) && (decide ((((16 : Int) * x2) ≤ (140737488355328 : Int))))) && (decide ((x2 ≤ (140737488355328 : Int))))) && true) && true) then (((strings_explode.l8 (a.1, (x2, ((0 : Int), (List.replicate (Int.toNat x2) (bs []))))))).bind fun x3 => (bif (decide ((x3.2.1 > (0 : Int)))) then (bif ((decide (((0 : Int) ≤ (IntKind.wrap .i64 (x3.2.1 - (1 : Int)))))) && (decide (((IntKind.wrap .i64 (x3.2.1 - (1 : Int))) < ((List.length x3.2.2) : Int))))) then (bif (true && (Nat.blt (0 + (Int.toNat (IntKind.wrap .i64 (x3.2.1 - (1 : Int))))) (List.length x3.2.2))) then (some (List.set x3.2.2 (0 + (Int.toNat (IntKind.wrap .i64 (x3.2.1 - (1 : Int))))) x3.1)) else none) else none) else (some x3.2.2))) else none) else (bif ((((((decide (((0 : Int) ≤ a.2))) && (decide ((a.2 ≤ a.2)))) && (decide ((((16 : Int) * a.2) ≤ (140737488355328 : Int))))) && (decide ((a.2 ≤ (140737488355328 : Int))))) && true) && true) then (((strings_explode.l8 (a.1, (a.2, ((0 : Int), (List.replicate (Int.toNat a.2) (bs []))))))).bind fun x3 => (bif (decide ((x3.2.1 > (0 : Int)))) then (bif ((decide (((0 : Int) ≤ (IntKind.wrap .i64 (x3.2.1 - (1 : Int)))))) && (decide (((IntKind.wrap .i64 (x3.2.1 - (1 : Int))) < ((List.length x3.2.2) : Int))))) then (bif (true && (Nat.blt (0 + (Int.toNat (IntKind.wrap .i64 (x3.2.1 - (1 : Int))))) (List.length x3.2.2))) then (some (List.set x3.2.2 (0 + (Int.toNat (IntKind.wrap .i64 (x3.2.1 - (1 : Int))))) x3.1)) else none) else none) else (some x3.2.2))) else none))))
theorem strings_explode.ok : ∀ a : Vals strings_explode.As.tys, fnK P strings_explode.H (lp [(8, (NodeT.summ ⟨strings_explode.sh8, strings_explode.os8, strings_explode.l8⟩ 0))]) 61 strings_explode.As strings_explode.m a some = strings_explode.f a := fun a => by kernel_rfl
noncomputable abbrev strings_explode.row : Row := fnRow 61 strings_explode.As strings_explode.m strings_explode.f
theorem strings_explode.row_ok : RowOK P G0 strings_explode.row := row_told strings_explode.hok (lp_of (l := [(8, (NodeT.summ ⟨strings_explode.sh8, strings_explode.os8, strings_explode.l8⟩ 0))]) ⟨(loop_sum strings_explode.hok (by kernel_rfl) (by kernel_rfl) (l := []) trivial strings_explode.sh8 strings_explode.os8 (by kernel_rfl) strings_explode.t8 strings_explode.t8_ok), trivial⟩) (fun _ => rfl) strings_explode.ok
abbrev strings_Index.As : Shs := (.cons (.x .s) (.cons (.x .s) .nil))
abbrev strings_Index.m : Back := [(false, (.i .i64))]
noncomputable abbrev strings_Index.H : HK := hk P G0 E0 J0 [] noLoops 4
theorem strings_Index.rows : TabOK P G0 (tabF []) := rows_ok (ws := []) trivial
theorem strings_Index.hok : HKOK P strings_Index.H := hk_ok e0_ok j0_ok strings_Index.rows (fun g n => noLoops_ok g n) 4
noncomputable def strings_Index.f (a : (ByteArray × ByteArray)) : Option Int := (bif ((a.2.size : Int) == (0 : Int)) then (some (0 : Int)) else (bif ((ByteArray.toList a.2) == (ByteArray.toList a.1)) then (some (0 : Int)) else (bif ((a.2.size : Int) == (1 : Int)) then (bif (true && (decide (((0 : Int) < (a.2.size : Int))))) then (some (Go.Lib.indexByte (Array.toList (ByteArray.data a.1)) (Nat.toUInt8 (Int.toNat (bt a.2 0))))) else none) else (bif (decide (((a.2.size : Int) ≥ (a.1.size : Int)))) then (some (-1 : Int)) else none))))
theorem strings_Index.ok : ∀ a : Vals strings_Index.As.tys, fnK P strings_Index.H (lp []) 63 strings_Index.As strings_Index.m a some = strings_Index.f a := fun a => by kernel_rfl
noncomputable abbrev strings_Index.row : Row := fnRow 63 strings_Index.As strings_Index.m strings_Index.f
theorem strings_Index.row_ok : RowOK P G0 strings_Index.row := row_told strings_Index.hok (lp_of (l := []) trivial) (fun _ => rfl) strings_Index.ok
abbrev strings_Count.As : Shs := (.cons (.x .s) (.cons (.x .s) .nil))
abbrev strings_Count.m : Back := [(false, (.i .i64))]
noncomputable abbrev strings_Count.H : HK := hk P G0 E0 J0 [strings_Index.row, utf8_RuneCountInString.row] noLoops 4
theorem strings_Count.rows : TabOK P G0 (tabF [strings_Index.row, utf8_RuneCountInString.row]) := rows_ok (ws := [strings_Index.row, utf8_RuneCountInString.row]) ⟨strings_Index.row_ok, ⟨utf8_RuneCountInString.row_ok, trivial⟩⟩
theorem strings_Count.hok : HKOK P strings_Count.H := hk_ok e0_ok j0_ok strings_Count.rows (fun g n => noLoops_ok g n) 4
noncomputable abbrev strings_Count.sh9 : SSh := ⟨[(0, (.x .s)), (1, (.x .s)), (5, (.x (.i .i64)))], []⟩
noncomputable abbrev strings_Count.os9 : PEnds := [(.ret, ⟨[(4, (.x (.i .i64)))], []⟩)]
noncomputable def strings_Count.t9 (s : (ByteArray × (ByteArray × Int))) : Option ((ByteArray × (ByteArray × Int)) ⊕ (Int)) := (((strings_Index.f (s.1, s.2.1))).bind fun x3 => (bif (x3 == (-1 : Int)) then (some (.inr s.2.2)) else (bif ((decide (((0 : Int) ≤ (IntKind.wrap .i64 (x3 + (s.2.1.size : Int)))))) && (decide (((IntKind.wrap .i64 (x3 + (s.2.1.size : Int))) ≤ (s.1.size : Int))))) then (some (.inl ((ByteArray.extract s.1 (Int.toNat (IntKind.wrap .i64 (x3 + (s.2.1.size : Int)))) s.1.size), (s.2.1, (IntKind.wrap .i64 (s.2.2 + (1 : Int))))))) else none)))
theorem strings_Count.t9_ok : ∀ s : Vals strings_Count.sh9.tys, turnK P strings_Count.H (lp []) (bodyAt (codeOf P 62) 9) 0 strings_Count.sh9 strings_Count.os9 s some = strings_Count.t9 s := fun s => by kernel_rfl
noncomputable def strings_Count.l9 : (ByteArray × (ByteArray × Int)) → Option (Int) := rounds strings_Count.t9
noncomputable def strings_Count.f (a : (ByteArray × ByteArray)) : Option Int := (bif ((a.2.size : Int) == (0 : Int)) then (((utf8_RuneCountInString.f a.1)).bind fun x2 => (some (IntKind.wrap .i64 (x2 + (1 : Int))))) else (bif ((a.2.size : Int) == (1 : Int)) then (bif (true && (decide (((0 : Int) < (a.2.size : Int))))) then (some ((Go.Lib.countByte (Array.toList (ByteArray.data a.1)) (Nat.toUInt8 (Int.toNat (bt a.2 0)))) : Int)) else none) else (((strings_Count.l9 (a.1, (a.2, (0 : Int))))).bind fun x2 => (some x2))))
theorem strings_Count.ok : ∀ a : Vals strings_Count.As.tys, fnK P strings_Count.H (lp [(9, (NodeT.summ ⟨strings_Count.sh9, strings_Count.os9, strings_Count.l9⟩ 0))]) 62 strings_Count.As strings_Count.m a some = strings_Count.f a := fun a => by kernel_rfl
noncomputable abbrev strings_Count.row : Row := fnRow 62 strings_Count.As strings_Count.m strings_Count.f
theorem strings_Count.row_ok : RowOK P G0 strings_Count.row := row_told strings_Count.hok (lp_of (l := [(9, (NodeT.summ ⟨strings_Count.sh9, strings_Count.os9, strings_Count.l9⟩ 0))]) ⟨(loop_sum strings_Count.hok (by kernel_rfl) (by kernel_rfl) (l := []) trivial strings_Count.sh9 strings_Count.os9 (by kernel_rfl) strings_Count.t9 strings_Count.t9_ok), trivial⟩) (fun _ => rfl) strings_Count.ok
abbrev strings_genSplit.As : Shs := (.cons (.x .s) (.cons (.x .s) (.cons (.x (.i .i64)) (.cons (.x (.i .i64)) .nil))))
abbrev strings_genSplit.m : Back := [(false, (.l .s))]
noncomputable abbrev strings_genSplit.H : HK := hk P G0 E0 J0 [strings_explode.row, strings_Count.row, strings_Index.row] noLoops 4
theorem strings_genSplit.rows : TabOK P G0 (tabF [strings_explode.row, strings_Count.row, strings_Index.row]) := rows_ok (ws := [strings_explode.row, strings_Count.row, strings_Index.row]) ⟨strings_explode.row_ok, ⟨strings_Count.row_ok, ⟨strings_Index.row_ok, trivial⟩⟩⟩
theorem strings_genSplit.hok : HKOK P strings_genSplit.H := hk_ok e0_ok j0_ok strings_genSplit.rows (fun g n => noLoops_ok g n) 4
noncomputable abbrev strings_genSplit.sh15 : SSh := ⟨[(0, (.x .s)), (1, (.x .s)), (2, (.x (.i .i64))), (3, (.x (.i .i64))), (9, (.own 0 1)), (10, (.x (.i .i64)))], [.arr .s]⟩
noncomputable abbrev strings_genSplit.os15 : PEnds := [((.exit 0), ⟨[(0, (.x .s)), (9, (.own 0 1)), (10, (.x (.i .i64)))], [.arr .s]⟩)]
noncomputable def strings_genSplit.t15 (s : (ByteArray × (ByteArray × (Int × (Int × (Int × (List ByteArray))))))) : Option ((ByteArray × (ByteArray × (Int × (Int × (Int × (List ByteArray)))))) ⊕ ((ByteArray × (Int × (List ByteArray))))) := (bif (decide ((s.2.2.2.2.1 < s.2.2.2.1))) then (((strings_Index.f (s.1, s.2.1))).bind fun x6 => (bif (decide ((x6 < (0 : Int)))) then (some (.inr (s.1, s.2.2.2.2))) else (bif ((decide (((0 : Int) ≤ (IntKind.wrap .i64 (x6 + s.2.2.1))))) && (decide (((IntKind.wrap .i64 (x6 + s.2.2.1)) ≤ (s.1.size : Int))))) then (bif ((decide (((0 : Int) ≤ s.2.2.2.2.1))) && (decide ((s.2.2.2.2.1 < ((List.length s.2.2.2.2.2) : Int))))) then (bif (true && (Nat.blt (0 + (Int.toNat s.2.2.2.2.1)) (List.length s.2.2.2.2.2))) then (bif ((decide (((0 : Int) ≤ (IntKind.wrap .i64 (x6 + (s.2.1.size : Int)))))) && (decide (((IntKind.wrap .i64 (x6 + (s.2.1.size : Int))) ≤ (s.1.size : Int))))) then (some (.inl ((ByteArray.extract s.1 (Int.toNat (IntKind.wrap .i64 (x6 + (s.2.1.size : Int)))) s.1.size), (s.2.1, (s.2.2.1, (s.2.2.2.1, ((IntKind.wrap .i64 (s.2.2.2.2.1 + (1 : Int))), (List.set s.2.2.2.2.2 (0 + (Int.toNat s.2.2.2.2.1)) (ByteArray.extract s.1 0 (Int.toNat (IntKind.wrap .i64 (x6 + s.2.2.1)))))))))))) else none) else none) else none) else none))) else (some (.inr (s.1, s.2.2.2.2))))
theorem strings_genSplit.t15_ok : ∀ s : Vals strings_genSplit.sh15.tys, turnK P strings_genSplit.H (lp []) (bodyAt (codeOf P 48) 15) 0 strings_genSplit.sh15 strings_genSplit.os15 s some = strings_genSplit.t15 s := fun s => by kernel_rfl
noncomputable def strings_genSplit.l15 : (ByteArray × (ByteArray × (Int × (Int × (Int × (List ByteArray)))))) → Option ((ByteArray × (Int × (List ByteArray)))) := rounds strings_genSplit.t15
noncomputable def strings_genSplit.f (a : (ByteArray × (ByteArray × (Int × Int)))) : Option (List ByteArray) := (bif (a.2.2.2 == (0 : Int)) then (some []) else (bif ((ByteArray.toList a.2.1) == []) then (((strings_explode.f (a.1, a.2.2.2))).bind fun x4 => (some x4)) else (bif (decide ((a.2.2.2 < (0 : Int)))) then (((strings_Count.f (a.1, a.2.1))).bind fun x4 => (bif (decide (((IntKind.wrap .i64 ((a.1.size : Int) + (1 : Int))) < (IntKind.wrap .i64 (x4 + (1 : Int)))))) then (bif ((((((decide (((0 : Int) ≤ (IntKind.wrap .i64 ((a.1.size : Int) + (1 : Int)))))) && (decide (((IntKind.wrap .i64 ((a.1.size : Int) + (1 : Int))) ≤ (IntKind.wrap .i64 ((a.1.size : Int) + (1 : Int))))))) && (decide ((((16 : Int) * (IntKind.wrap .i64 ((a.1.size : Int) + (1 : Int)))) ≤ (140737488355328 : Int))))) && (decide (((IntKind.wrap .i64 ((a.1.size : Int) + (1 : Int))) ≤ (140737488355328 : Int))))) && true) && true) then (((strings_genSplit.l15 (a.1, (a.2.1, (a.2.2.1, ((IntKind.wrap .i64 ((IntKind.wrap .i64 ((a.1.size : Int) + (1 : Int))) - (1 : Int))), ((0 : Int), (List.replicate (Int.toNat (IntKind.wrap .i64 ((a.1.size : Int) + (1 : Int)))) (bs []))))))))).bind fun x5 => (bif ((decide (((0 : Int) ≤ x5.2.1))) && (decide ((x5.2.1 < ((List.length x5.2.2) : Int))))) then (bif (true && (Nat.blt (0 + (Int.toNat x5.2.1)) (List.length x5.2.2))) then (bif ((decide (((0 : Int) ≤ (IntKind.wrap .i64 (x5.2.1 + (1 : Int)))))) && (decide (((IntKind.wrap .i64 (x5.2.1 + (1 : Int))) ≤ ((List.length (List.set x5.2.2 (0 + (Int.toNat x5.2.1)) x5.1)) : Int))))) then (bif (true && (Nat.ble ((Int.toNat (IntKind.wrap .i64 (x5.2.1 + (1 : Int)))) - 0) (List.length (List.set x5.2.2 (0 + (Int.toNat x5.2.1)) x5.1)))) then (some (List.take ((Int.toNat (IntKind.wrap .i64 (x5.2.1 + (1 : Int)))) - 0) (List.drop 0 (List.set x5.2.2 (0 + (Int.toNat x5.2.1)) x5.1)))) else none) else none) else none) else none)) else none) else (bif ((((((decide (((0 : Int) ≤ (IntKind.wrap .i64 (x4 + (1 : Int)))))) && (decide (((IntKind.wrap .i64 (x4 + (1 : Int))) ≤ (IntKind.wrap .i64 (x4 + (1 : Int))))))) && (decide ((((16 : Int) * (IntKind.wrap .i64 (x4 + (1 : Int)))) ≤ (140737488355328 : Int))))) && (decide (((IntKind.wrap .i64 (x4 + (1 : Int))) ≤ (140737488355328 : Int))))) && true) && true) then (((strings_genSplit.l15 (a.1, (a.2.1, (a.2.2.1, ((IntKind.wrap .i64 ((IntKind.wrap .i64 (x4 + (1 : Int))) - (1 : Int))), ((0 : Int), (List.replicate (Int.toNat (IntKind.wrap .i64 (x4 + (1 : Int)))) (bs []))))))))).bind fun x5 => (bif ((decide (((0 : Int) ≤ x5.2.1))) && (decide ((x5.2.1 < ((List.length x5.2.2) : Int))))) then (bif (true && (Nat.blt (0 + (Int.toNat x5.2.1)) (List.length x5.2.2))) then (bif ((decide (((0 : Int) ≤ (IntKind.wrap .i64 (x5.2.1 + (1 : Int)))))) && (decide (((IntKind.wrap .i64 (x5.2.1 + (1 : Int))) ≤ ((List.length (List.set x5.2.2 (0 + (Int.toNat x5.2.1)) x5.1)) : Int))))) then (bif (true && (Nat.ble ((Int.toNat (IntKind.wrap .i64 (x5.2.1 + (1 : Int)))) - 0) (List.length (List.set x5.2.2 (0 + (Int.toNat x5.2.1)) x5.1)))) then (some (List.take ((Int.toNat (IntKind.wrap .i64 (x5.2.1 + (1 : Int)))) - 0) (List.drop 0 (List.set x5.2.2 (0 + (Int.toNat x5.2.1)) x5.1)))) else none) else none) else none) else none)) else none))) else (bif (decide (((IntKind.wrap .i64 ((a.1.size : Int) + (1 : Int))) < a.2.2.2))) then (bif ((((((decide (((0 : Int) ≤ (IntKind.wrap .i64 ((a.1.size : Int) + (1 : Int)))))) && (decide (((IntKind.wrap .i64 ((a.1.size : Int) + (1 : Int))) ≤ (IntKind.wrap .i64 ((a.1.size : Int) + (1 : Int))))))) && (decide ((((16 : Int) * (IntKind.wrap .i64 ((a.1.size : Int) + (1 : Int)))) ≤ (140737488355328 : Int))))) && (decide (((IntKind.wrap .i64 ((a.1.size : Int) + (1 : Int))) ≤ (140737488355328 : Int))))) && true) && true) then (((strings_genSplit.l15 (a.1, (a.2.1, (a.2.2.1, ((IntKind.wrap .i64 ((IntKind.wrap .i64 ((a.1.size : Int) + (1 : Int))) - (1 : Int))), ((0 : Int), (List.replicate (Int.toNat (IntKind.wrap .i64 ((a.1.size : Int) + (1 : Int)))) (bs []))))))))).bind fun x4 => (bif ((decide (((0 : Int) ≤ x4.2.1))) && (decide ((x4.2.1 < ((List.length x4.2.2) : Int))))) then (bif (true && (Nat.blt (0 + (Int.toNat x4.2.1)) (List.length x4.2.2))) then (bif ((decide (((0 : Int) ≤ (IntKind.wrap .i64 (x4.2.1 + (1 : Int)))))) && (decide (((IntKind.wrap .i64 (x4.2.1 + (1 : Int))) ≤ ((List.length (List.set x4.2.2 (0 + (Int.toNat x4.2.1)) x4.1)) : Int))))) then (bif (true && (Nat.ble ((Int.toNat (IntKind.wrap .i64 (x4.2.1 + (1 : Int)))) - 0) (List.length (List.set x4.2.2 (0 + (Int.toNat x4.2.1)) x4.1)))) then (some (List.take ((Int.toNat (IntKind.wrap .i64 (x4.2.1 + (1 : Int)))) - 0) (List.drop 0 (List.set x4.2.2 (0 + (Int.toNat x4.2.1)) x4.1)))) else none) else none) else none) else none)) else none) else (bif ((((((decide (((0 : Int) ≤ a.2.2.2))) && (decide ((a.2.2.2 ≤ a.2.2.2)))) && (decide ((((16 : Int) * a.2.2.2) ≤ (140737488355328 : Int))))) && (decide ((a.2.2.2 ≤ (140737488355328 : Int))))) && true) && true) then (((strings_genSplit.l15 (a.1, (a.2.1, (a.2.2.1, ((IntKind.wrap .i64 (a.2.2.2 - (1 : Int))), ((0 : Int), (List.replicate (Int.toNat a.2.2.2) (bs []))))))))).bind fun x4 => (bif ((decide (((0 : Int) ≤ x4.2.1))) && (decide ((x4.2.1 < ((List.length x4.2.2) : Int))))) then (bif (true && (Nat.blt (0 + (Int.toNat x4.2.1)) (List.length x4.2.2))) then (bif ((decide (((0 : Int) ≤ (IntKind.wrap .i64 (x4.2.1 + (1 : Int)))))) && (decide (((IntKind.wrap .i64 (x4.2.1 + (1 : Int))) ≤ ((List.length (List.set x4.2.2 (0 + (Int.toNat x4.2.1)) x4.1)) : Int))))) then (bif (true && (Nat.ble ((Int.toNat (IntKind.wrap .i64 (x4.2.1 + (1 : Int)))) - 0) (List.length (List.set x4.2.2 (0 + (Int.toNat x4.2.1)) x4.1)))) then (some (List.take ((Int.toNat (IntKind.wrap .i64 (x4.2.1 + (1 : Int)))) - 0) (List.drop 0 (List.set x4.2.2 (0 + (Int.toNat x4.2.1)) x4.1)))) else none) else none) else none) else none)) else none)))))
theorem strings_genSplit.ok : ∀ a : Vals strings_genSplit.As.tys, fnK P strings_genSplit.H (lp [(15, (NodeT.summ ⟨strings_genSplit.sh15, strings_genSplit.os15, strings_genSplit.l15⟩ 0))]) 48 strings_genSplit.As strings_genSplit.m a some = strings_genSplit.f a := fun a => by kernel_rfl
noncomputable abbrev strings_genSplit.row : Row := fnRow 48 strings_genSplit.As strings_genSplit.m strings_genSplit.f
theorem strings_genSplit.row_ok : RowOK P G0 strings_genSplit.row := row_told strings_genSplit.hok (lp_of (l := [(15, (NodeT.summ ⟨strings_genSplit.sh15, strings_genSplit.os15, strings_genSplit.l15⟩ 0))]) ⟨(loop_sum strings_genSplit.hok (by kernel_rfl) (by kernel_rfl) (l := []) trivial strings_genSplit.sh15 strings_genSplit.os15 (by kernel_rfl) strings_genSplit.t15 strings_genSplit.t15_ok), trivial⟩) (fun _ => rfl) strings_genSplit.ok
abbrev strings_Split.As : Shs := (.cons (.x .s) (.cons (.x .s) .nil))
abbrev strings_Split.m : Back := [(false, (.l .s))]
noncomputable abbrev strings_Split.H : HK := hk P G0 E0 J0 [strings_genSplit.row] noLoops 4
theorem strings_Split.rows : TabOK P G0 (tabF [strings_genSplit.row]) := rows_ok (ws := [strings_genSplit.row]) ⟨strings_genSplit.row_ok, trivial⟩
theorem strings_Split.hok : HKOK P strings_Split.H := hk_ok e0_ok j0_ok strings_Split.rows (fun g n => noLoops_ok g n) 4
noncomputable def strings_Split.f (a : (ByteArray × ByteArray)) : Option (List ByteArray) := (((strings_genSplit.f (a.1, (a.2, ((0 : Int), (-1 : Int)))))).bind fun x2 => (some x2))
theorem strings_Split.ok : ∀ a : Vals strings_Split.As.tys, fnK P strings_Split.H (lp []) 24 strings_Split.As strings_Split.m a some = strings_Split.f a := fun a => by kernel_rfl
noncomputable abbrev strings_Split.row : Row := fnRow 24 strings_Split.As strings_Split.m strings_Split.f
theorem strings_Split.row_ok : RowOK P G0 strings_Split.row := row_told strings_Split.hok (lp_of (l := []) trivial) (fun _ => rfl) strings_Split.ok
abbrev bursarref12_cut.As : Shs := (.cons (.x .s) (.cons (.x (.i .u8)) .nil))
abbrev bursarref12_cut.m : Back := [(false, (.l .s))]
noncomputable abbrev bursarref12_cut.H : HK := hk P G0 E0 J0 [] noLoops 4
theorem bursarref12_cut.rows : TabOK P G0 (tabF []) := rows_ok (ws := []) trivial
theorem bursarref12_cut.hok : HKOK P bursarref12_cut.H := hk_ok e0_ok j0_ok bursarref12_cut.rows (fun g n => noLoops_ok g n) 4
noncomputable abbrev bursarref12_cut.sh4 : SSh := ⟨[(0, (.x .s)), (1, (.x (.i .u8))), (5, (.own 0 1)), (6, (.x (.i .i64)))], [.arr .s]⟩
noncomputable abbrev bursarref12_cut.os4 : PEnds := [((.exit 0), ⟨[(5, (.x (.l .s)))], []⟩)]
noncomputable def bursarref12_cut.t4 (s : (ByteArray × (Int × (Int × (List ByteArray))))) : Option ((ByteArray × (Int × (Int × (List ByteArray)))) ⊕ ((List ByteArray))) := (bif (decide ((s.2.2.1 < (s.1.size : Int)))) then (bif ((decide (((0 : Int) ≤ s.2.2.1))) && (decide ((s.2.2.1 < (s.1.size : Int))))) then (bif ((bt s.1 (Int.toNat s.2.2.1)) == s.2.1) then (bif ((true && (Nat.ble (((List.length s.2.2.2) + 1) * 16) 140737488355328)) && (Nat.ble ((List.length s.2.2.2) + 1) 140737488355328)) then (some (.inl (s.1, (s.2.1, ((IntKind.wrap .i64 (s.2.2.1 + (1 : Int))), (s.2.2.2 ++ [(bs [])])))))) else none) else (bif ((decide (((0 : Int) ≤ (IntKind.wrap .i64 (((List.length s.2.2.2) : Int) - (1 : Int)))))) && (decide (((IntKind.wrap .i64 (((List.length s.2.2.2) : Int) - (1 : Int))) < ((List.length s.2.2.2) : Int))))) then (bif (true && (Nat.blt (0 + (Int.toNat (IntKind.wrap .i64 (((List.length s.2.2.2) : Int) - (1 : Int))))) (List.length s.2.2.2))) then (bif ((decide (((0 : Int) ≤ (IntKind.wrap .i64 (s.2.2.1 + (1 : Int)))))) && (decide (((IntKind.wrap .i64 (s.2.2.1 + (1 : Int))) ≤ (s.1.size : Int))))) then (bif ((decide (((0 : Int) ≤ s.2.2.1))) && (decide ((s.2.2.1 ≤ ((Int.toNat (IntKind.wrap .i64 (s.2.2.1 + (1 : Int)))) : Int))))) then (bif (Nat.ble ((List.getD s.2.2.2 (0 + (Int.toNat (IntKind.wrap .i64 (((List.length s.2.2.2) : Int) - (1 : Int))))) (bs [])).size + (ByteArray.extract s.1 (Int.toNat s.2.2.1) (Int.toNat (IntKind.wrap .i64 (s.2.2.1 + (1 : Int))))).size) 9223372036854775807) then (bif ((decide (((0 : Int) ≤ (IntKind.wrap .i64 (((List.length s.2.2.2) : Int) - (1 : Int)))))) && (decide (((IntKind.wrap .i64 (((List.length s.2.2.2) : Int) - (1 : Int))) < ((List.length s.2.2.2) : Int))))) then (bif (true && (Nat.blt (0 + (Int.toNat (IntKind.wrap .i64 (((List.length s.2.2.2) : Int) - (1 : Int))))) (List.length s.2.2.2))) then (some (.inl (s.1, (s.2.1, ((IntKind.wrap .i64 (s.2.2.1 + (1 : Int))), (List.set s.2.2.2 (0 + (Int.toNat (IntKind.wrap .i64 (((List.length s.2.2.2) : Int) - (1 : Int))))) ((List.getD s.2.2.2 (0 + (Int.toNat (IntKind.wrap .i64 (((List.length s.2.2.2) : Int) - (1 : Int))))) (bs [])) ++ (ByteArray.extract s.1 (Int.toNat s.2.2.1) (Int.toNat (IntKind.wrap .i64 (s.2.2.1 + (1 : Int)))))))))))) else none) else none) else none) else none) else none) else none) else none)) else none) else (some (.inr s.2.2.2)))
theorem bursarref12_cut.t4_ok : ∀ s : Vals bursarref12_cut.sh4.tys, turnK P bursarref12_cut.H (lp []) (bodyAt (codeOf P 29) 4) 0 bursarref12_cut.sh4 bursarref12_cut.os4 s some = bursarref12_cut.t4 s := fun s => by kernel_rfl
noncomputable def bursarref12_cut.l4 : (ByteArray × (Int × (Int × (List ByteArray)))) → Option ((List ByteArray)) := rounds bursarref12_cut.t4
noncomputable def bursarref12_cut.f (a : (ByteArray × Int)) : Option (List ByteArray) := (((bursarref12_cut.l4 (a.1, (a.2, ((0 : Int), [(bs [])]))))).bind fun x2 => (some x2))
theorem bursarref12_cut.ok : ∀ a : Vals bursarref12_cut.As.tys, fnK P bursarref12_cut.H (lp [(4, (NodeT.summ ⟨bursarref12_cut.sh4, bursarref12_cut.os4, bursarref12_cut.l4⟩ 0))]) 29 bursarref12_cut.As bursarref12_cut.m a some = bursarref12_cut.f a := fun a => by kernel_rfl
noncomputable abbrev bursarref12_cut.row : Row := fnRow 29 bursarref12_cut.As bursarref12_cut.m bursarref12_cut.f
theorem bursarref12_cut.row_ok : RowOK P G0 bursarref12_cut.row := row_told bursarref12_cut.hok (lp_of (l := [(4, (NodeT.summ ⟨bursarref12_cut.sh4, bursarref12_cut.os4, bursarref12_cut.l4⟩ 0))]) ⟨(loop_sum bursarref12_cut.hok (by kernel_rfl) (by kernel_rfl) (l := []) trivial bursarref12_cut.sh4 bursarref12_cut.os4 (by kernel_rfl) bursarref12_cut.t4 bursarref12_cut.t4_ok), trivial⟩) (fun _ => rfl) bursarref12_cut.ok
end Go.Proofs.YtcadnpdhiolmfaaDoor
end
section
set_option linter.unusedVariables false
set_option linter.unusedSimpArgs false
namespace Go.Proofs.YtcadnpdhiolmfaaDoor
open Go Go.Fw
theorem byte_eq (a c : UInt8) : (((a.toNat : Nat) : Int) == ((c.toNat : Nat) : Int)) = (a == c) := by
  rw [Bool.eq_iff_iff, beq_iff_eq, beq_iff_eq]
  constructor
  · intro h; exact UInt8.toNat.inj (by omega)
  · rintro rfl; rfl
theorem set_last {α : Type} (a : List α) (b x : α) : (a ++ [b]).set a.length x = a ++ [x] := by
  rw [List.set_append, if_neg (by omega), Nat.sub_self]; rfl
theorem get_last {α : Type} (a : List α) (b d : α) : (a ++ [b]).getD a.length d = b := by
  simp [List.getD_eq_getElem?_getD]
def cutAt (c : UInt8) (l : List UInt8) (i : Nat) : List (List UInt8) × List UInt8 := (l.take i).foldl (stepL c) ([], [])
theorem cutAt_up (c : UInt8) (l : List UInt8) {i : Nat} (h : i < l.length) : cutAt c l (i + 1) = stepL c (cutAt c l i) (l.getD i 0) := by
  unfold cutAt
  rw [take_up 0 h, List.foldl_append]; rfl
theorem cutAt_len (c : UInt8) (l : List UInt8) : ∀ i, i ≤ l.length → (cutAt c l i).1.length ≤ i ∧ (cutAt c l i).2.length ≤ i
  | 0, _ => by simp [cutAt]
  | i + 1, h => by
    obtain ⟨h1, h2⟩ := cutAt_len c l i (by omega)
    rw [cutAt_up c l (by omega)]
    obtain ⟨p, hp⟩ : ∃ p, cutAt c l i = p := ⟨_, rfl⟩
    rw [hp] at h1 h2 ⊢
    obtain ⟨a, b⟩ := p
    have h1 : a.length ≤ i := h1
    have h2 : b.length ≤ i := h2
    cases hc : (l.getD i 0 == c)
    · rw [stepL_no hc]
      exact ⟨by show a.length ≤ i + 1; omega, by show (b ++ [_]).length ≤ i + 1; simp; omega⟩
    · rw [stepL_yes hc]
      exact ⟨by show (a ++ [b]).length ≤ i + 1; simp; omega, by simp⟩
theorem cut_parts (c : UInt8) (l : List UInt8) : (cutAt c l l.length).1 ++ [(cutAt c l l.length).2] = splitL c l := by
  unfold cutAt
  rw [List.take_length, fold_split]
  obtain ⟨w, ws, h⟩ := splitL_cons c l
  rw [h]; simp
theorem cut_is {l : List UInt8} (hl : l.length ≤ 1000) (c : UInt8) : bursarref12_cut.f (bs l, ((c.toNat : Nat) : Int)) = some ((splitL c l).map bs) := by
  have hr := rounds_to (t := bursarref12_cut.t4) (fun i => (bs l, ((c.toNat : Nat) : Int), ((i : Nat) : Int), ((cutAt c l i).1.map bs ++ [bs (cutAt c l i).2]))) l.length (fun i hi => by
    obtain ⟨h1, h2⟩ := cutAt_len c l i (by omega)
    rw [cutAt_up c l hi]
    obtain ⟨x, hx⟩ : ∃ x, l.getD i 0 = x := ⟨_, rfl⟩
    rw [hx]
    have hb : bt (bs l) i = ((x.toNat : Nat) : Int) := by rw [bt_bs, hx]
    have he : ByteArray.extract (bs l) i (i + 1) = bs [x] := by
      rw [bs_extract, take_up 0 hi, hx, List.drop_append_of_le_length (by simp; omega), List.drop_of_length_le (by simp; omega)]; rfl
    obtain ⟨p, hp⟩ : ∃ p, cutAt c l i = p := ⟨_, rfl⟩
    rw [hp] at h1 h2 ⊢
    obtain ⟨a, b⟩ := p
    have h1 : a.length ≤ i := h1
    have h2 : b.length ≤ i := h2
    have hl1 : (a.map bs ++ [bs b]).length = a.length + 1 := by simp
    have hw1 : IntKind.wrap .i64 (((a.length + 1 : Nat) : Int) - 1) = ((a.length : Nat) : Int) := by rw [wrap_i64 (by omega) (by omega)]; omega
    have hg : (a.map bs ++ [bs b]).getD a.length (bs []) = bs b := by
      have := get_last (a.map bs) (bs b) (bs []); rwa [List.length_map] at this
    have hs : ∀ y, (a.map bs ++ [bs b]).set a.length y = a.map bs ++ [y] := fun y => by
      have := set_last (a.map bs) (bs b) y; rwa [List.length_map] at this
    have hlt : Nat.blt a.length (a.length + 1) = true := by rw [Nat.blt_eq]; omega
    have hin : decide (((i : Nat) : Int) < ((l.length : Nat) : Int)) = true := decide_eq_true (by omega)
    have hin2 : decide (((i + 1 : Nat) : Int) ≤ ((l.length : Nat) : Int)) = true := decide_eq_true (by omega)
    have hin3 : decide (((i : Nat) : Int) ≤ ((i + 1 : Nat) : Int)) = true := decide_eq_true (by omega)
    have hal : decide (((a.length : Nat) : Int) < ((a.length + 1 : Nat) : Int)) = true := decide_eq_true (by omega)
    simp only [bursarref12_cut.t4, bs_size, hin, cond_true, ge0' i, Bool.and_self, Int.toNat_natCast, hb, byte_eq, wrap_up (show i < 9223372036854775807 by omega), hl1, hw1, ge0' a.length, hal, Nat.zero_add, hlt, hin2, hin3, ge0' (i + 1), hg, hs, he, bs_size, bs_append, List.length_singleton,
      Nat.ble_eq_true_of_le (show (a.length + 1 + 1) * 16 ≤ 140737488355328 by omega), Nat.ble_eq_true_of_le (show a.length + 1 + 1 ≤ 140737488355328 by omega), Nat.ble_eq_true_of_le (show b.length + 1 ≤ 9223372036854775807 by omega)]
    cases hc : x == c
    · rw [stepL_no hc]; rfl
    · rw [stepL_yes hc]
      simp only [cond_true, List.map_append, List.map_cons, List.map_nil])
  have h0 : bursarref12_cut.l4 (bs l, ((c.toNat : Nat) : Int), (0 : Int), [bs []]) = some ((splitL c l).map bs) := by
    have e : bursarref12_cut.l4 (bs l, ((c.toNat : Nat) : Int), (0 : Int), [bs []]) = _ := hr
    rw [e, rounds_end (r := (splitL c l).map bs)]
    have hout : decide (((l.length : Nat) : Int) < ((bs l).size : Int)) = false := decide_eq_false (by rw [bs_size]; omega)
    simp only [bursarref12_cut.t4, hout, cond_false]
    rw [← cut_parts c l, List.map_append]; rfl
  unfold bursarref12_cut.f
  simp only [h0, Option.bind_some]
theorem countByte_is (c : UInt8) : ∀ l : List UInt8, Go.Lib.countByte l c = cntL c l
  | [] => rfl
  | x :: l => by
    have ih := countByte_is c l
    unfold Go.Lib.countByte at ih ⊢
    rw [List.count_cons, ih, cntL]
    cases x == c <;> simp <;> omega
theorem byte_back (c : UInt8) : Nat.toUInt8 (Int.toNat (bt (bs [c]) 0)) = c := by
  rw [bt_bs]
  show Nat.toUInt8 (Int.toNat ((c.toNat : Nat) : Int)) = c
  rw [Int.toNat_natCast]
  exact UInt8.toNat.inj (by simp)
theorem index_one {r : List UInt8} {c : UInt8} (h : 0 < cntL c r) : strings_Index.f (bs r, bs [c]) = some (Go.Lib.indexByte r c) := by
  unfold strings_Index.f
  have e1 : (((bs [c]).size : Int) == 0) = false := rfl
  have e2 : (((bs [c]).size : Int) == 1) = true := rfl
  have e3 : decide ((0 : Int) < ((bs [c]).size : Int)) = true := rfl
  simp only [e1, e2, e3, cond_false, cond_true, Bool.and_self, byte_back, texts_eq]
  by_cases he : bs [c] = bs r
  · have := bs_inj.1 he
    subst this
    rw [decide_eq_true rfl]
    simp [Go.Lib.indexByte]
  · rw [decide_eq_false he]
    simp only [cond_false]
    rw [show Array.toList (ByteArray.data (bs r)) = r from bs_list r]
theorem split_loop (c : UInt8) : ∀ (k : Nat) (r : List UInt8) (i : Nat) (D : List ByteArray), cntL c r = k → D.length = i → r.length ≤ 1000 → i + k ≤ 1000 →
    ∃ E q, splitL c r = E ++ [q] ∧ E.length = k ∧ strings_genSplit.l15 (bs r, bs [c], (0 : Int), ((i + k : Nat) : Int), ((i : Nat) : Int), D ++ List.replicate (k + 1) (bs [])) = some (bs q, ((i + k : Nat) : Int), D ++ E.map bs ++ [bs []])
  | 0, r, i, D, hk, hD, hr, hik => by
    refine ⟨[], r, splitL_one c r (no_of_zero c r hk), rfl, ?_⟩
    unfold strings_genSplit.l15
    rw [rounds_end (r := (bs r, ((i + 0 : Nat) : Int), D ++ List.map bs [] ++ [bs []]))]
    simp only [strings_genSplit.t15, Nat.add_zero, outb, cond_false]
    simp
  | k + 1, r, i, D, hk, hD, hr, hik => by
    obtain ⟨w, t, rfl, hw, hc⟩ := first_at c r (by omega)
    have hlen : (w ++ c :: t).length = w.length + 1 + t.length := by simp; omega
    obtain ⟨E, q, h1, h2, h3⟩ := split_loop c k t (i + 1) (D ++ [bs w]) (by omega) (by simp [hD]) (by omega) (by omega)
    refine ⟨w :: E, q, by rw [splitL_sep c w t hw, h1]; rfl, by simp [h2], ?_⟩
    have hi := index_one (r := w ++ c :: t) (c := c) (by omega)
    rw [indexByte_skip c w t hw] at hi
    have e1 : ByteArray.extract (bs (w ++ c :: t)) 0 w.length = bs w := by rw [bs_extract]; simp
    have e2 : ByteArray.extract (bs (w ++ c :: t)) (w.length + 1) (bs (w ++ c :: t)).size = bs t := by
      rw [bs_extract, bs_size, List.take_length]
      congr 1
      rw [show w ++ c :: t = (w ++ [c]) ++ t by simp, List.drop_append_of_le_length (by simp)]
      simp
    have w1 : IntKind.wrap .i64 (((w.length : Nat) : Int) + 0) = ((w.length : Nat) : Int) := by rw [wrap_i64 (by omega) (by omega)]; omega
    have w2 : IntKind.wrap .i64 (((w.length : Nat) : Int) + ((bs [c]).size : Int)) = ((w.length + 1 : Nat) : Int) := by
      rw [show ((bs [c]).size : Int) = 1 from rfl, wrap_i64 (by omega) (by omega)]; omega
    have hL : (D ++ List.replicate (k + 1 + 1) (bs [])).length = i + (k + 1 + 1) := by simp [hD]
    have hs : (D ++ List.replicate (k + 1 + 1) (bs [])).set i (bs w) = (D ++ [bs w]) ++ List.replicate (k + 1) (bs []) := by
      rw [List.set_append, if_neg (by omega), hD, Nat.sub_self, List.replicate_succ]; simp
    have d1 : decide (((i : Nat) : Int) < ((i + (k + 1) : Nat) : Int)) = true := decide_eq_true (by omega)
    have d2 : decide (((w.length : Nat) : Int) < 0) = false := decide_eq_false (by omega)
    have d3 : decide (((w.length : Nat) : Int) ≤ ((bs (w ++ c :: t)).size : Int)) = true := decide_eq_true (by rw [bs_size, hlen]; omega)
    have d4 : decide (((i : Nat) : Int) < ((i + (k + 1 + 1) : Nat) : Int)) = true := decide_eq_true (by omega)
    have d5 : Nat.blt i (i + (k + 1 + 1)) = true := by rw [Nat.blt_eq]; omega
    have d6 : decide (((w.length + 1 : Nat) : Int) ≤ ((bs (w ++ c :: t)).size : Int)) = true := decide_eq_true (by rw [bs_size, hlen]; omega)
    unfold strings_genSplit.l15 at h3 ⊢
    rw [rounds_next (s' := (bs t, bs [c], (0 : Int), ((i + (k + 1) : Nat) : Int), ((i + 1 : Nat) : Int), (D ++ [bs w]) ++ List.replicate (k + 1) (bs [])))]
    · rw [show ((i + (k + 1) : Nat) : Int) = ((i + 1 + k : Nat) : Int) by omega, h3]
      simp
    · simp only [strings_genSplit.t15, d1, cond_true, hi, Option.bind_some, d2, cond_false, w1, ge0' w.length, d3, Bool.and_self, ge0' i, hL, d4, Int.toNat_natCast, Nat.zero_add, d5, w2, ge0' (w.length + 1), d6, e1, e2, hs, wrap_up (show i < 9223372036854775807 by omega)]
theorem Split_is {l : List UInt8} (hl : l.length ≤ 900) (c : UInt8) : strings_Split.f (bs l, bs [c]) = some ((splitL c l).map bs) := by
  obtain ⟨E, q, h1, h2, h3⟩ := split_loop c (cntL c l) l 0 [] rfl rfl (by omega) (by have := cntL_le c l; omega)
  have hn := cntL_le c l
  have hcnt : strings_Count.f (bs l, bs [c]) = some ((cntL c l : Nat) : Int) := by
    unfold strings_Count.f
    have e1 : (((bs [c]).size : Int) == 0) = false := rfl
    have e2 : (((bs [c]).size : Int) == 1) = true := rfl
    have e3 : decide ((0 : Int) < ((bs [c]).size : Int)) = true := rfl
    simp only [e1, e2, e3, cond_false, cond_true, Bool.and_self, byte_back]
    rw [show Array.toList (ByteArray.data (bs l)) = l from bs_list l, countByte_is]
  obtain ⟨n, hc⟩ : ∃ n, cntL c l = n := ⟨_, rfl⟩
  rw [hc] at hcnt hn h2 h3
  rw [Nat.zero_add, List.nil_append] at h3
  have w1 : IntKind.wrap .i64 (((bs l).size : Int) + 1) = ((l.length + 1 : Nat) : Int) := by rw [bs_size, wrap_i64 (by omega) (by omega)]; omega
  have w2 : IntKind.wrap .i64 (((n : Nat) : Int) + 1) = ((n + 1 : Nat) : Int) := wrap_up (by omega)
  have w3 : IntKind.wrap .i64 (((n + 1 : Nat) : Int) - 1) = ((n : Nat) : Int) := by rw [wrap_i64 (by omega) (by omega)]; omega
  have d1 : decide (((l.length + 1 : Nat) : Int) < ((n + 1 : Nat) : Int)) = false := decide_eq_false (by omega)
  have d2 : decide ((0 : Int) ≤ ((n + 1 : Nat) : Int)) = true := decide_eq_true (by omega)
  have d3 : decide (((n + 1 : Nat) : Int) ≤ ((n + 1 : Nat) : Int)) = true := decide_eq_true (by omega)
  have d4 : decide ((16 : Int) * ((n + 1 : Nat) : Int) ≤ 140737488355328) = true := decide_eq_true (by omega)
  have d5 : decide (((n + 1 : Nat) : Int) ≤ 140737488355328) = true := decide_eq_true (by omega)
  have h3' : strings_genSplit.l15 (bs l, bs [c], (0 : Int), ((n : Nat) : Int), (0 : Int), List.replicate (n + 1) (bs [])) = some (bs q, ((n : Nat) : Int), [] ++ E.map bs ++ [bs []]) := h3
  have hL : ([] ++ E.map bs ++ [bs []]).length = n + 1 := by simp [h2]
  have d6 : decide (((n : Nat) : Int) < ((n + 1 : Nat) : Int)) = true := decide_eq_true (by omega)
  have d7 : Nat.blt n (n + 1) = true := by rw [Nat.blt_eq]; omega
  have hs : ([] ++ E.map bs ++ [bs []]).set n (bs q) = E.map bs ++ [bs q] := by
    have := set_last (E.map bs) (bs []) (bs q)
    rw [List.length_map, h2] at this
    simpa using this
  have hL2 : (E.map bs ++ [bs q]).length = n + 1 := by simp [h2]
  have ht : List.take (n + 1 - 0) (List.drop 0 (E.map bs ++ [bs q])) = E.map bs ++ [bs q] := by
    rw [Nat.sub_zero, List.drop_zero, List.take_of_length_le (by omega)]
  have d8 : Nat.ble (n + 1 - 0) (n + 1) = true := Nat.ble_eq_true_of_le (by omega)
  unfold strings_Split.f strings_genSplit.f
  have e0 : ((-1 : Int) == 0) = false := rfl
  have e1 : (ByteArray.toList (bs [c]) == []) = false := by rw [texts_nil]; exact decide_eq_false fun e => by simpa using bs_inj.1 e
  have e2 : decide ((-1 : Int) < 0) = true := rfl
  simp only [e0, e1, e2, cond_false, cond_true, hcnt, Option.bind_some, w1, w2, w3, d1, d2, d3, d4, d5, Bool.and_self, Int.toNat_natCast, h3', ge0' n, hL, d6, Nat.zero_add, d7, hs, hL2, ht, d8]
  rw [h1, List.map_append]; rfl
end Go.Proofs.YtcadnpdhiolmfaaDoor
end
section
set_option linter.unusedVariables false
set_option maxRecDepth 100000
namespace Go.Proofs.YtcadnpdhiolmfaaDoor
open Go Go.Fw
abbrev digit_All.As : Shs := (.cons (.x .s) .nil)
abbrev digit_All.m : Back := [(false, .b)]
noncomputable abbrev digit_All.H : HK := hk P G0 E0 J0 [] noLoops 4
theorem digit_All.rows : TabOK P G0 (tabF []) := rows_ok (ws := []) trivial
theorem digit_All.hok : HKOK P digit_All.H := hk_ok e0_ok j0_ok digit_All.rows (fun g n => noLoops_ok g n) 4
noncomputable abbrev digit_All.sh3 : SSh := ⟨[(0, (.x .s)), (5, (.x (.i .i64))), (6, (.x (.i .i64)))], []⟩
noncomputable abbrev digit_All.os3 : PEnds := [(.ret, ⟨[(2, (.x .b))], []⟩), ((.exit 0), ⟨[], []⟩)]
noncomputable def digit_All.t3 (s : (ByteArray × (Int × Int))) : Option ((ByteArray × (Int × Int)) ⊕ (Bool ⊕ Unit)) := (bif (decide ((s.2.2 < s.2.1))) then (bif ((decide (((0 : Int) ≤ s.2.2))) && (decide ((s.2.2 < (s.1.size : Int))))) then (bif (decide (((bt s.1 (Int.toNat s.2.2)) < (48 : Int)))) then (some (.inr (.inl false))) else (bif ((decide (((0 : Int) ≤ s.2.2))) && (decide ((s.2.2 < (s.1.size : Int))))) then (bif (decide (((bt s.1 (Int.toNat s.2.2)) > (57 : Int)))) then (some (.inr (.inl false))) else (some (.inl (s.1, (s.2.1, (IntKind.wrap .i64 (s.2.2 + (1 : Int)))))))) else none)) else none) else (some (.inr (.inr ()))))
theorem digit_All.t3_ok : ∀ s : Vals digit_All.sh3.tys, turnK P digit_All.H (lp []) (bodyAt (codeOf P 42) 3) 0 digit_All.sh3 digit_All.os3 s some = digit_All.t3 s := fun s => by kernel_rfl
noncomputable def digit_All.l3 : (ByteArray × (Int × Int)) → Option (Bool ⊕ Unit) := rounds digit_All.t3
noncomputable def digit_All.f (a : ByteArray) : Option Bool := (((digit_All.l3 (a, ((a.size : Int), (0 : Int))))).bind fun x1 => (match x1 with | .inl x2 => (some x2) | .inr x2 => (some true)))
theorem digit_All.ok : ∀ a : Vals digit_All.As.tys, fnK P digit_All.H (lp [(3, (NodeT.summ ⟨digit_All.sh3, digit_All.os3, digit_All.l3⟩ 0))]) 42 digit_All.As digit_All.m a some = digit_All.f a := fun a => by kernel_rfl
noncomputable abbrev digit_All.row : Row := fnRow 42 digit_All.As digit_All.m digit_All.f
theorem digit_All.row_ok : RowOK P G0 digit_All.row := row_told digit_All.hok (lp_of (l := [(3, (NodeT.summ ⟨digit_All.sh3, digit_All.os3, digit_All.l3⟩ 0))]) ⟨(loop_sum digit_All.hok (by kernel_rfl) (by kernel_rfl) (l := []) trivial digit_All.sh3 digit_All.os3 (by kernel_rfl) digit_All.t3 digit_All.t3_ok), trivial⟩) (fun _ => rfl) digit_All.ok
abbrev digit_sum.As : Shs := (.cons (.x .s) .nil)
abbrev digit_sum.m : Back := [(false, (.i .i64))]
noncomputable abbrev digit_sum.H : HK := hk P G0 E0 J0 [] noLoops 4
theorem digit_sum.rows : TabOK P G0 (tabF []) := rows_ok (ws := []) trivial
theorem digit_sum.hok : HKOK P digit_sum.H := hk_ok e0_ok j0_ok digit_sum.rows (fun g n => noLoops_ok g n) 4
noncomputable abbrev digit_sum.sh5 : SSh := ⟨[(0, (.x .s)), (3, (.fn 76 .nil)), (4, (.x (.i .i64))), (8, (.x (.i .i64))), (9, (.x (.i .i64)))], []⟩
noncomputable abbrev digit_sum.os5 : PEnds := [((.exit 0), ⟨[(4, (.x (.i .i64)))], []⟩)]
noncomputable def digit_sum.t5 (s : (ByteArray × (Int × (Int × Int)))) : Option ((ByteArray × (Int × (Int × Int))) ⊕ (Int)) := (bif (decide ((s.2.2.2 < s.2.2.1))) then (bif ((decide (((0 : Int) ≤ (IntKind.wrap .i64 ((IntKind.wrap .i64 ((s.1.size : Int) - (1 : Int))) - s.2.2.2))))) && (decide (((IntKind.wrap .i64 ((IntKind.wrap .i64 ((s.1.size : Int) - (1 : Int))) - s.2.2.2)) < (s.1.size : Int))))) then (bif ((Int.tmod s.2.2.2 (2 : Int)) == (1 : Int)) then (some (.inl (s.1, ((IntKind.wrap .i64 (s.2.1 + (IntKind.wrap .i64 ((IntKind.wrap .i64 ((2 : Int) * (IntKind.wrap .i64 (IntKind.wrap .u8 ((bt s.1 (Int.toNat (IntKind.wrap .i64 ((IntKind.wrap .i64 ((s.1.size : Int) - (1 : Int))) - s.2.2.2)))) - (48 : Int)))))) - (IntKind.wrap .i64 ((9 : Int) * (IntKind.wrap .i64 (Int.tdiv (IntKind.wrap .i64 (IntKind.wrap .u8 ((bt s.1 (Int.toNat (IntKind.wrap .i64 ((IntKind.wrap .i64 ((s.1.size : Int) - (1 : Int))) - s.2.2.2)))) - (48 : Int)))) (5 : Int))))))))), (s.2.2.1, (IntKind.wrap .i64 (s.2.2.2 + (1 : Int)))))))) else (some (.inl (s.1, ((IntKind.wrap .i64 (s.2.1 + (IntKind.wrap .i64 (IntKind.wrap .u8 ((bt s.1 (Int.toNat (IntKind.wrap .i64 ((IntKind.wrap .i64 ((s.1.size : Int) - (1 : Int))) - s.2.2.2)))) - (48 : Int)))))), (s.2.2.1, (IntKind.wrap .i64 (s.2.2.2 + (1 : Int))))))))) else none) else (some (.inr s.2.1)))
theorem digit_sum.t5_ok : ∀ s : Vals digit_sum.sh5.tys, turnK P digit_sum.H (lp []) (bodyAt (codeOf P 59) 5) 0 digit_sum.sh5 digit_sum.os5 s some = digit_sum.t5 s := fun s => by kernel_rfl
noncomputable def digit_sum.l5 : (ByteArray × (Int × (Int × Int))) → Option (Int) := rounds digit_sum.t5
noncomputable def digit_sum.f (a : ByteArray) : Option Int := (((digit_sum.l5 (a, ((0 : Int), ((a.size : Int), (0 : Int)))))).bind fun x1 => (some x1))
theorem digit_sum.ok : ∀ a : Vals digit_sum.As.tys, fnK P digit_sum.H (lp [(5, (NodeT.summ ⟨digit_sum.sh5, digit_sum.os5, digit_sum.l5⟩ 0))]) 59 digit_sum.As digit_sum.m a some = digit_sum.f a := fun a => by kernel_rfl
noncomputable abbrev digit_sum.row : Row := fnRow 59 digit_sum.As digit_sum.m digit_sum.f
theorem digit_sum.row_ok : RowOK P G0 digit_sum.row := row_told digit_sum.hok (lp_of (l := [(5, (NodeT.summ ⟨digit_sum.sh5, digit_sum.os5, digit_sum.l5⟩ 0))]) ⟨(loop_sum digit_sum.hok (by kernel_rfl) (by kernel_rfl) (l := []) trivial digit_sum.sh5 digit_sum.os5 (by kernel_rfl) digit_sum.t5 digit_sum.t5_ok), trivial⟩) (fun _ => rfl) digit_sum.ok
abbrev digit_Sound.As : Shs := (.cons (.x .s) .nil)
abbrev digit_Sound.m : Back := [(false, .b)]
noncomputable abbrev digit_Sound.H : HK := hk P G0 E0 J0 [digit_All.row, digit_sum.row] noLoops 4
theorem digit_Sound.rows : TabOK P G0 (tabF [digit_All.row, digit_sum.row]) := rows_ok (ws := [digit_All.row, digit_sum.row]) ⟨digit_All.row_ok, ⟨digit_sum.row_ok, trivial⟩⟩
theorem digit_Sound.hok : HKOK P digit_Sound.H := hk_ok e0_ok j0_ok digit_Sound.rows (fun g n => noLoops_ok g n) 4
noncomputable def digit_Sound.f (a : ByteArray) : Option Bool := (bif (decide (((a.size : Int) ≥ (2 : Int)))) then (((digit_All.f a)).bind fun x1 => (bif x1 then (((digit_sum.f a)).bind fun x2 => (some ((Int.tmod x2 (10 : Int)) == (0 : Int)))) else (some false))) else (some false))
theorem digit_Sound.ok : ∀ a : Vals digit_Sound.As.tys, fnK P digit_Sound.H (lp []) 41 digit_Sound.As digit_Sound.m a some = digit_Sound.f a := fun a => by kernel_rfl
noncomputable abbrev digit_Sound.row : Row := fnRow 41 digit_Sound.As digit_Sound.m digit_Sound.f
theorem digit_Sound.row_ok : RowOK P G0 digit_Sound.row := row_told digit_Sound.hok (lp_of (l := []) trivial) (fun _ => rfl) digit_Sound.ok
abbrev bursarref02_All.As : Shs := (.cons (.x .s) .nil)
abbrev bursarref02_All.m : Back := [(false, .b)]
noncomputable abbrev bursarref02_All.H : HK := hk P G0 E0 J0 [] noLoops 4
theorem bursarref02_All.rows : TabOK P G0 (tabF []) := rows_ok (ws := []) trivial
theorem bursarref02_All.hok : HKOK P bursarref02_All.H := hk_ok e0_ok j0_ok bursarref02_All.rows (fun g n => noLoops_ok g n) 4
noncomputable abbrev bursarref02_All.sh3 : SSh := ⟨[(0, (.x .s)), (3, (.x (.i .i64)))], []⟩
noncomputable abbrev bursarref02_All.os3 : PEnds := [(.ret, ⟨[(2, (.x .b))], []⟩), ((.exit 0), ⟨[], []⟩)]
noncomputable def bursarref02_All.t3 (s : (ByteArray × Int)) : Option ((ByteArray × Int) ⊕ (Bool ⊕ Unit)) := (bif (decide ((s.2 < (s.1.size : Int)))) then (bif ((decide (((0 : Int) ≤ s.2))) && (decide ((s.2 < (s.1.size : Int))))) then (bif (decide (((bt s.1 (Int.toNat s.2)) < (48 : Int)))) then (some (.inr (.inl false))) else (bif ((decide (((0 : Int) ≤ s.2))) && (decide ((s.2 < (s.1.size : Int))))) then (bif (decide (((bt s.1 (Int.toNat s.2)) > (57 : Int)))) then (some (.inr (.inl false))) else (some (.inl (s.1, (IntKind.wrap .i64 (s.2 + (1 : Int))))))) else none)) else none) else (some (.inr (.inr ()))))
theorem bursarref02_All.t3_ok : ∀ s : Vals bursarref02_All.sh3.tys, turnK P bursarref02_All.H (lp []) (bodyAt (codeOf P 36) 3) 0 bursarref02_All.sh3 bursarref02_All.os3 s some = bursarref02_All.t3 s := fun s => by kernel_rfl
noncomputable def bursarref02_All.l3 : (ByteArray × Int) → Option (Bool ⊕ Unit) := rounds bursarref02_All.t3
noncomputable def bursarref02_All.f (a : ByteArray) : Option Bool := (((bursarref02_All.l3 (a, (0 : Int)))).bind fun x1 => (match x1 with | .inl x2 => (some x2) | .inr x2 => (some true)))
theorem bursarref02_All.ok : ∀ a : Vals bursarref02_All.As.tys, fnK P bursarref02_All.H (lp [(3, (NodeT.summ ⟨bursarref02_All.sh3, bursarref02_All.os3, bursarref02_All.l3⟩ 0))]) 36 bursarref02_All.As bursarref02_All.m a some = bursarref02_All.f a := fun a => by kernel_rfl
noncomputable abbrev bursarref02_All.row : Row := fnRow 36 bursarref02_All.As bursarref02_All.m bursarref02_All.f
theorem bursarref02_All.row_ok : RowOK P G0 bursarref02_All.row := row_told bursarref02_All.hok (lp_of (l := [(3, (NodeT.summ ⟨bursarref02_All.sh3, bursarref02_All.os3, bursarref02_All.l3⟩ 0))]) ⟨(loop_sum bursarref02_All.hok (by kernel_rfl) (by kernel_rfl) (l := []) trivial bursarref02_All.sh3 bursarref02_All.os3 (by kernel_rfl) bursarref02_All.t3 bursarref02_All.t3_ok), trivial⟩) (fun _ => rfl) bursarref02_All.ok
abbrev bursarref02_Sound.As : Shs := (.cons (.x .s) .nil)
abbrev bursarref02_Sound.m : Back := [(false, .b)]
noncomputable abbrev bursarref02_Sound.H : HK := hk P G0 E0 J0 [bursarref02_All.row] noLoops 4
theorem bursarref02_Sound.rows : TabOK P G0 (tabF [bursarref02_All.row]) := rows_ok (ws := [bursarref02_All.row]) ⟨bursarref02_All.row_ok, trivial⟩
theorem bursarref02_Sound.hok : HKOK P bursarref02_Sound.H := hk_ok e0_ok j0_ok bursarref02_Sound.rows (fun g n => noLoops_ok g n) 4
noncomputable abbrev bursarref02_Sound.sh7 : SSh := ⟨[(0, (.x .s)), (3, (.x (.i .i64))), (4, (.x (.i .i64)))], []⟩
noncomputable abbrev bursarref02_Sound.os7 : PEnds := [((.exit 0), ⟨[(3, (.x (.i .i64)))], []⟩)]
noncomputable def bursarref02_Sound.t7 (s : (ByteArray × (Int × Int))) : Option ((ByteArray × (Int × Int)) ⊕ (Int)) := (bif (decide ((s.2.2 < (s.1.size : Int)))) then (bif ((decide (((0 : Int) ≤ s.2.2))) && (decide ((s.2.2 < (s.1.size : Int))))) then (bif ((Int.tmod (IntKind.wrap .i64 ((s.1.size : Int) - s.2.2)) (2 : Int)) == (0 : Int)) then (bif (decide (((IntKind.wrap .i64 ((2 : Int) * (IntKind.wrap .i64 ((IntKind.wrap .i64 (bt s.1 (Int.toNat s.2.2))) - (48 : Int))))) > (9 : Int)))) then (some (.inl (s.1, ((IntKind.wrap .i64 (s.2.1 + (IntKind.wrap .i64 ((IntKind.wrap .i64 ((2 : Int) * (IntKind.wrap .i64 ((IntKind.wrap .i64 (bt s.1 (Int.toNat s.2.2))) - (48 : Int))))) - (9 : Int))))), (IntKind.wrap .i64 (s.2.2 + (1 : Int))))))) else (some (.inl (s.1, ((IntKind.wrap .i64 (s.2.1 + (IntKind.wrap .i64 ((2 : Int) * (IntKind.wrap .i64 ((IntKind.wrap .i64 (bt s.1 (Int.toNat s.2.2))) - (48 : Int))))))), (IntKind.wrap .i64 (s.2.2 + (1 : Int)))))))) else (some (.inl (s.1, ((IntKind.wrap .i64 (s.2.1 + (IntKind.wrap .i64 ((IntKind.wrap .i64 (bt s.1 (Int.toNat s.2.2))) - (48 : Int))))), (IntKind.wrap .i64 (s.2.2 + (1 : Int)))))))) else none) else (some (.inr s.2.1)))
theorem bursarref02_Sound.t7_ok : ∀ s : Vals bursarref02_Sound.sh7.tys, turnK P bursarref02_Sound.H (lp []) (bodyAt (codeOf P 35) 7) 0 bursarref02_Sound.sh7 bursarref02_Sound.os7 s some = bursarref02_Sound.t7 s := fun s => by kernel_rfl
noncomputable def bursarref02_Sound.l7 : (ByteArray × (Int × Int)) → Option (Int) := rounds bursarref02_Sound.t7
noncomputable def bursarref02_Sound.f (a : ByteArray) : Option Bool := (bif (decide (((a.size : Int) < (2 : Int)))) then (some false) else (((bursarref02_All.f a)).bind fun x1 => (bif (!x1) then (some false) else (((bursarref02_Sound.l7 (a, ((0 : Int), (0 : Int))))).bind fun x2 => (some ((Int.tmod x2 (10 : Int)) == (0 : Int)))))))
theorem bursarref02_Sound.ok : ∀ a : Vals bursarref02_Sound.As.tys, fnK P bursarref02_Sound.H (lp [(7, (NodeT.summ ⟨bursarref02_Sound.sh7, bursarref02_Sound.os7, bursarref02_Sound.l7⟩ 0))]) 35 bursarref02_Sound.As bursarref02_Sound.m a some = bursarref02_Sound.f a := fun a => by kernel_rfl
noncomputable abbrev bursarref02_Sound.row : Row := fnRow 35 bursarref02_Sound.As bursarref02_Sound.m bursarref02_Sound.f
theorem bursarref02_Sound.row_ok : RowOK P G0 bursarref02_Sound.row := row_told bursarref02_Sound.hok (lp_of (l := [(7, (NodeT.summ ⟨bursarref02_Sound.sh7, bursarref02_Sound.os7, bursarref02_Sound.l7⟩ 0))]) ⟨(loop_sum bursarref02_Sound.hok (by kernel_rfl) (by kernel_rfl) (l := []) trivial bursarref02_Sound.sh7 bursarref02_Sound.os7 (by kernel_rfl) bursarref02_Sound.t7 bursarref02_Sound.t7_ok), trivial⟩) (fun _ => rfl) bursarref02_Sound.ok
end Go.Proofs.YtcadnpdhiolmfaaDoor
end
section
set_option linter.unusedVariables false
set_option linter.unusedSimpArgs false
namespace Go.Proofs.YtcadnpdhiolmfaaDoor
open Go Go.Fw
def digC (s : ByteArray) (i : Nat) : Bool := decide (48 ≤ bt s i) && decide (bt s i ≤ 57)
def digitsB (s : ByteArray) : Bool := (List.range s.size).all (digC s)
theorem digit_All_is (s : ByteArray) (hs : s.size ≤ 4611686018427387904) : digit_All.f s = some (digitsB s) := by
  have h := rounds_all (t := digit_All.t3) (fun i => (s, ((s.size : Int), (i : Int)))) (digC s) (.inl false) (.inr ()) s.size (fun i hi => by
    have := bt_bound s i
    have := wrap_up (n := i) (by omega)
    grind [digit_All.t3, digC]) (by simp [digit_All.t3])
  unfold digit_All.f digit_All.l3
  rw [show ((0 : Int)) = ((0 : Nat) : Int) from rfl, h]
  unfold digitsB
  cases (List.range s.size).all (digC s) <;> rfl
theorem ref_All_is (s : ByteArray) (hs : s.size ≤ 4611686018427387904) : bursarref02_All.f s = some (digitsB s) := by
  have h := rounds_all (t := bursarref02_All.t3) (fun i => (s, (i : Int))) (digC s) (.inl false) (.inr ()) s.size (fun i hi => by
    have := bt_bound s i
    have := wrap_up (n := i) (by omega)
    grind [bursarref02_All.t3, digC]) (by simp [bursarref02_All.t3])
  unfold bursarref02_All.f bursarref02_All.l3
  rw [show ((0 : Int)) = ((0 : Nat) : Int) from rfl, h]
  unfold digitsB
  cases (List.range s.size).all (digC s) <;> rfl
theorem digits_at {s : ByteArray} (h : digitsB s = true) {i : Nat} (hi : i < s.size) : 48 ≤ bt s i ∧ bt s i ≤ 57 := by
  unfold digitsB at h
  rw [List.all_eq_true] at h
  simpa [digC] using h i (List.mem_range.2 hi)
def term (s : ByteArray) (j : Nat) : Int := bif (s.size - j) % 2 == 0 then (bif decide (2 * (bt s j - 48) > 9) then 2 * (bt s j - 48) - 9 else 2 * (bt s j - 48)) else bt s j - 48
def luhn (s : ByteArray) : Int := sumTo (term s) s.size
theorem term_bound {s : ByteArray} (h : digitsB s = true) {j : Nat} (hj : j < s.size) : 0 ≤ term s j ∧ term s j ≤ 9 := by
  have := digits_at h hj
  grind [term]
theorem digit_sum_is (s : ByteArray) (hs : s.size ≤ 576460752303423488) (hd : digitsB s = true) : digit_sum.f s = some (luhn s) := by
  have hb : ∀ n, n ≤ s.size → 0 ≤ sumTo (fun j => term s (s.size - 1 - j)) n ∧ sumTo (fun j => term s (s.size - 1 - j)) n ≤ 9 * n := fun n hn => sumTo_bound fun j hj => term_bound hd (by omega)
  have h := rounds_to (t := digit_sum.t5) (fun i => (s, (sumTo (fun j => term s (s.size - 1 - j)) i, ((s.size : Int), (i : Int))))) s.size (fun i hi => by
    have h1 := digits_at hd (i := s.size - 1 - i) (by omega)
    have h2 := wrap_up (n := i) (by omega)
    have h3 : IntKind.wrap .i64 ((s.size : Int) - 1) = (s.size : Int) - 1 := wrap_i64 (by omega) (by omega)
    have h4 : IntKind.wrap .i64 ((s.size : Int) - 1 - i) = ((s.size - 1 - i : Nat) : Int) := by rw [wrap_i64 (by omega) (by omega)]; omega
    have h5 : term s (s.size - 1 - i) = bif (i : Int).tmod 2 == 1 then 2 * (bt s (s.size - 1 - i) - 48) - 9 * ((bt s (s.size - 1 - i) - 48) / 5) else bt s (s.size - 1 - i) - 48 := by
      have e : ((i : Int).tmod 2 == 1) = ((s.size - (s.size - 1 - i)) % 2 == 0) := by
        rw [Int.tmod_eq_emod_of_nonneg (by omega)]
        rw [Bool.eq_iff_iff]; simp only [beq_iff_eq]; omega
      rw [e]
      unfold term
      cases ((s.size - (s.size - 1 - i)) % 2 == 0) with
      | false => rfl
      | true =>
        simp only [cond_true]
        by_cases hx : 2 * (bt s (s.size - 1 - i) - 48) > 9
        · rw [decide_eq_true hx]; simp only [cond_true]; omega
        · rw [decide_eq_false hx]; simp only [cond_false]; omega
    have hbi := hb i (by omega)
    have hbt := term_bound hd (j := s.size - 1 - i) (by omega)
    simp only [digit_sum.t5, h3, h4, Int.toNat_natCast, sumTo, h2]
    rw [h5] at hbt ⊢
    generalize sumTo (fun j => term s (s.size - 1 - j)) i = T at hbi ⊢
    generalize bt s (s.size - 1 - i) = d at h1 hbt ⊢
    have w1 : IntKind.wrap .u8 (d - 48) = d - 48 := by rw [wrap_u8]; omega
    have w2 : IntKind.wrap .i64 (d - 48) = d - 48 := wrap_i64 (by omega) (by omega)
    have w3 : IntKind.wrap .i64 (2 * (d - 48)) = 2 * (d - 48) := wrap_i64 (by omega) (by omega)
    have w4 : Int.tdiv (d - 48) 5 = (d - 48) / 5 := Int.tdiv_eq_ediv_of_nonneg (by omega)
    have w5 : IntKind.wrap .i64 ((d - 48) / 5) = (d - 48) / 5 := wrap_i64 (by omega) (by omega)
    have w6 : IntKind.wrap .i64 (9 * ((d - 48) / 5)) = 9 * ((d - 48) / 5) := wrap_i64 (by omega) (by omega)
    have w7 : IntKind.wrap .i64 (2 * (d - 48) - 9 * ((d - 48) / 5)) = 2 * (d - 48) - 9 * ((d - 48) / 5) := wrap_i64 (by omega) (by omega)
    have w8 : IntKind.wrap .i64 (T + (2 * (d - 48) - 9 * ((d - 48) / 5))) = T + (2 * (d - 48) - 9 * ((d - 48) / 5)) := wrap_i64 (by omega) (by omega)
    have w9 : IntKind.wrap .i64 (T + (d - 48)) = T + (d - 48) := wrap_i64 (by omega) (by omega)
    rw [w1, w2, w3, w4, w5, w6, w7, w8, w9]
    have g1 : decide ((i : Int) < (s.size : Int)) = true := decide_eq_true (by omega)
    have g2 : decide ((0 : Int) ≤ ((s.size - 1 - i : Nat) : Int)) = true := decide_eq_true (by omega)
    have g3 : decide (((s.size - 1 - i : Nat) : Int) < (s.size : Int)) = true := decide_eq_true (by omega)
    rw [g1, g2, g3]
    cases ((i : Int).tmod 2 == 1) <;> rfl)
  unfold digit_sum.f digit_sum.l5
  have h0 : (s, ((0 : Int), ((s.size : Int), (0 : Int)))) = (s, (sumTo (fun j => term s (s.size - 1 - j)) 0, ((s.size : Int), ((0 : Nat) : Int)))) := rfl
  rw [h0, h, sumTo_back, rounds_end (r := luhn s) (by simp [digit_sum.t5, luhn])]
  rfl
theorem digit_Sound_is (s : ByteArray) (hs : s.size ≤ 576460752303423488) : digit_Sound.f s = some (decide (2 ≤ s.size) && (digitsB s && (luhn s % 10 == 0))) := by
  have hl : digitsB s = true → 0 ≤ luhn s := fun hd => (sumTo_bound (f := term s) (b := 9) (n := s.size) fun j hj => term_bound hd hj).1
  unfold digit_Sound.f
  rw [digit_All_is s (by omega)]
  by_cases h2 : 2 ≤ s.size
  · rw [show decide ((s.size : Int) ≥ 2) = true from decide_eq_true (by omega), decide_eq_true h2]
    cases hd : digitsB s with
    | false => rfl
    | true => simp only [Option.bind_some, cond_true, digit_sum_is s hs hd, Bool.true_and, Int.tmod_eq_emod_of_nonneg (hl hd)]
  · rw [show decide ((s.size : Int) ≥ 2) = false from decide_eq_false (by omega), decide_eq_false h2]; rfl
theorem ref_Sound_is (s : ByteArray) (hs : s.size ≤ 576460752303423488) : bursarref02_Sound.f s = some (decide (2 ≤ s.size) && (digitsB s && (luhn s % 10 == 0))) := by
  unfold bursarref02_Sound.f
  rw [ref_All_is s (by omega)]
  by_cases h2 : 2 ≤ s.size
  · rw [show decide ((s.size : Int) < 2) = false from decide_eq_false (by omega), decide_eq_true h2]
    cases hd : digitsB s with
    | false => rfl
    | true =>
      have hb : ∀ n, n ≤ s.size → 0 ≤ sumTo (term s) n ∧ sumTo (term s) n ≤ 9 * n := fun n hn => sumTo_bound fun j hj => term_bound hd (by omega)
      have h := rounds_to (t := bursarref02_Sound.t7) (fun i => (s, (sumTo (term s) i, (i : Int)))) s.size (fun i hi => by
        have h1 := digits_at hd (i := i) hi
        have h2 := wrap_up (n := i) (by omega)
        have h3 : IntKind.wrap .i64 ((s.size : Int) - i) = ((s.size - i : Nat) : Int) := by rw [wrap_i64 (by omega) (by omega)]; omega
        have h5 : ((((s.size - i : Nat) : Int).tmod 2) == 0) = ((s.size - i) % 2 == 0) := by
          rw [Int.tmod_eq_emod_of_nonneg (by omega), Bool.eq_iff_iff]; simp only [beq_iff_eq]; omega
        have hbi := hb i (by omega)
        simp only [bursarref02_Sound.t7, h3, h5, Int.toNat_natCast, sumTo, h2, term]
        generalize sumTo (term s) i = T at hbi ⊢
        have w1 : IntKind.wrap .i64 (bt s i) = bt s i := wrap_i64 (by omega) (by omega)
        have w2 : IntKind.wrap .i64 (bt s i - 48) = bt s i - 48 := wrap_i64 (by omega) (by omega)
        have w3 : IntKind.wrap .i64 (2 * (bt s i - 48)) = 2 * (bt s i - 48) := wrap_i64 (by omega) (by omega)
        have w7 : IntKind.wrap .i64 (2 * (bt s i - 48) - 9) = 2 * (bt s i - 48) - 9 := wrap_i64 (by omega) (by omega)
        have w8 : IntKind.wrap .i64 (T + (2 * (bt s i - 48) - 9)) = T + (2 * (bt s i - 48) - 9) := wrap_i64 (by omega) (by omega)
        have w9 : IntKind.wrap .i64 (T + (bt s i - 48)) = T + (bt s i - 48) := wrap_i64 (by omega) (by omega)
        have w10 : IntKind.wrap .i64 (T + 2 * (bt s i - 48)) = T + 2 * (bt s i - 48) := wrap_i64 (by omega) (by omega)
        simp only [w1, w2, w3, w7, w8, w9, w10]
        have g1 : decide ((i : Int) < (s.size : Int)) = true := decide_eq_true (by omega)
        have g2 : decide ((0 : Int) ≤ (i : Int)) = true := decide_eq_true (by omega)
        simp only [g1, g2, Bool.and_self, cond_true]
        cases ((s.size - i) % 2 == 0)
        · rfl
        · cases decide (2 * (bt s i - 48) > 9) <;> rfl)
      have h0 : (s, ((0 : Int), (0 : Int))) = (s, (sumTo (term s) 0, ((0 : Nat) : Int))) := rfl
      have hl := (hb s.size (Nat.le_refl _)).1
      unfold bursarref02_Sound.l7
      simp only [Option.bind_some, cond_true, cond_false, Bool.not_true, Bool.true_and]
      rw [h0, h, rounds_end (r := luhn s) (by simp [bursarref02_Sound.t7, luhn])]
      simp only [Option.bind_some, Int.tmod_eq_emod_of_nonneg (show 0 ≤ luhn s from hl)]
  · rw [show decide ((s.size : Int) < 2) = true from decide_eq_true (by omega), decide_eq_false h2]; rfl
end Go.Proofs.YtcadnpdhiolmfaaDoor
end
section
set_option linter.unusedVariables false
set_option maxRecDepth 100000
namespace Go.Proofs.YtcadnpdhiolmfaaDoor
open Go Go.Fw
abbrev chart_May.As : Shs := (.cons (.x T_api_Account) .nil)
abbrev chart_May.m : Back := [(false, .b)]
noncomputable abbrev chart_May.H : HK := hk P G0 E0 J0 [digit_Sound.row, digit_All.row] noLoops 4
theorem chart_May.rows : TabOK P G0 (tabF [digit_Sound.row, digit_All.row]) := rows_ok (ws := [digit_Sound.row, digit_All.row]) ⟨digit_Sound.row_ok, ⟨digit_All.row_ok, trivial⟩⟩
theorem chart_May.hok : HKOK P chart_May.H := hk_ok e0_ok j0_ok chart_May.rows (fun g n => noLoops_ok g n) 4
noncomputable def chart_May.f (a : (Int × ByteArray)) : Option Bool := (bif (a.1 == (1 : Int)) then (bif ((a.2.size : Int) == (16 : Int)) then (((digit_Sound.f a.2)).bind fun x1 => (some x1)) else (some false)) else (bif (a.1 == (2 : Int)) then (bif ((a.2.size : Int) == (6 : Int)) then (((digit_All.f a.2)).bind fun x1 => (some x1)) else (some false)) else (bif (a.1 == (3 : Int)) then (bif (a.1 == (3 : Int)) then (some ((ByteArray.toList a.2) == [])) else (some false)) else (bif (a.1 == (4 : Int)) then (some ((ByteArray.toList a.2) == [])) else (some false)))))
theorem chart_May.ok : ∀ a : Vals chart_May.As.tys, fnK P chart_May.H (lp []) 19 chart_May.As chart_May.m a some = chart_May.f a := fun a => by kernel_rfl
noncomputable abbrev chart_May.row : Row := fnRow 19 chart_May.As chart_May.m chart_May.f
theorem chart_May.row_ok : RowOK P G0 chart_May.row := row_told chart_May.hok (lp_of (l := []) trivial) (fun _ => rfl) chart_May.ok
abbrev bursarref11_Name.As : Shs := (.cons (.x T_api_Account) .nil)
abbrev bursarref11_Name.m : Back := [(false, .s), (false, .b)]
noncomputable abbrev bursarref11_Name.H : HK := hk P G0 E0 J0 [bursarref02_Sound.row, bursarref02_All.row] noLoops 4
theorem bursarref11_Name.rows : TabOK P G0 (tabF [bursarref02_Sound.row, bursarref02_All.row]) := rows_ok (ws := [bursarref02_Sound.row, bursarref02_All.row]) ⟨bursarref02_Sound.row_ok, ⟨bursarref02_All.row_ok, trivial⟩⟩
theorem bursarref11_Name.hok : HKOK P bursarref11_Name.H := hk_ok e0_ok j0_ok bursarref11_Name.rows (fun g n => noLoops_ok g n) 4
noncomputable def bursarref11_Name.f (a : (Int × ByteArray)) : Option (ByteArray × Bool) := (bif (a.1 == (1 : Int)) then (bif ((a.2.size : Int) == (16 : Int)) then (((bursarref02_Sound.f a.2)).bind fun x1 => (bif x1 then (bif (Nat.ble (1 + a.2.size) 9223372036854775807) then (some (((bs [67]) ++ a.2), true)) else none) else (bif (a.1 == (2 : Int)) then (bif ((a.2.size : Int) == (6 : Int)) then (((bursarref02_All.f a.2)).bind fun x2 => (bif x2 then (bif (Nat.ble (1 + a.2.size) 9223372036854775807) then (some (((bs [65]) ++ a.2), true)) else none) else (bif (a.1 == (3 : Int)) then (bif ((ByteArray.toList a.2) == []) then (some ((bs [72]), true)) else (bif (a.1 == (4 : Int)) then (bif ((ByteArray.toList a.2) == []) then (some ((bs [68]), true)) else (some ((bs []), false))) else (some ((bs []), false)))) else (bif (a.1 == (4 : Int)) then (bif ((ByteArray.toList a.2) == []) then (some ((bs [68]), true)) else (some ((bs []), false))) else (some ((bs []), false)))))) else (bif (a.1 == (3 : Int)) then (bif ((ByteArray.toList a.2) == []) then (some ((bs [72]), true)) else (bif (a.1 == (4 : Int)) then (bif ((ByteArray.toList a.2) == []) then (some ((bs [68]), true)) else (some ((bs []), false))) else (some ((bs []), false)))) else (bif (a.1 == (4 : Int)) then (bif ((ByteArray.toList a.2) == []) then (some ((bs [68]), true)) else (some ((bs []), false))) else (some ((bs []), false))))) else (bif (a.1 == (3 : Int)) then (bif ((ByteArray.toList a.2) == []) then (some ((bs [72]), true)) else (bif (a.1 == (4 : Int)) then (bif ((ByteArray.toList a.2) == []) then (some ((bs [68]), true)) else (some ((bs []), false))) else (some ((bs []), false)))) else (bif (a.1 == (4 : Int)) then (bif ((ByteArray.toList a.2) == []) then (some ((bs [68]), true)) else (some ((bs []), false))) else (some ((bs []), false))))))) else (bif (a.1 == (2 : Int)) then (bif ((a.2.size : Int) == (6 : Int)) then (((bursarref02_All.f a.2)).bind fun x1 => (bif x1 then (bif (Nat.ble (1 + a.2.size) 9223372036854775807) then (some (((bs [65]) ++ a.2), true)) else none) else (bif (a.1 == (3 : Int)) then (bif ((ByteArray.toList a.2) == []) then (some ((bs [72]), true)) else (bif (a.1 == (4 : Int)) then (bif ((ByteArray.toList a.2) == []) then (some ((bs [68]), true)) else (some ((bs []), false))) else (some ((bs []), false)))) else (bif (a.1 == (4 : Int)) then (bif ((ByteArray.toList a.2) == []) then (some ((bs [68]), true)) else (some ((bs []), false))) else (some ((bs []), false)))))) else (bif (a.1 == (3 : Int)) then (bif ((ByteArray.toList a.2) == []) then (some ((bs [72]), true)) else (bif (a.1 == (4 : Int)) then (bif ((ByteArray.toList a.2) == []) then (some ((bs [68]), true)) else (some ((bs []), false))) else (some ((bs []), false)))) else (bif (a.1 == (4 : Int)) then (bif ((ByteArray.toList a.2) == []) then (some ((bs [68]), true)) else (some ((bs []), false))) else (some ((bs []), false))))) else (bif (a.1 == (3 : Int)) then (bif ((ByteArray.toList a.2) == []) then (some ((bs [72]), true)) else (bif (a.1 == (4 : Int)) then (bif ((ByteArray.toList a.2) == []) then (some ((bs [68]), true)) else (some ((bs []), false))) else (some ((bs []), false)))) else (bif (a.1 == (4 : Int)) then (bif ((ByteArray.toList a.2) == []) then (some ((bs [68]), true)) else (some ((bs []), false))) else (some ((bs []), false)))))) else (bif (a.1 == (2 : Int)) then (bif ((a.2.size : Int) == (6 : Int)) then (((bursarref02_All.f a.2)).bind fun x1 => (bif x1 then (bif (Nat.ble (1 + a.2.size) 9223372036854775807) then (some (((bs [65]) ++ a.2), true)) else none) else (bif (a.1 == (3 : Int)) then (bif ((ByteArray.toList a.2) == []) then (some ((bs [72]), true)) else (bif (a.1 == (4 : Int)) then (bif ((ByteArray.toList a.2) == []) then (some ((bs [68]), true)) else (some ((bs []), false))) else (some ((bs []), false)))) else (bif (a.1 == (4 : Int)) then (bif ((ByteArray.toList a.2) == []) then (some ((bs [68]), true)) else (some ((bs []), false))) else (some ((bs []), false)))))) else (bif (a.1 == (3 : Int)) then (bif ((ByteArray.toList a.2) == []) then (some ((bs [72]), true)) else (bif (a.1 == (4 : Int)) then (bif ((ByteArray.toList a.2) == []) then (some ((bs [68]), true)) else (some ((bs []), false))) else (some ((bs []), false)))) else (bif (a.1 == (4 : Int)) then (bif ((ByteArray.toList a.2) == []) then (some ((bs [68]), true)) else (some ((bs []), false))) else (some ((bs []), false))))) else (bif (a.1 == (3 : Int)) then (bif ((ByteArray.toList a.2) == []) then (some ((bs [72]), true)) else (bif (a.1 == (4 : Int)) then (bif ((ByteArray.toList a.2) == []) then (some ((bs [68]), true)) else (some ((bs []), false))) else (some ((bs []), false)))) else (bif (a.1 == (4 : Int)) then (bif ((ByteArray.toList a.2) == []) then (some ((bs [68]), true)) else (some ((bs []), false))) else (some ((bs []), false))))))
theorem bursarref11_Name.ok : ∀ a : Vals bursarref11_Name.As.tys, fnK P bursarref11_Name.H (lp []) 13 bursarref11_Name.As bursarref11_Name.m a some = bursarref11_Name.f a := fun a => by kernel_rfl
noncomputable abbrev bursarref11_Name.row : Row := fnRow 13 bursarref11_Name.As bursarref11_Name.m bursarref11_Name.f
theorem bursarref11_Name.row_ok : RowOK P G0 bursarref11_Name.row := row_told bursarref11_Name.hok (lp_of (l := []) trivial) (fun _ => rfl) bursarref11_Name.ok
end Go.Proofs.YtcadnpdhiolmfaaDoor
end
section
set_option linter.unusedVariables false
set_option linter.unusedSimpArgs false
namespace Go.Proofs.YtcadnpdhiolmfaaDoor
open Go Go.Fw
def soundB (s : ByteArray) : Bool := decide (2 ≤ s.size) && (digitsB s && (luhn s % 10 == 0))
def cardB (s : ByteArray) : Bool := s.size == 16 && soundB s
def acqB (s : ByteArray) : Bool := s.size == 6 && digitsB s
theorem size_is {s : ByteArray} (n : Nat) : ((s.size : Int) == (n : Int)) = (s.size == n) := by rw [Bool.eq_iff_iff]; simp only [beq_iff_eq]; omega
theorem card_is (s : ByteArray) : chart_May.f (1, s) = some (cardB s) := by
  have e := size_is (s := s) 16
  unfold chart_May.f cardB
  by_cases h : s.size = 16
  · have := digit_Sound_is s (by omega)
    rw [show ((s.size : Int) == 16) = true from by simp; omega, show (s.size == 16) = true from by simp [h]]
    simp only [this, beq_self_eq_true, cond_true, Option.bind_some, Bool.true_and]
    rfl
  · rw [show ((s.size : Int) == 16) = false from by simp; omega, show (s.size == 16) = false from by simp [h]]
    rfl
theorem acq_is (s : ByteArray) : chart_May.f (2, s) = some (acqB s) := by
  unfold chart_May.f acqB
  by_cases h : s.size = 6
  · have := digit_All_is s (by omega)
    rw [show ((s.size : Int) == 6) = true from by simp; omega, show (s.size == 6) = true from by simp [h]]
    simp [this]
  · rw [show ((s.size : Int) == 6) = false from by simp; omega, show (s.size == 6) = false from by simp [h]]
    rfl
theorem ref_card_is (s : ByteArray) : ∃ t, bursarref11_Name.f (1, s) = some (t, cardB s) := by
  unfold bursarref11_Name.f cardB
  by_cases h : s.size = 16
  · have := ref_Sound_is s (by omega)
    have e : bursarref02_Sound.f s = some (soundB s) := this
    have b1 : Nat.ble (1 + s.size) 9223372036854775807 = true := by rw [h]; rfl
    rw [e, b1, show ((s.size : Int) == 16) = true from by simp; omega, show (s.size == 16) = true from by simp [h]]
    cases soundB s
    · exact ⟨_, rfl⟩
    · exact ⟨_, rfl⟩
  · rw [show ((s.size : Int) == 16) = false from by simp; omega, show (s.size == 16) = false from by simp [h]]
    simp
theorem ref_acq_is (s : ByteArray) : ∃ t, bursarref11_Name.f (2, s) = some (t, acqB s) := by
  unfold bursarref11_Name.f acqB
  by_cases h : s.size = 6
  · have := ref_All_is s (by omega)
    have b1 : Nat.ble (1 + s.size) 9223372036854775807 = true := by rw [h]; rfl
    rw [this, b1, show ((s.size : Int) == 6) = true from by simp; omega, show (s.size == 6) = true from by simp [h]]
    cases digitsB s
    · exact ⟨_, rfl⟩
    · exact ⟨_, rfl⟩
  · rw [show ((s.size : Int) == 6) = false from by simp; omega, show (s.size == 6) = false from by simp [h]]
    simp
end Go.Proofs.YtcadnpdhiolmfaaDoor
end
section
set_option linter.unusedVariables false
set_option maxRecDepth 100000
namespace Go.Proofs.YtcadnpdhiolmfaaDoor
open Go Go.Fw
abbrev money_Sum.As : Shs := (.cons (.x (.l (.i .i64))) .nil)
abbrev money_Sum.m : Back := [(false, (.i .i64)), (false, (.i .i64))]
noncomputable abbrev money_Sum.H : HK := hk P G0 E0 J0 [] noLoops 4
theorem money_Sum.rows : TabOK P G0 (tabF []) := rows_ok (ws := []) trivial
theorem money_Sum.hok : HKOK P money_Sum.H := hk_ok e0_ok j0_ok money_Sum.rows (fun g n => noLoops_ok g n) 4
noncomputable abbrev money_Sum.sh4 : SSh := ⟨[(4, (.x (.i .i64))), (5, (.x (.i .u64))), (10, (.x (.l (.i .i64)))), (11, (.x (.i .i64))), (12, (.x (.i .i64)))], []⟩
noncomputable abbrev money_Sum.os4 : PEnds := [((.exit 0), ⟨[(4, (.x (.i .i64))), (5, (.x (.i .u64)))], []⟩)]
noncomputable def money_Sum.t4 (s : (Int × (Int × ((List Int) × (Int × Int))))) : Option ((Int × (Int × ((List Int) × (Int × Int)))) ⊕ ((Int × Int))) := (bif (decide ((s.2.2.2.2 < s.2.2.2.1))) then (bif ((decide (((0 : Int) ≤ s.2.2.2.2))) && (decide ((s.2.2.2.2 < ((List.length s.2.2.1) : Int))))) then (bif ((((decide (((0 : Int) ≤ s.2.1))) && (decide (((0 : Int) ≤ (IntKind.wrap .u64 (List.getD s.2.2.1 (Int.toNat s.2.2.2.2) (0 : Int))))))) && true) && true) then (some (.inl ((IntKind.wrap .i64 (s.1 + (IntKind.wrap .i64 ((Int.fdiv (List.getD s.2.2.1 (Int.toNat s.2.2.2.2) (0 : Int)) (9223372036854775808 : Int)) + (IntKind.wrap .i64 (HDiv.hDiv ((s.2.1 + (IntKind.wrap .u64 (List.getD s.2.2.1 (Int.toNat s.2.2.2.2) (0 : Int)))) + (0 : Int)) (18446744073709551616 : Int))))))), ((HMod.hMod ((s.2.1 + (IntKind.wrap .u64 (List.getD s.2.2.1 (Int.toNat s.2.2.2.2) (0 : Int)))) + (0 : Int)) (18446744073709551616 : Int)), (s.2.2.1, (s.2.2.2.1, (IntKind.wrap .i64 (s.2.2.2.2 + (1 : Int))))))))) else none) else none) else (some (.inr (s.1, s.2.1))))
theorem money_Sum.t4_ok : ∀ s : Vals money_Sum.sh4.tys, turnK P money_Sum.H (lp []) (bodyAt (codeOf P 23) 4) 0 money_Sum.sh4 money_Sum.os4 s some = money_Sum.t4 s := fun s => by kernel_rfl
noncomputable def money_Sum.l4 : (Int × (Int × ((List Int) × (Int × Int)))) → Option ((Int × Int)) := rounds money_Sum.t4
noncomputable def money_Sum.f (a : (List Int)) : Option (Int × Int) := (((money_Sum.l4 ((0 : Int), ((0 : Int), (a, (((List.length a) : Int), (0 : Int))))))).bind fun x1 => (bif (x1.1 != (Int.fdiv (IntKind.wrap .i64 x1.2) (9223372036854775808 : Int))) then (some ((0 : Int), (2 : Int))) else (some ((IntKind.wrap .i64 x1.2), (0 : Int)))))
theorem money_Sum.ok : ∀ a : Vals money_Sum.As.tys, fnK P money_Sum.H (lp [(4, (NodeT.summ ⟨money_Sum.sh4, money_Sum.os4, money_Sum.l4⟩ 0))]) 23 money_Sum.As money_Sum.m a some = money_Sum.f a := fun a => by kernel_rfl
noncomputable abbrev money_Sum.row : Row := fnRow 23 money_Sum.As money_Sum.m money_Sum.f
theorem money_Sum.row_ok : RowOK P G0 money_Sum.row := row_told money_Sum.hok (lp_of (l := [(4, (NodeT.summ ⟨money_Sum.sh4, money_Sum.os4, money_Sum.l4⟩ 0))]) ⟨(loop_sum money_Sum.hok (by kernel_rfl) (by kernel_rfl) (l := []) trivial money_Sum.sh4 money_Sum.os4 (by kernel_rfl) money_Sum.t4 money_Sum.t4_ok), trivial⟩) (fun _ => rfl) money_Sum.ok
abbrev bursarref01_Sum.As : Shs := (.cons (.x (.l (.i .i64))) .nil)
abbrev bursarref01_Sum.m : Back := [(false, (.i .i64)), (false, .b)]
noncomputable abbrev bursarref01_Sum.H : HK := hk P G0 E0 J0 [] noLoops 4
theorem bursarref01_Sum.rows : TabOK P G0 (tabF []) := rows_ok (ws := []) trivial
theorem bursarref01_Sum.hok : HKOK P bursarref01_Sum.H := hk_ok e0_ok j0_ok bursarref01_Sum.rows (fun g n => noLoops_ok g n) 4
noncomputable abbrev bursarref01_Sum.sh4 : SSh := ⟨[(0, (.x (.l (.i .i64)))), (4, (.own 0 1)), (5, (.own 1 1)), (6, (.x (.i .i64)))], [.arrN (.i .i64), .arrN (.i .i64)]⟩
noncomputable abbrev bursarref01_Sum.os4 : PEnds := [((.exit 0), ⟨[(4, (.x (.l (.i .i64)))), (5, (.x (.l (.i .i64))))], []⟩)]
noncomputable def bursarref01_Sum.t4 (s : ((List Int) × (Int × ((List Int) × (List Int))))) : Option (((List Int) × (Int × ((List Int) × (List Int)))) ⊕ (((List Int) × (List Int)))) := (bif (decide ((s.2.1 < ((List.length s.1) : Int)))) then (bif ((decide (((0 : Int) ≤ s.2.1))) && (decide ((s.2.1 < ((List.length s.1) : Int))))) then (bif (decide (((List.getD s.1 (Int.toNat s.2.1) (0 : Int)) ≥ (0 : Int)))) then (bif ((decide (((0 : Int) ≤ s.2.1))) && (decide ((s.2.1 < ((List.length s.1) : Int))))) then (bif ((true && (Nat.ble (((List.length s.2.2.1) + (List.length ((List.getD s.1 (Int.toNat s.2.1) (0 : Int)) :: []))) * 8) 140737488355328)) && (Nat.ble ((List.length s.2.2.1) + (List.length ((List.getD s.1 (Int.toNat s.2.1) (0 : Int)) :: []))) 140737488355328)) then (some (.inl (s.1, ((IntKind.wrap .i64 (s.2.1 + (1 : Int))), ((s.2.2.1 ++ ((List.getD s.1 (Int.toNat s.2.1) (0 : Int)) :: [])), s.2.2.2))))) else none) else none) else (bif ((decide (((0 : Int) ≤ s.2.1))) && (decide ((s.2.1 < ((List.length s.1) : Int))))) then (bif ((true && (Nat.ble (((List.length s.2.2.2) + (List.length ((List.getD s.1 (Int.toNat s.2.1) (0 : Int)) :: []))) * 8) 140737488355328)) && (Nat.ble ((List.length s.2.2.2) + (List.length ((List.getD s.1 (Int.toNat s.2.1) (0 : Int)) :: []))) 140737488355328)) then (some (.inl (s.1, ((IntKind.wrap .i64 (s.2.1 + (1 : Int))), (s.2.2.1, (s.2.2.2 ++ ((List.getD s.1 (Int.toNat s.2.1) (0 : Int)) :: []))))))) else none) else none)) else none) else (some (.inr s.2.2)))
theorem bursarref01_Sum.t4_ok : ∀ s : Vals bursarref01_Sum.sh4.tys, turnK P bursarref01_Sum.H (lp []) (bodyAt (codeOf P 14) 4) 0 bursarref01_Sum.sh4 bursarref01_Sum.os4 s some = bursarref01_Sum.t4 s := by rintro ⟨s0, s1, s2, s3⟩; cases s2 <;> cases s3 <;> kernel_rfl
noncomputable def bursarref01_Sum.l4 : ((List Int) × (Int × ((List Int) × (List Int)))) → Option (((List Int) × (List Int))) := rounds bursarref01_Sum.t4
noncomputable abbrev bursarref01_Sum.sh8 : SSh := ⟨[(4, (.x (.l (.i .i64)))), (5, (.x (.l (.i .i64)))), (7, (.x (.i .i64))), (8, (.x (.i .i64))), (9, (.x (.i .i64)))], []⟩
noncomputable abbrev bursarref01_Sum.sh8_0 : SSh := ⟨[(4, (.x (.l (.i .i64)))), (5, (.x (.l (.i .i64)))), (7, (.x (.i .i64))), (8, (.x (.i .i64))), (9, (.x (.i .i64)))], []⟩
noncomputable abbrev bursarref01_Sum.os8_0 : PEnds := [(.n, ⟨[(4, (.x (.l (.i .i64)))), (5, (.x (.l (.i .i64)))), (7, (.x (.i .i64))), (8, (.x (.i .i64))), (9, (.x (.i .i64))), (45, (.x .b))], []⟩)]
noncomputable def bursarref01_Sum.l8_0 (s : ((List Int) × ((List Int) × (Int × (Int × Int))))) : Option (((List Int) × ((List Int) × (Int × (Int × (Int × Bool)))))) := (bif (decide ((s.2.2.2.1 < ((List.length s.1) : Int)))) then (some (s.1, (s.2.1, (s.2.2.1, (s.2.2.2.1, (s.2.2.2.2, true)))))) else (some (s.1, (s.2.1, (s.2.2.1, (s.2.2.2.1, (s.2.2.2.2, (decide ((s.2.2.2.2 < ((List.length s.2.1) : Int)))))))))))
theorem bursarref01_Sum.l8_0_ok : ∀ s : Vals bursarref01_Sum.sh8_0.tys, nodeK P bursarref01_Sum.H (lp []) (placeAt (bodyAt (codeOf P 14) 8) 0) 0 bursarref01_Sum.sh8_0 bursarref01_Sum.os8_0 s some = bursarref01_Sum.l8_0 s := fun s => by kernel_rfl
noncomputable abbrev bursarref01_Sum.sh8_4 : SSh := ⟨[(4, (.x (.l (.i .i64)))), (5, (.x (.l (.i .i64)))), (7, (.x (.i .i64))), (8, (.x (.i .i64))), (9, (.x (.i .i64)))], []⟩
noncomputable abbrev bursarref01_Sum.os8_4 : PEnds := [(.n, ⟨[(4, (.x (.l (.i .i64)))), (5, (.x (.l (.i .i64)))), (7, (.x (.i .i64))), (8, (.x (.i .i64))), (9, (.x (.i .i64))), (59, (.x .b))], []⟩)]
noncomputable def bursarref01_Sum.l8_4 (s : ((List Int) × ((List Int) × (Int × (Int × Int))))) : Option (((List Int) × ((List Int) × (Int × (Int × (Int × Bool)))))) := (bif (decide ((s.2.2.2.2 ≥ ((List.length s.2.1) : Int)))) then (some (s.1, (s.2.1, (s.2.2.1, (s.2.2.2.1, (s.2.2.2.2, true)))))) else (bif (decide ((s.2.2.2.1 < ((List.length s.1) : Int)))) then (some (s.1, (s.2.1, (s.2.2.1, (s.2.2.2.1, (s.2.2.2.2, (decide ((s.2.2.1 < (0 : Int)))))))))) else (some (s.1, (s.2.1, (s.2.2.1, (s.2.2.2.1, (s.2.2.2.2, false))))))))
theorem bursarref01_Sum.l8_4_ok : ∀ s : Vals bursarref01_Sum.sh8_4.tys, nodeK P bursarref01_Sum.H (lp []) (placeAt (bodyAt (codeOf P 14) 8) 4) 0 bursarref01_Sum.sh8_4 bursarref01_Sum.os8_4 s some = bursarref01_Sum.l8_4 s := fun s => by kernel_rfl
noncomputable abbrev bursarref01_Sum.sh8_5 : SSh := ⟨[(4, (.x (.l (.i .i64)))), (5, (.x (.l (.i .i64)))), (7, (.x (.i .i64))), (8, (.x (.i .i64))), (9, (.x (.i .i64))), (59, (.x .b))], []⟩
noncomputable abbrev bursarref01_Sum.os8_5 : PEnds := [(.n, ⟨[(4, (.x (.l (.i .i64)))), (5, (.x (.l (.i .i64)))), (7, (.x (.i .i64))), (8, (.x (.i .i64))), (9, (.x (.i .i64))), (10, (.x (.i .i64)))], []⟩)]
noncomputable def bursarref01_Sum.l8_5 (s : ((List Int) × ((List Int) × (Int × (Int × (Int × Bool)))))) : Option (((List Int) × ((List Int) × (Int × (Int × (Int × Int)))))) := (bif s.2.2.2.2.2 then (bif ((decide (((0 : Int) ≤ s.2.2.2.1))) && (decide ((s.2.2.2.1 < ((List.length s.1) : Int))))) then (some (s.1, (s.2.1, (s.2.2.1, ((IntKind.wrap .i64 (s.2.2.2.1 + (1 : Int))), (s.2.2.2.2.1, (List.getD s.1 (Int.toNat s.2.2.2.1) (0 : Int)))))))) else none) else (bif ((decide (((0 : Int) ≤ s.2.2.2.2.1))) && (decide ((s.2.2.2.2.1 < ((List.length s.2.1) : Int))))) then (some (s.1, (s.2.1, (s.2.2.1, (s.2.2.2.1, ((IntKind.wrap .i64 (s.2.2.2.2.1 + (1 : Int))), (List.getD s.2.1 (Int.toNat s.2.2.2.2.1) (0 : Int)))))))) else none))
theorem bursarref01_Sum.l8_5_ok : ∀ s : Vals bursarref01_Sum.sh8_5.tys, nodeK P bursarref01_Sum.H (lp []) (placeAt (bodyAt (codeOf P 14) 8) 5) 0 bursarref01_Sum.sh8_5 bursarref01_Sum.os8_5 s some = bursarref01_Sum.l8_5 s := fun s => by kernel_rfl
noncomputable abbrev bursarref01_Sum.sh8_10 : SSh := ⟨[(4, (.x (.l (.i .i64)))), (5, (.x (.l (.i .i64)))), (7, (.x (.i .i64))), (8, (.x (.i .i64))), (9, (.x (.i .i64))), (10, (.x (.i .i64)))], []⟩
noncomputable abbrev bursarref01_Sum.os8_10 : PEnds := [(.n, ⟨[(4, (.x (.l (.i .i64)))), (5, (.x (.l (.i .i64)))), (7, (.x (.i .i64))), (8, (.x (.i .i64))), (9, (.x (.i .i64))), (10, (.x (.i .i64))), (89, (.x .b))], []⟩)]
noncomputable def bursarref01_Sum.l8_10 (s : ((List Int) × ((List Int) × (Int × (Int × (Int × Int)))))) : Option (((List Int) × ((List Int) × (Int × (Int × (Int × (Int × Bool))))))) := (bif (decide ((s.2.2.2.2.2 > (0 : Int)))) then (bif (decide ((s.2.2.1 > (IntKind.wrap .i64 ((9223372036854775807 : Int) - s.2.2.2.2.2))))) then (some (s.1, (s.2.1, (s.2.2.1, (s.2.2.2.1, (s.2.2.2.2.1, (s.2.2.2.2.2, true))))))) else (bif (decide ((s.2.2.2.2.2 < (0 : Int)))) then (some (s.1, (s.2.1, (s.2.2.1, (s.2.2.2.1, (s.2.2.2.2.1, (s.2.2.2.2.2, (decide ((s.2.2.1 < (IntKind.wrap .i64 ((-9223372036854775808 : Int) - s.2.2.2.2.2)))))))))))) else (some (s.1, (s.2.1, (s.2.2.1, (s.2.2.2.1, (s.2.2.2.2.1, (s.2.2.2.2.2, false))))))))) else (bif (decide ((s.2.2.2.2.2 < (0 : Int)))) then (some (s.1, (s.2.1, (s.2.2.1, (s.2.2.2.1, (s.2.2.2.2.1, (s.2.2.2.2.2, (decide ((s.2.2.1 < (IntKind.wrap .i64 ((-9223372036854775808 : Int) - s.2.2.2.2.2)))))))))))) else (some (s.1, (s.2.1, (s.2.2.1, (s.2.2.2.1, (s.2.2.2.2.1, (s.2.2.2.2.2, false)))))))))
theorem bursarref01_Sum.l8_10_ok : ∀ s : Vals bursarref01_Sum.sh8_10.tys, nodeK P bursarref01_Sum.H (lp []) (placeAt (bodyAt (codeOf P 14) 8) 10) 0 bursarref01_Sum.sh8_10 bursarref01_Sum.os8_10 s some = bursarref01_Sum.l8_10 s := fun s => by kernel_rfl
noncomputable abbrev bursarref01_Sum.os8 : PEnds := [(.ret, ⟨[(2, (.x (.i .i64))), (3, (.x .b))], []⟩), ((.exit 2), ⟨[(7, (.x (.i .i64)))], []⟩)]
noncomputable def bursarref01_Sum.t8 (s : ((List Int) × ((List Int) × (Int × (Int × Int))))) : Option (((List Int) × ((List Int) × (Int × (Int × Int)))) ⊕ ((Int × Bool) ⊕ Int)) := (((bursarref01_Sum.l8_0 s)).bind fun x5 => (bif x5.2.2.2.2.2 then (((bursarref01_Sum.l8_4 (x5.1, (x5.2.1, (x5.2.2.1, (x5.2.2.2.1, x5.2.2.2.2.1)))))).bind fun x6 => (((bursarref01_Sum.l8_5 x6)).bind fun x7 => (((bursarref01_Sum.l8_10 x7)).bind fun x8 => (bif x8.2.2.2.2.2.2 then (some (.inr (.inl ((0 : Int), false)))) else (some (.inl (x8.1, (x8.2.1, ((IntKind.wrap .i64 (x8.2.2.1 + x8.2.2.2.2.2.1)), (x8.2.2.2.1, x8.2.2.2.2.1)))))))))) else (some (.inr (.inr x5.2.2.1)))))
theorem bursarref01_Sum.t8_ok : ∀ s : Vals bursarref01_Sum.sh8.tys, turnK P bursarref01_Sum.H (lp [(0, (NodeT.summ ⟨bursarref01_Sum.sh8_0, bursarref01_Sum.os8_0, bursarref01_Sum.l8_0⟩ 0)), (4, (NodeT.summ ⟨bursarref01_Sum.sh8_4, bursarref01_Sum.os8_4, bursarref01_Sum.l8_4⟩ 0)), (5, (NodeT.summ ⟨bursarref01_Sum.sh8_5, bursarref01_Sum.os8_5, bursarref01_Sum.l8_5⟩ 0)), (10, (NodeT.summ ⟨bursarref01_Sum.sh8_10, bursarref01_Sum.os8_10, bursarref01_Sum.l8_10⟩ 0))]) (bodyAt (codeOf P 14) 8) 0 bursarref01_Sum.sh8 bursarref01_Sum.os8 s some = bursarref01_Sum.t8 s := fun s => by kernel_rfl
noncomputable def bursarref01_Sum.l8 : ((List Int) × ((List Int) × (Int × (Int × Int)))) → Option ((Int × Bool) ⊕ Int) := rounds bursarref01_Sum.t8
noncomputable def bursarref01_Sum.f (a : (List Int)) : Option (Int × Bool) := (((bursarref01_Sum.l4 (a, ((0 : Int), ([], []))))).bind fun x1 => (((bursarref01_Sum.l8 (x1.1, (x1.2, ((0 : Int), ((0 : Int), (0 : Int))))))).bind fun x2 => (match x2 with | .inl x3 => (some x3) | .inr x3 => (some (x3, true)))))
theorem bursarref01_Sum.ok : ∀ a : Vals bursarref01_Sum.As.tys, fnK P bursarref01_Sum.H (lp [(4, (NodeT.summ ⟨bursarref01_Sum.sh4, bursarref01_Sum.os4, bursarref01_Sum.l4⟩ 0)), (8, (NodeT.summ ⟨bursarref01_Sum.sh8, bursarref01_Sum.os8, bursarref01_Sum.l8⟩ 0))]) 14 bursarref01_Sum.As bursarref01_Sum.m a some = bursarref01_Sum.f a := fun a => by kernel_rfl
noncomputable abbrev bursarref01_Sum.row : Row := fnRow 14 bursarref01_Sum.As bursarref01_Sum.m bursarref01_Sum.f
theorem bursarref01_Sum.row_ok : RowOK P G0 bursarref01_Sum.row := row_told bursarref01_Sum.hok (lp_of (l := [(4, (NodeT.summ ⟨bursarref01_Sum.sh4, bursarref01_Sum.os4, bursarref01_Sum.l4⟩ 0)), (8, (NodeT.summ ⟨bursarref01_Sum.sh8, bursarref01_Sum.os8, bursarref01_Sum.l8⟩ 0))]) ⟨(loop_sum bursarref01_Sum.hok (by kernel_rfl) (by kernel_rfl) (l := []) trivial bursarref01_Sum.sh4 bursarref01_Sum.os4 (by kernel_rfl) bursarref01_Sum.t4 bursarref01_Sum.t4_ok), ⟨(loop_sum bursarref01_Sum.hok (by kernel_rfl) (by kernel_rfl) (l := [(0, (NodeT.summ ⟨bursarref01_Sum.sh8_0, bursarref01_Sum.os8_0, bursarref01_Sum.l8_0⟩ 0)), (4, (NodeT.summ ⟨bursarref01_Sum.sh8_4, bursarref01_Sum.os8_4, bursarref01_Sum.l8_4⟩ 0)), (5, (NodeT.summ ⟨bursarref01_Sum.sh8_5, bursarref01_Sum.os8_5, bursarref01_Sum.l8_5⟩ 0)), (10, (NodeT.summ ⟨bursarref01_Sum.sh8_10, bursarref01_Sum.os8_10, bursarref01_Sum.l8_10⟩ 0))]) ⟨(place_sum bursarref01_Sum.hok (by kernel_rfl) (l := []) trivial bursarref01_Sum.sh8_0 bursarref01_Sum.os8_0 bursarref01_Sum.l8_0 bursarref01_Sum.l8_0_ok), ⟨(place_sum bursarref01_Sum.hok (by kernel_rfl) (l := []) trivial bursarref01_Sum.sh8_4 bursarref01_Sum.os8_4 bursarref01_Sum.l8_4 bursarref01_Sum.l8_4_ok), ⟨(place_sum bursarref01_Sum.hok (by kernel_rfl) (l := []) trivial bursarref01_Sum.sh8_5 bursarref01_Sum.os8_5 bursarref01_Sum.l8_5 bursarref01_Sum.l8_5_ok), ⟨(place_sum bursarref01_Sum.hok (by kernel_rfl) (l := []) trivial bursarref01_Sum.sh8_10 bursarref01_Sum.os8_10 bursarref01_Sum.l8_10 bursarref01_Sum.l8_10_ok), trivial⟩⟩⟩⟩ bursarref01_Sum.sh8 bursarref01_Sum.os8 (by kernel_rfl) bursarref01_Sum.t8 bursarref01_Sum.t8_ok), trivial⟩⟩) (fun _ => rfl) bursarref01_Sum.ok
end Go.Proofs.YtcadnpdhiolmfaaDoor
end
section
set_option linter.unusedVariables false
set_option linter.unusedSimpArgs false
namespace Go.Proofs.YtcadnpdhiolmfaaDoor
open Go Go.Fw
def fits (n : Int) : Bool := decide (-9223372036854775808 ≤ n) && decide (n ≤ 9223372036854775807)
def Amounts (l : List Int) : Prop := ∀ a ∈ l, -9223372036854775808 ≤ a ∧ a ≤ 9223372036854775807
theorem Amounts.at {l : List Int} (h : Amounts l) {i : Nat} (hi : i < l.length) : -9223372036854775808 ≤ l.getD i 0 ∧ l.getD i 0 ≤ 9223372036854775807 := by
  rw [getD_at hi]
  exact h _ (List.getElem_mem hi)
def upTo (l : List Int) (i : Nat) : Int := (l.take i).sum
theorem upTo_succ {l : List Int} {i : Nat} (h : i < l.length) : upTo l (i + 1) = upTo l i + l.getD i 0 := by
  unfold upTo
  rw [take_up 0 h, List.sum_append]
  simp
theorem upTo_bound {l : List Int} (h : Amounts l) : ∀ i : Nat, i ≤ l.length → -9223372036854775808 * (i : Int) ≤ upTo l i ∧ upTo l i ≤ 9223372036854775807 * (i : Int)
  | 0, _ => by simp [upTo]
  | i + 1, hi => by
    have ih := upTo_bound h i (by omega)
    have := h.at (i := i) (by omega)
    rw [upTo_succ (by omega)]
    omega
theorem wrap_back {n : Int} (h0 : 0 ≤ n) (h1 : n < 18446744073709551616) : IntKind.wrap .i64 n = if n ≥ 9223372036854775808 then n - 18446744073709551616 else n := by
  rw [IntKind.wrap_i64]; split <;> omega
def sumS (n : Int) : Int × Int := bif fits n then (n, 0) else (0, 2)
theorem money_Sum_is {l : List Int} (hs : l.length ≤ 4611686018427387904) (ha : Amounts l) : money_Sum.f l = some (sumS l.sum) := by
  have h := rounds_to (t := money_Sum.t4) (fun i => (upTo l i / 18446744073709551616, (upTo l i % 18446744073709551616, (l, ((l.length : Int), (i : Int)))))) l.length (fun i hi => by
    have h2 := wrap_up (n := i) (by omega)
    obtain ⟨hb1, hb2⟩ := upTo_bound ha i (by omega)
    obtain ⟨ha1, ha2⟩ := ha.at (i := i) (by omega)
    simp only [money_Sum.t4, Int.toNat_natCast, h2]
    rw [upTo_succ (by omega)]
    obtain ⟨a, hg⟩ : ∃ a, l.getD i 0 = a := ⟨_, rfl⟩
    obtain ⟨T, hT⟩ : ∃ T, upTo l i = T := ⟨_, rfl⟩
    simp only [hg, hT] at ha1 ha2 hb1 hb2 ⊢
    have d1 : (decide ((i : Int) < (l.length : Int))) = true := decide_eq_true (by omega)
    have d3 : decide ((0 : Int) ≤ (i : Int)) = true := decide_eq_true (by omega)
    have d4 : decide ((0 : Int) ≤ T % 18446744073709551616) = true := decide_eq_true (by omega)
    have d5 : decide ((0 : Int) ≤ IntKind.wrap .u64 a) = true := decide_eq_true (by rw [wrap_u64]; omega)
    have c5 : (T % 18446744073709551616 + IntKind.wrap .u64 a + 0) % 18446744073709551616 = (T + a) % 18446744073709551616 := by rw [wrap_u64]; omega
    have c4 : IntKind.wrap .i64 (T / 18446744073709551616 + IntKind.wrap .i64 (Int.fdiv a 9223372036854775808 + IntKind.wrap .i64 ((T % 18446744073709551616 + IntKind.wrap .u64 a + 0) / 18446744073709551616))) = (T + a) / 18446744073709551616 := by
      rw [wrap_u64, Int.fdiv_eq_ediv_of_nonneg a (by omega)]
      have w1 : IntKind.wrap .i64 ((T % 18446744073709551616 + a % 18446744073709551616 + 0) / 18446744073709551616) = (T % 18446744073709551616 + a % 18446744073709551616 + 0) / 18446744073709551616 := wrap_i64 (by omega) (by omega)
      rw [w1]
      have w2 : IntKind.wrap .i64 (a / 9223372036854775808 + (T % 18446744073709551616 + a % 18446744073709551616 + 0) / 18446744073709551616) = a / 9223372036854775808 + (T % 18446744073709551616 + a % 18446744073709551616 + 0) / 18446744073709551616 := wrap_i64 (by omega) (by omega)
      rw [w2, wrap_i64 (by omega) (by omega)]
      omega
    simp only [d1, d3, d4, d5, c4, c5, Bool.and_self, cond_true])
  have e : upTo l l.length = l.sum := by unfold upTo; rw [List.take_length]
  have hb := upTo_bound ha l.length (Nat.le_refl _)
  unfold money_Sum.f money_Sum.l4
  have h0 : ((0 : Int), ((0 : Int), (l, ((l.length : Int), (0 : Int))))) = (upTo l 0 / 18446744073709551616, (upTo l 0 % 18446744073709551616, (l, ((l.length : Int), ((0 : Nat) : Int))))) := rfl
  rw [h0, h, e, rounds_end (r := (l.sum / 18446744073709551616, l.sum % 18446744073709551616)) (by simp [money_Sum.t4])]
  rw [e] at hb
  simp only [Option.bind_some]
  unfold sumS
  generalize l.sum = s at hb ⊢
  have hw := wrap_back (n := s % 18446744073709551616) (by omega) (by omega)
  rw [hw, Int.fdiv_eq_ediv_of_nonneg _ (by omega)]
  by_cases hf : fits s = true
  · have hf' := hf
    simp only [fits, Bool.and_eq_true, decide_eq_true_eq] at hf'
    rw [hf]
    by_cases hn : s % 18446744073709551616 ≥ 9223372036854775808
    · rw [if_pos hn]
      have e : (s / 18446744073709551616 != (s % 18446744073709551616 - 18446744073709551616) / 9223372036854775808) = false := by simp; omega
      have e2 : s % 18446744073709551616 - 18446744073709551616 = s := by omega
      rw [e, e2]; rfl
    · rw [if_neg hn]
      have e : (s / 18446744073709551616 != s % 18446744073709551616 / 9223372036854775808) = false := by simp; omega
      have e2 : s % 18446744073709551616 = s := by omega
      rw [e, e2]; rfl
  · have hf' := hf
    simp only [fits, Bool.and_eq_true, decide_eq_true_eq] at hf'
    rw [Bool.eq_false_iff.mpr hf]
    by_cases hn : s % 18446744073709551616 ≥ 9223372036854775808
    · rw [if_pos hn]
      have e : (s / 18446744073709551616 != (s % 18446744073709551616 - 18446744073709551616) / 9223372036854775808) = true := by simp; omega
      rw [e]; rfl
    · rw [if_neg hn]
      have e : (s / 18446744073709551616 != s % 18446744073709551616 / 9223372036854775808) = true := by simp; omega
      rw [e]; rfl
def ups (l : List Int) : List Int := l.filter fun a => decide (0 ≤ a)
def downs (l : List Int) : List Int := l.filter fun a => !decide (0 ≤ a)
theorem ups_len (l : List Int) : (ups l).length ≤ l.length := List.length_filter_le _ _
theorem downs_len (l : List Int) : (downs l).length ≤ l.length := List.length_filter_le _ _
theorem ups_sum : ∀ l : List Int, (ups l).sum + (downs l).sum = l.sum
  | [] => rfl
  | a :: l => by
    have ih := ups_sum l
    unfold ups downs at *
    by_cases h : 0 ≤ a
    · simp [h]; omega
    · simp [h]; omega
theorem split_is {l : List Int} (hs : l.length ≤ 17592186044415) : bursarref01_Sum.l4 (l, ((0 : Int), ([], []))) = some (ups l, downs l) := by
  have h := rounds_to (t := bursarref01_Sum.t4) (fun i => (l, ((i : Int), (ups (l.take i), downs (l.take i))))) l.length (fun i hi => by
    have h2 := wrap_up (n := i) (by omega)
    have hu := ups_len (l.take i)
    have hd := downs_len (l.take i)
    rw [List.length_take] at hu hd
    have d1 : (decide ((i : Int) < (l.length : Int))) = true := decide_eq_true (by omega)
    have d3 : decide ((0 : Int) ≤ (i : Int)) = true := decide_eq_true (by omega)
    simp only [bursarref01_Sum.t4, Int.toNat_natCast, h2, d1, d3, Bool.and_self, cond_true]
    rw [take_up 0 hi]
    obtain ⟨a, hg⟩ : ∃ a, l.getD i 0 = a := ⟨_, rfl⟩
    simp only [hg]
    unfold ups at hu ⊢
    unfold downs at hd ⊢
    rw [List.filter_append, List.filter_append]
    have b1 : Nat.ble ((List.length ((l.take i).filter fun a => decide (0 ≤ a)) + List.length [a]) * 8) 140737488355328 = true := Nat.ble_eq_true_of_le (by simp only [List.length_cons, List.length_nil]; omega)
    have b2 : Nat.ble (List.length ((l.take i).filter fun a => decide (0 ≤ a)) + List.length [a]) 140737488355328 = true := Nat.ble_eq_true_of_le (by simp only [List.length_cons, List.length_nil]; omega)
    have b3 : Nat.ble ((List.length ((l.take i).filter fun a => !decide (0 ≤ a)) + List.length [a]) * 8) 140737488355328 = true := Nat.ble_eq_true_of_le (by simp only [List.length_cons, List.length_nil]; omega)
    have b4 : Nat.ble (List.length ((l.take i).filter fun a => !decide (0 ≤ a)) + List.length [a]) 140737488355328 = true := Nat.ble_eq_true_of_le (by simp only [List.length_cons, List.length_nil]; omega)
    rw [b1, b2, b3, b4]
    by_cases h : 0 ≤ a <;> simp [h])
  unfold bursarref01_Sum.l4
  have h0 : (l, ((0 : Int), (([] : List Int), ([] : List Int)))) = (l, (((0 : Nat) : Int), (ups (l.take 0), downs (l.take 0)))) := rfl
  rw [h0, h, List.take_length, rounds_end (r := (ups l, downs l)) (by simp [bursarref01_Sum.t4])]
open bursarref01_Sum in
theorem sum_end {u d : List Int} {s : Int} {i k : Nat} (h1 : u.length ≤ i) (h2 : d.length ≤ k) : t8 (u, (d, (s, ((i : Int), (k : Int))))) = some (.inr (.inr s)) := by
  have d1 : decide ((i : Int) < (u.length : Int)) = false := decide_eq_false (by omega)
  have d2 : decide ((k : Int) < (d.length : Int)) = false := decide_eq_false (by omega)
  simp only [t8, l8_0, d1, d2, cond_false, Option.bind_some]
open bursarref01_Sum in
theorem sum_up {u d : List Int} {s : Int} {i k : Nat} (h1 : i < u.length) (hu : u.length ≤ 4611686018427387904) (h2 : d.length ≤ k ∨ s < 0) (ha : 0 ≤ u.getD i 0 ∧ u.getD i 0 ≤ 9223372036854775807) (hs : -9223372036854775808 ≤ s ∧ s ≤ 9223372036854775807) :
    t8 (u, (d, (s, ((i : Int), (k : Int))))) = some (bif decide (s + u.getD i 0 ≤ 9223372036854775807) then .inl (u, (d, (s + u.getD i 0, (((i + 1 : Nat) : Int), (k : Int))))) else .inr (.inl (0, false))) := by
  have w := wrap_up (n := i) (by omega)
  have d1 : decide ((i : Int) < (u.length : Int)) = true := decide_eq_true (by omega)
  have d2 : decide ((0 : Int) ≤ (i : Int)) = true := decide_eq_true (by omega)
  have e4 : l8_4 (u, (d, (s, ((i : Int), (k : Int))))) = some (u, (d, (s, ((i : Int), ((k : Int), true))))) := by
    unfold l8_4
    rcases h2 with h2 | h2
    · simp only [show decide (((k : Int)) ≥ (d.length : Int)) = true from decide_eq_true (by omega), cond_true]
    · simp only [d1, show decide (s < 0) = true from decide_eq_true h2]
      cases decide (((k : Int)) ≥ (d.length : Int)) <;> rfl
  have e5 : l8_5 (u, (d, (s, ((i : Int), ((k : Int), true))))) = some (u, (d, (s, (((i + 1 : Nat) : Int), ((k : Int), u.getD i 0))))) := by
    simp only [l8_5, Int.toNat_natCast, w, d1, d2, Bool.and_self, cond_true]
  simp only [t8, l8_0, d1, cond_true, Option.bind_some, e4, e5]
  generalize u.getD i 0 = a at ha
  have w1 : IntKind.wrap .i64 (9223372036854775807 - a) = 9223372036854775807 - a := wrap_i64 (by omega) (by omega)
  have nlt : decide (a < 0) = false := decide_eq_false (by omega)
  by_cases hx : s + a ≤ 9223372036854775807
  · have w2 : IntKind.wrap .i64 (s + a) = s + a := wrap_i64 (by omega) (by omega)
    have n2 : decide (s > 9223372036854775807 - a) = false := decide_eq_false (by omega)
    simp only [l8_10, w1, nlt, n2, decide_eq_true hx]
    cases decide (a > 0) <;> simp [w2]
  · have p1 : decide (a > 0) = true := decide_eq_true (by omega)
    have p2 : decide (s > 9223372036854775807 - a) = true := decide_eq_true (by omega)
    simp only [l8_10, w1, nlt, p1, p2, decide_eq_false hx]
    rfl
open bursarref01_Sum in
theorem sum_down {u d : List Int} {s : Int} {i k : Nat} (h1 : k < d.length) (hd : d.length ≤ 4611686018427387904) (h2 : ¬ (i < u.length ∧ s < 0)) (ha : -9223372036854775808 ≤ d.getD k 0 ∧ d.getD k 0 < 0) (hs : -9223372036854775808 ≤ s ∧ s ≤ 9223372036854775807) :
    t8 (u, (d, (s, ((i : Int), (k : Int))))) = some (bif decide (-9223372036854775808 ≤ s + d.getD k 0) then .inl (u, (d, (s + d.getD k 0, ((i : Int), ((k + 1 : Nat) : Int))))) else .inr (.inl (0, false))) := by
  have w := wrap_up (n := k) (by omega)
  have d1 : decide ((k : Int) < (d.length : Int)) = true := decide_eq_true (by omega)
  have d2 : decide ((0 : Int) ≤ (k : Int)) = true := decide_eq_true (by omega)
  have d3 : decide ((k : Int) ≥ (d.length : Int)) = false := decide_eq_false (by omega)
  have e0 : l8_0 (u, (d, (s, ((i : Int), (k : Int))))) = some (u, (d, (s, ((i : Int), ((k : Int), true))))) := by
    simp only [l8_0, d1]
    cases decide ((i : Int) < (u.length : Int)) <;> rfl
  have e4 : l8_4 (u, (d, (s, ((i : Int), (k : Int))))) = some (u, (d, (s, ((i : Int), ((k : Int), false))))) := by
    simp only [l8_4, d3]
    by_cases hi : i < u.length
    · rw [show decide (s < 0) = false from decide_eq_false fun h => h2 ⟨hi, h⟩]
      cases decide ((i : Int) < (u.length : Int)) <;> rfl
    · rw [show decide ((i : Int) < (u.length : Int)) = false from decide_eq_false (by omega)]; rfl
  have e5 : l8_5 (u, (d, (s, ((i : Int), ((k : Int), false))))) = some (u, (d, (s, ((i : Int), (((k + 1 : Nat) : Int), d.getD k 0))))) := by
    simp only [l8_5, Int.toNat_natCast, w, d1, d2, Bool.and_self, cond_true, cond_false]
  simp only [t8, e0, cond_true, Option.bind_some, e4, e5]
  generalize d.getD k 0 = a at ha
  have w1 : IntKind.wrap .i64 (-9223372036854775808 - a) = -9223372036854775808 - a := wrap_i64 (by omega) (by omega)
  have ngt : decide (a > 0) = false := decide_eq_false (by omega)
  have plt : decide (a < 0) = true := decide_eq_true (by omega)
  by_cases hx : -9223372036854775808 ≤ s + a
  · have w2 : IntKind.wrap .i64 (s + a) = s + a := wrap_i64 (by omega) (by omega)
    have n2 : decide (s < -9223372036854775808 - a) = false := decide_eq_false (by omega)
    simp only [l8_10, w1, ngt, plt, n2, decide_eq_true hx, cond_false, cond_true, Option.bind_some, w2]
  · have p2 : decide (s < -9223372036854775808 - a) = true := decide_eq_true (by omega)
    simp only [l8_10, w1, ngt, plt, p2, decide_eq_false hx, cond_false, cond_true, Option.bind_some]
theorem drop_sum {l : List Int} {i : Nat} (h : i < l.length) : (l.drop i).sum = l.getD i 0 + (l.drop (i + 1)).sum := by
  rw [List.drop_eq_getElem_cons h, List.sum_cons, getD_at h]
theorem nonneg_sum : ∀ {l : List Int}, (∀ a ∈ l, 0 ≤ a) → 0 ≤ l.sum
  | [], _ => by simp
  | a :: l, h => by
    have := nonneg_sum (l := l) fun b hb => h b (List.mem_cons_of_mem _ hb)
    have := h a List.mem_cons_self
    rw [List.sum_cons]; omega
theorem neg_sum : ∀ {l : List Int}, (∀ a ∈ l, a < 0) → l.sum ≤ 0
  | [], _ => by simp
  | a :: l, h => by
    have := neg_sum (l := l) fun b hb => h b (List.mem_cons_of_mem _ hb)
    have := h a List.mem_cons_self
    rw [List.sum_cons]; omega
theorem mix_is {u d : List Int} (hu : u.length ≤ 4611686018427387904) (hd : d.length ≤ 4611686018427387904) (hua : ∀ a ∈ u, 0 ≤ a ∧ a ≤ 9223372036854775807) (hda : ∀ a ∈ d, -9223372036854775808 ≤ a ∧ a < 0) (m : Nat) :
    ∀ (i k : Nat) (s : Int), u.length - i + (d.length - k) = m → -9223372036854775808 ≤ s ∧ s ≤ 9223372036854775807 →
      bursarref01_Sum.l8 (u, (d, (s, ((i : Int), (k : Int))))) = some (bif fits (s + (u.drop i).sum + (d.drop k).sum) then .inr (s + (u.drop i).sum + (d.drop k).sum) else .inl (0, false)) := by
  have un : ∀ i, 0 ≤ (u.drop i).sum := fun i => nonneg_sum fun a ha => (hua a (List.mem_of_mem_drop ha)).1
  have dn : ∀ k, (d.drop k).sum ≤ 0 := fun k => neg_sum fun a ha => (hda a (List.mem_of_mem_drop ha)).2
  induction m with
  | zero =>
    intro i k s hm hs
    unfold bursarref01_Sum.l8
    rw [rounds_end (sum_end (by omega) (by omega)), List.drop_eq_nil_of_le (by omega), List.drop_eq_nil_of_le (by omega)]
    simp [fits, hs.1, hs.2]
  | succ m ih =>
    intro i k s hm hs
    unfold bursarref01_Sum.l8 at ih ⊢
    by_cases hc : i < u.length ∧ (d.length ≤ k ∨ s < 0)
    · obtain ⟨h1, h2⟩ := hc
      have ha := hua (u.getD i 0) (by rw [getD_at h1]; exact List.getElem_mem h1)
      have h := sum_up h1 hu h2 ha hs
      rw [drop_sum h1]
      have un' := un (i + 1)
      generalize hg : u.getD i 0 = a at ha h ⊢
      by_cases hx : s + a ≤ 9223372036854775807
      · rw [decide_eq_true hx, cond_true] at h
        rw [rounds_next h, ih (i + 1) k (s + a) (by omega) (by omega)]
        have e : s + a + (u.drop (i + 1)).sum + (d.drop k).sum = s + (a + (u.drop (i + 1)).sum) + (d.drop k).sum := by omega
        rw [e]
      · rw [decide_eq_false hx, cond_false] at h
        have h3 : d.length ≤ k := by rcases h2 with h2 | h2 <;> omega
        have e : (d.drop k).sum = 0 := by rw [List.drop_eq_nil_of_le h3]; rfl
        have nf : fits (s + (a + (u.drop (i + 1)).sum) + (d.drop k).sum) = false := by
          rw [e]
          unfold fits
          rw [decide_eq_false (p := s + (a + (u.drop (i + 1)).sum) + 0 ≤ 9223372036854775807) (by omega), Bool.and_false]
        rw [rounds_end h, nf]; rfl
    · have h1 : k < d.length := by
        by_cases hi : i < u.length
        · by_cases hk : k < d.length
          · exact hk
          · exact absurd ⟨hi, .inl (by omega)⟩ hc
        · omega
      have h2 : ¬ (i < u.length ∧ s < 0) := fun h => hc ⟨h.1, .inr h.2⟩
      have ha := hda (d.getD k 0) (by rw [getD_at h1]; exact List.getElem_mem h1)
      have h := sum_down h1 hd h2 ha hs
      rw [drop_sum h1]
      have dn' := dn (k + 1)
      generalize hg : d.getD k 0 = a at ha h ⊢
      by_cases hx : -9223372036854775808 ≤ s + a
      · rw [decide_eq_true hx, cond_true] at h
        rw [rounds_next h, ih i (k + 1) (s + a) (by omega) (by omega)]
        have e : s + a + (u.drop i).sum + (d.drop (k + 1)).sum = s + (u.drop i).sum + (a + (d.drop (k + 1)).sum) := by omega
        rw [e]
      · rw [decide_eq_false hx, cond_false] at h
        have h3 : u.length ≤ i := by
          by_cases hi : i < u.length
          · have : ¬ s < 0 := fun hs => h2 ⟨hi, hs⟩
            omega
          · omega
        have e : (u.drop i).sum = 0 := by rw [List.drop_eq_nil_of_le h3]; rfl
        have nf : fits (s + (u.drop i).sum + (a + (d.drop (k + 1)).sum)) = false := by
          rw [e]
          unfold fits
          rw [decide_eq_false (p := -9223372036854775808 ≤ s + 0 + (a + (d.drop (k + 1)).sum)) (by omega), Bool.false_and]
        rw [rounds_end h, nf]; rfl
def sumR (n : Int) : Int × Bool := bif fits n then (n, true) else (0, false)
theorem ref_Sum_is {l : List Int} (hs : l.length ≤ 17592186044415) (ha : Amounts l) : bursarref01_Sum.f l = some (sumR l.sum) := by
  have hu := ups_len l
  have hd := downs_len l
  have h := mix_is (u := ups l) (d := downs l) (by omega) (by omega) (fun a h => by
    have h' := List.mem_filter.1 h
    have := ha a h'.1
    have := h'.2
    simp only [decide_eq_true_eq] at this
    omega) (fun a h => by
    have h' := List.mem_filter.1 h
    have := ha a h'.1
    have := h'.2
    simp at this
    omega) _ 0 0 0 rfl (by omega)
  unfold bursarref01_Sum.f
  rw [split_is hs, Option.bind_some]
  rw [show ((0 : Nat) : Int) = 0 from rfl] at h
  rw [h, Option.bind_some, List.drop_zero, List.drop_zero, show 0 + (ups l).sum + (downs l).sum = l.sum by have := ups_sum l; omega]
  unfold sumR
  cases fits l.sum <;> rfl
end Go.Proofs.YtcadnpdhiolmfaaDoor
end
section
set_option linter.unusedVariables false
set_option maxRecDepth 100000
namespace Go.Proofs.YtcadnpdhiolmfaaDoor
open Go Go.Fw
abbrev money_size.As : Shs := (.cons (.x (.i .i64)) .nil)
abbrev money_size.m : Back := [(false, (.i .u64))]
noncomputable abbrev money_size.H : HK := hk P G0 E0 J0 [] noLoops 4
theorem money_size.rows : TabOK P G0 (tabF []) := rows_ok (ws := []) trivial
theorem money_size.hok : HKOK P money_size.H := hk_ok e0_ok j0_ok money_size.rows (fun g n => noLoops_ok g n) 4
noncomputable def money_size.f (a : Int) : Option Int := (bif (decide ((a < (0 : Int)))) then (some (IntKind.wrap .u64 ((0 : Int) - (IntKind.wrap .u64 a)))) else (some (IntKind.wrap .u64 a)))
theorem money_size.ok : ∀ a : Vals money_size.As.tys, fnK P money_size.H (lp []) 39 money_size.As money_size.m a some = money_size.f a := fun a => by kernel_rfl
noncomputable abbrev money_size.row : Row := fnRow 39 money_size.As money_size.m money_size.f
theorem money_size.row_ok : RowOK P G0 money_size.row := row_told money_size.hok (lp_of (l := []) trivial) (fun _ => rfl) money_size.ok
abbrev money_signed.As : Shs := (.cons (.x (.i .u64)) (.cons (.x .b) .nil))
abbrev money_signed.m : Back := [(false, (.i .i64)), (false, (.i .i64))]
noncomputable abbrev money_signed.H : HK := hk P G0 E0 J0 [] noLoops 4
theorem money_signed.rows : TabOK P G0 (tabF []) := rows_ok (ws := []) trivial
theorem money_signed.hok : HKOK P money_signed.H := hk_ok e0_ok j0_ok money_signed.rows (fun g n => noLoops_ok g n) 4
noncomputable def money_signed.f (a : (Int × Bool)) : Option (Int × Int) := (bif a.2 then (bif (decide ((a.1 ≤ (9223372036854775808 : Int)))) then (some ((IntKind.wrap .i64 (IntKind.wrap .u64 ((0 : Int) - a.1))), (0 : Int))) else (bif (!a.2) then (bif (decide ((a.1 ≤ (9223372036854775807 : Int)))) then (some ((IntKind.wrap .i64 a.1), (0 : Int))) else (some ((0 : Int), (2 : Int)))) else (some ((0 : Int), (2 : Int))))) else (bif (!a.2) then (bif (decide ((a.1 ≤ (9223372036854775807 : Int)))) then (some ((IntKind.wrap .i64 a.1), (0 : Int))) else (some ((0 : Int), (2 : Int)))) else (some ((0 : Int), (2 : Int)))))
theorem money_signed.ok : ∀ a : Vals money_signed.As.tys, fnK P money_signed.H (lp []) 54 money_signed.As money_signed.m a some = money_signed.f a := fun a => by kernel_rfl
noncomputable abbrev money_signed.row : Row := fnRow 54 money_signed.As money_signed.m money_signed.f
theorem money_signed.row_ok : RowOK P G0 money_signed.row := row_told money_signed.hok (lp_of (l := []) trivial) (fun _ => rfl) money_signed.ok
end Go.Proofs.YtcadnpdhiolmfaaDoor
end
section
set_option linter.unusedVariables false
set_option linter.unusedSimpArgs false
namespace Go.Proofs.YtcadnpdhiolmfaaDoor
open Go Go.Fw
def Told (r : Int × Bool) (n : Int) : Prop := r.2 = fits n ∧ (fits n = true → r.1 = n)
end Go.Proofs.YtcadnpdhiolmfaaDoor
end
section
set_option linter.unusedVariables false
set_option maxRecDepth 100000
namespace Go.Proofs.YtcadnpdhiolmfaaDoor
open Go Go.Fw
abbrev entry_ref.As : Shs := (.cons (.x .s) .nil)
abbrev entry_ref.m : Back := [(false, .b)]
noncomputable abbrev entry_ref.H : HK := hk P G0 E0 J0 [] noLoops 4
theorem entry_ref.rows : TabOK P G0 (tabF []) := rows_ok (ws := []) trivial
theorem entry_ref.hok : HKOK P entry_ref.H := hk_ok e0_ok j0_ok entry_ref.rows (fun g n => noLoops_ok g n) 4
noncomputable abbrev entry_ref.shi0 : SSh := ⟨[(1, (.fn 44 .nil)), (2, (.x .b)), (10, (.pt 0 0))], [.it]⟩
noncomputable abbrev entry_ref.osi0 : PEnds := [(.ret, ⟨[(6, (.x (.i .i64)))], []⟩), ((.exit 0), ⟨[], []⟩)]
noncomputable def entry_ref.ti0 (s : (Bool × (ByteArray × Int))) : Option ((Bool × (ByteArray × Int)) ⊕ (Int ⊕ Unit)) := (bif (Nat.blt (Int.toNat s.2.2) s.2.1.size) then (bif (decide ((((runeD s.2.1 (Int.toNat s.2.2)).1 : Int) < (33 : Int)))) then (bif (true == s.1) then (some (.inr (.inl ((Int.toNat s.2.2) : Int)))) else (some (.inl (s.1, (s.2.1, (((Int.toNat s.2.2) + (runeD s.2.1 (Int.toNat s.2.2)).2) : Int)))))) else (bif ((decide ((((runeD s.2.1 (Int.toNat s.2.2)).1 : Int) > (126 : Int)))) == s.1) then (some (.inr (.inl ((Int.toNat s.2.2) : Int)))) else (some (.inl (s.1, (s.2.1, (((Int.toNat s.2.2) + (runeD s.2.1 (Int.toNat s.2.2)).2) : Int))))))) else (some (.inr (.inr ()))))
theorem entry_ref.ti0_ok : ∀ s : Vals entry_ref.shi0.tys, turnK P entry_ref.H (lp []) (bodyAt (codeOf P 77) 3) 0 entry_ref.shi0 entry_ref.osi0 s some = entry_ref.ti0 s := fun s => by kernel_rfl
noncomputable def entry_ref.li0 : (Bool × (ByteArray × Int)) → Option (Int ⊕ Unit) := rounds entry_ref.ti0
noncomputable abbrev entry_ref.L1 : ILp := [(77, 0, [(3, (NodeT.summ ⟨entry_ref.shi0, entry_ref.osi0, entry_ref.li0⟩ 0))])]
theorem entry_ref.L1ok : ILpOK P G0 entry_ref.L1 := ⟨⟨(loop_sum entry_ref.hok (by kernel_rfl) (by kernel_rfl) (l := []) trivial entry_ref.shi0 entry_ref.osi0 (by kernel_rfl) entry_ref.ti0 entry_ref.ti0_ok), trivial⟩, trivial⟩
noncomputable abbrev entry_ref.H1 : HK := hk P G0 E0 J0 [] (ilp entry_ref.L1) 4
theorem entry_ref.hok1 : HKOK P entry_ref.H1 := hk_ok e0_ok j0_ok entry_ref.rows (fun g n => ilp_ok entry_ref.L1ok g n) 4
noncomputable def entry_ref.f (a : ByteArray) : Option Bool := (bif (decide (((a.size : Int) ≤ (20 : Int)))) then (((entry_ref.li0 (true, (a, (0 : Int))))).bind fun x1 => (match x1 with | .inl x2 => (some (!(decide ((x2 ≥ (0 : Int)))))) | .inr x2 => (some true))) else (some false))
theorem entry_ref.ok : ∀ a : Vals entry_ref.As.tys, fnK P entry_ref.H1 (lp []) 20 entry_ref.As entry_ref.m a some = entry_ref.f a := fun a => by kernel_rfl
noncomputable abbrev entry_ref.row : Row := fnRow 20 entry_ref.As entry_ref.m entry_ref.f
theorem entry_ref.row_ok : RowOK P G0 entry_ref.row := row_told entry_ref.hok1 (lp_of (l := []) trivial) (fun _ => rfl) entry_ref.ok
abbrev entry_Check.As : Shs := (.cons (.x T_api_Entry) .nil)
abbrev entry_Check.m : Back := [(false, (.i .i64))]
noncomputable abbrev entry_Check.H : HK := hk P G0 E0 J0 [entry_ref.row, money_Sum.row, chart_May.row] noLoops 4
theorem entry_Check.rows : TabOK P G0 (tabF [entry_ref.row, money_Sum.row, chart_May.row]) := rows_ok (ws := [entry_ref.row, money_Sum.row, chart_May.row]) ⟨entry_ref.row_ok, ⟨money_Sum.row_ok, ⟨chart_May.row_ok, trivial⟩⟩⟩
theorem entry_Check.hok : HKOK P entry_Check.H := hk_ok e0_ok j0_ok entry_Check.rows (fun g n => noLoops_ok g n) 4
noncomputable abbrev entry_Check.shi0 : SSh := ⟨[(0, (.x (.l (.g (.p (.g (.p (.i .i64) .s)) (.i .i64)))))), (1, (.fn 18 (.cons (.pt 2 0) .nil))), (7, (.x (.i .i64))), (8, (.x (.i .i64)))], [.box (.cons (.x (.i .i64)) (.cons (.x .s) (.cons (.x (.l (.g (.p (.g (.p (.i .i64) .s)) (.i .i64))))) .nil))), .mp T_api_Account .b, .box (.cons (.mp 1) .nil)]⟩
noncomputable abbrev entry_Check.osi0 : PEnds := [(.ret, ⟨[(4, (.x (.i .i64)))], [.box (.cons (.x (.i .i64)) (.cons (.x .s) (.cons (.x (.l (.g (.p (.g (.p (.i .i64) .s)) (.i .i64))))) .nil))), .mp T_api_Account .b, .box (.cons (.mp 1) .nil)]⟩), ((.exit 0), ⟨[], [.box (.cons (.x (.i .i64)) (.cons (.x .s) (.cons (.x (.l (.g (.p (.g (.p (.i .i64) .s)) (.i .i64))))) .nil))), .mp T_api_Account .b, .box (.cons (.mp 1) .nil)]⟩)]
noncomputable def entry_Check.ti0 (s : ((List ((Int × ByteArray) × Int)) × (Int × (Int × (Int × (ByteArray × ((List ((Int × ByteArray) × Int)) × (List ((Int × ByteArray) × Bool))))))))) : Option (((List ((Int × ByteArray) × Int)) × (Int × (Int × (Int × (ByteArray × ((List ((Int × ByteArray) × Int)) × (List ((Int × ByteArray) × Bool)))))))) ⊕ ((Int × (Int × (ByteArray × ((List ((Int × ByteArray) × Int)) × (List ((Int × ByteArray) × Bool)))))) ⊕ (Int × (ByteArray × ((List ((Int × ByteArray) × Int)) × (List ((Int × ByteArray) × Bool))))))) := (bif (decide ((s.2.2.1 < s.2.1))) then (bif ((decide (((0 : Int) ≤ s.2.2.1))) && (decide ((s.2.2.1 < ((List.length s.1) : Int))))) then (bif (Ty.keyFit T_api_Account (List.getD s.1 (Int.toNat s.2.2.1) (Ty.dflt T_api_Line)).1) then (bif (Ty.keyFit T_api_Account (List.getD s.1 (Int.toNat s.2.2.1) (Ty.dflt T_api_Line)).1) then (bif (mgetD T_api_Account .b s.2.2.2.2.2.2 (List.getD s.1 (Int.toNat s.2.2.1) (Ty.dflt T_api_Line)).1 false) then (some (.inr (.inl (s.2.2.1, (s.2.2.2.1, (s.2.2.2.2.1, (s.2.2.2.2.2.1, (mput T_api_Account .b s.2.2.2.2.2.2 (List.getD s.1 (Int.toNat s.2.2.1) (Ty.dflt T_api_Line)).1 true)))))))) else (bif ((List.getD s.1 (Int.toNat s.2.2.1) (Ty.dflt T_api_Line)).2 == (0 : Int)) then (some (.inr (.inl (s.2.2.1, (s.2.2.2.1, (s.2.2.2.2.1, (s.2.2.2.2.2.1, (mput T_api_Account .b s.2.2.2.2.2.2 (List.getD s.1 (Int.toNat s.2.2.1) (Ty.dflt T_api_Line)).1 true)))))))) else (((chart_May.f (List.getD s.1 (Int.toNat s.2.2.1) (Ty.dflt T_api_Line)).1)).bind fun x7 => (bif (!x7) then (some (.inr (.inl (s.2.2.1, (s.2.2.2.1, (s.2.2.2.2.1, (s.2.2.2.2.2.1, (mput T_api_Account .b s.2.2.2.2.2.2 (List.getD s.1 (Int.toNat s.2.2.1) (Ty.dflt T_api_Line)).1 true)))))))) else (some (.inl (s.1, (s.2.1, ((IntKind.wrap .i64 (s.2.2.1 + (1 : Int))), (s.2.2.2.1, (s.2.2.2.2.1, (s.2.2.2.2.2.1, (mput T_api_Account .b s.2.2.2.2.2.2 (List.getD s.1 (Int.toNat s.2.2.1) (Ty.dflt T_api_Line)).1 true))))))))))))) else none) else none) else none) else (some (.inr (.inr s.2.2.2))))
theorem entry_Check.ti0_ok : ∀ s : Vals entry_Check.shi0.tys, turnK P entry_Check.H (lp []) (bodyAt (codeOf P 45) 3) 3 entry_Check.shi0 entry_Check.osi0 s some = entry_Check.ti0 s := fun s => by kernel_rfl
noncomputable def entry_Check.li0 : ((List ((Int × ByteArray) × Int)) × (Int × (Int × (Int × (ByteArray × ((List ((Int × ByteArray) × Int)) × (List ((Int × ByteArray) × Bool)))))))) → Option ((Int × (Int × (ByteArray × ((List ((Int × ByteArray) × Int)) × (List ((Int × ByteArray) × Bool)))))) ⊕ (Int × (ByteArray × ((List ((Int × ByteArray) × Int)) × (List ((Int × ByteArray) × Bool)))))) := rounds entry_Check.ti0
noncomputable abbrev entry_Check.shi1 : SSh := ⟨[(0, (.yd 5 [5] (.cons (.pt 3 0) .nil) [46] (rfA P 7 0) (rfB P 7 0))), (5, (.x (.l (.g (.p (.g (.p (.i .i64) .s)) (.i .i64)))))), (6, (.x (.i .i64))), (7, (.x (.i .i64)))], [.box (.cons (.x (.i .i64)) (.cons (.x .s) (.cons (.x (.l (.g (.p (.g (.p (.i .i64) .s)) (.i .i64))))) .nil))), .mp T_api_Account .b, .box (.cons (.mp 1) .nil), .box (.cons (.own 6 1) .nil), .box (.cons (.x (.l (.g (.p (.g (.p (.i .i64) .s)) (.i .i64))))) .nil), .lp false, .arrN (.i .i64)]⟩
noncomputable abbrev entry_Check.L1 : ILp := [(45, 3, [(3, (NodeT.summ ⟨entry_Check.shi0, entry_Check.osi0, entry_Check.li0⟩ 3))])]
theorem entry_Check.L1ok : ILpOK P G0 entry_Check.L1 := ⟨⟨(loop_sum entry_Check.hok (by kernel_rfl) (by kernel_rfl) (l := []) trivial entry_Check.shi0 entry_Check.osi0 (by kernel_rfl) entry_Check.ti0 entry_Check.ti0_ok), trivial⟩, trivial⟩
noncomputable abbrev entry_Check.H1 : HK := hk P G0 E0 J0 [entry_ref.row, money_Sum.row, chart_May.row] (ilp entry_Check.L1) 4
theorem entry_Check.hok1 : HKOK P entry_Check.H1 := hk_ok e0_ok j0_ok entry_Check.rows (fun g n => ilp_ok entry_Check.L1ok g n) 4
noncomputable abbrev entry_Check.osi1 : PEnds := [((.exit 0), ⟨[], [.box (.cons (.x (.i .i64)) (.cons (.x .s) (.cons (.x (.l (.g (.p (.g (.p (.i .i64) .s)) (.i .i64))))) .nil))), .mp T_api_Account .b, .box (.cons (.mp 1) .nil), .box (.cons (.own 6 1) .nil), .box (.cons (.x (.l (.g (.p (.g (.p (.i .i64) .s)) (.i .i64))))) .nil), .lp false, .arrN (.i .i64)]⟩)]
noncomputable def entry_Check.ti1 (s : ((List ((Int × ByteArray) × Int)) × (Int × (Int × (Int × (ByteArray × ((List ((Int × ByteArray) × Int)) × ((List ((Int × ByteArray) × Bool)) × ((List ((Int × ByteArray) × Int)) × (List Int)))))))))) : Option (((List ((Int × ByteArray) × Int)) × (Int × (Int × (Int × (ByteArray × ((List ((Int × ByteArray) × Int)) × ((List ((Int × ByteArray) × Bool)) × ((List ((Int × ByteArray) × Int)) × (List Int))))))))) ⊕ ((Int × (ByteArray × ((List ((Int × ByteArray) × Int)) × ((List ((Int × ByteArray) × Bool)) × ((List ((Int × ByteArray) × Int)) × (List Int)))))))) := (bif (decide ((s.2.2.1 < s.2.1))) then (bif ((decide (((0 : Int) ≤ s.2.2.1))) && (decide ((s.2.2.1 < ((List.length s.1) : Int))))) then (bif ((true && (Nat.ble (((List.length s.2.2.2.2.2.2.2.2) + (List.length ((List.getD s.1 (Int.toNat s.2.2.1) (Ty.dflt T_api_Line)).2 :: []))) * 8) 140737488355328)) && (Nat.ble ((List.length s.2.2.2.2.2.2.2.2) + (List.length ((List.getD s.1 (Int.toNat s.2.2.1) (Ty.dflt T_api_Line)).2 :: []))) 140737488355328)) then (some (.inl (s.1, (s.2.1, ((IntKind.wrap .i64 (s.2.2.1 + (1 : Int))), (s.2.2.2.1, (s.2.2.2.2.1, (s.2.2.2.2.2.1, (s.2.2.2.2.2.2.1, (s.2.2.2.2.2.2.2.1, (s.2.2.2.2.2.2.2.2 ++ ((List.getD s.1 (Int.toNat s.2.2.1) (Ty.dflt T_api_Line)).2 :: [])))))))))))) else none) else none) else (some (.inr s.2.2.2)))
theorem entry_Check.ti1_ok : ∀ s : Vals entry_Check.shi1.tys, turnK P entry_Check.H1 (lp []) (bodyAt (codeOf P 46) 2) 6 entry_Check.shi1 entry_Check.osi1 s some = entry_Check.ti1 s := by rintro ⟨s0, s1, s2, s3, s4, s5, s6, s7, s8⟩; cases s8 <;> kernel_rfl
noncomputable def entry_Check.li1 : ((List ((Int × ByteArray) × Int)) × (Int × (Int × (Int × (ByteArray × ((List ((Int × ByteArray) × Int)) × ((List ((Int × ByteArray) × Bool)) × ((List ((Int × ByteArray) × Int)) × (List Int))))))))) → Option ((Int × (ByteArray × ((List ((Int × ByteArray) × Int)) × ((List ((Int × ByteArray) × Bool)) × ((List ((Int × ByteArray) × Int)) × (List Int))))))) := rounds entry_Check.ti1
noncomputable abbrev entry_Check.L2 : ILp := [(45, 3, [(3, (NodeT.summ ⟨entry_Check.shi0, entry_Check.osi0, entry_Check.li0⟩ 3))]), (46, 6, [(2, (NodeT.summ ⟨entry_Check.shi1, entry_Check.osi1, entry_Check.li1⟩ 6))])]
theorem entry_Check.L2ok : ILpOK P G0 entry_Check.L2 := ⟨⟨(loop_sum entry_Check.hok (by kernel_rfl) (by kernel_rfl) (l := []) trivial entry_Check.shi0 entry_Check.osi0 (by kernel_rfl) entry_Check.ti0 entry_Check.ti0_ok), trivial⟩, ⟨⟨(loop_sum entry_Check.hok1 (by kernel_rfl) (by kernel_rfl) (l := []) trivial entry_Check.shi1 entry_Check.osi1 (by kernel_rfl) entry_Check.ti1 entry_Check.ti1_ok), trivial⟩, trivial⟩⟩
noncomputable abbrev entry_Check.H2 : HK := hk P G0 E0 J0 [entry_ref.row, money_Sum.row, chart_May.row] (ilp entry_Check.L2) 4
theorem entry_Check.hok2 : HKOK P entry_Check.H2 := hk_ok e0_ok j0_ok entry_Check.rows (fun g n => ilp_ok entry_Check.L2ok g n) 4
noncomputable def entry_Check.f (a : (Int × (ByteArray × (List ((Int × ByteArray) × Int))))) : Option Int := (bif (decide ((a.1 < (0 : Int)))) then (some (1 : Int)) else (bif (decide ((a.1 > (2147483647 : Int)))) then (some (1 : Int)) else (((entry_ref.f a.2.1)).bind fun x1 => (bif (!x1) then (some (1 : Int)) else (bif (decide ((((List.length a.2.2) : Int) < (2 : Int)))) then (some (1 : Int)) else (bif (decide ((((List.length a.2.2) : Int) > (8 : Int)))) then (some (1 : Int)) else (((entry_Check.li0 (a.2.2, (((List.length a.2.2) : Int), ((0 : Int), (a.1, (a.2.1, (a.2.2, [])))))))).bind fun x2 => (match x2 with | .inl x3 => (bif (decide ((x3.1 ≥ (0 : Int)))) then (some (1 : Int)) else (((entry_Check.li1 (x3.2.2.2.1, (((List.length x3.2.2.2.1) : Int), ((0 : Int), (x3.2.1, (x3.2.2.1, (x3.2.2.2.1, (x3.2.2.2.2, (x3.2.2.2.1, [])))))))))).bind fun x4 => (match x4.2.2.2.2.2 with | [] => (((money_Sum.f [])).bind fun x5 => (bif (x5.2 != (0 : Int)) then (some x5.2) else (bif (x5.1 != (0 : Int)) then (some (12 : Int)) else (some (0 : Int))))) | x5 :: x6 => (((money_Sum.f (x5 :: x6))).bind fun x7 => (bif (x7.2 != (0 : Int)) then (some x7.2) else (bif (x7.1 != (0 : Int)) then (some (12 : Int)) else (some (0 : Int)))))))) | .inr x3 => (((entry_Check.li1 (x3.2.2.1, (((List.length x3.2.2.1) : Int), ((0 : Int), (x3.1, (x3.2.1, (x3.2.2.1, (x3.2.2.2, (x3.2.2.1, [])))))))))).bind fun x4 => (match x4.2.2.2.2.2 with | [] => (((money_Sum.f [])).bind fun x5 => (bif (x5.2 != (0 : Int)) then (some x5.2) else (bif (x5.1 != (0 : Int)) then (some (12 : Int)) else (some (0 : Int))))) | x5 :: x6 => (((money_Sum.f (x5 :: x6))).bind fun x7 => (bif (x7.2 != (0 : Int)) then (some x7.2) else (bif (x7.1 != (0 : Int)) then (some (12 : Int)) else (some (0 : Int)))))))))))))))
theorem entry_Check.ok : ∀ a : Vals entry_Check.As.tys, fnK P entry_Check.H2 (lp []) 7 entry_Check.As entry_Check.m a some = entry_Check.f a := fun a => by kernel_rfl
noncomputable abbrev entry_Check.row : Row := fnRow 7 entry_Check.As entry_Check.m entry_Check.f
theorem entry_Check.row_ok : RowOK P G0 entry_Check.row := row_told entry_Check.hok2 (lp_of (l := []) trivial) (fun _ => rfl) entry_Check.ok
abbrev bursarref12_Check.As : Shs := (.cons (.x T_api_Entry) .nil)
abbrev bursarref12_Check.m : Back := [(false, (.i .i64))]
noncomputable abbrev bursarref12_Check.H : HK := hk P G0 E0 J0 [bursarref11_Name.row, bursarref01_Sum.row] noLoops 4
theorem bursarref12_Check.rows : TabOK P G0 (tabF [bursarref11_Name.row, bursarref01_Sum.row]) := rows_ok (ws := [bursarref11_Name.row, bursarref01_Sum.row]) ⟨bursarref11_Name.row_ok, ⟨bursarref01_Sum.row_ok, trivial⟩⟩
theorem bursarref12_Check.hok : HKOK P bursarref12_Check.H := hk_ok e0_ok j0_ok bursarref12_Check.rows (fun g n => noLoops_ok g n) 4
noncomputable abbrev bursarref12_Check.sh6 : SSh := ⟨[(1, (.pt 0 0)), (3, (.x (.i .i64)))], [.box (.cons (.x (.i .i64)) (.cons (.x .s) (.cons (.x (.l (.g (.p (.g (.p (.i .i64) .s)) (.i .i64))))) .nil)))]⟩
noncomputable abbrev bursarref12_Check.os6 : PEnds := [(.ret, ⟨[(2, (.x (.i .i64)))], []⟩), ((.exit 0), ⟨[(1, (.pt 0 0))], [.box (.cons (.x (.i .i64)) (.cons (.x .s) (.cons (.x (.l (.g (.p (.g (.p (.i .i64) .s)) (.i .i64))))) .nil)))]⟩)]
noncomputable def bursarref12_Check.t6 (s : (Int × (Int × (ByteArray × (List ((Int × ByteArray) × Int)))))) : Option ((Int × (Int × (ByteArray × (List ((Int × ByteArray) × Int))))) ⊕ (Int ⊕ (Int × (ByteArray × (List ((Int × ByteArray) × Int)))))) := (bif (decide ((s.1 < (s.2.2.1.size : Int)))) then (bif ((decide (((0 : Int) ≤ s.1))) && (decide ((s.1 < (s.2.2.1.size : Int))))) then (bif (decide (((bt s.2.2.1 (Int.toNat s.1)) < (33 : Int)))) then (some (.inr (.inl (1 : Int)))) else (bif ((decide (((0 : Int) ≤ s.1))) && (decide ((s.1 < (s.2.2.1.size : Int))))) then (bif (decide (((bt s.2.2.1 (Int.toNat s.1)) > (126 : Int)))) then (some (.inr (.inl (1 : Int)))) else (some (.inl ((IntKind.wrap .i64 (s.1 + (1 : Int))), s.2)))) else none)) else none) else (some (.inr (.inr s.2))))
theorem bursarref12_Check.t6_ok : ∀ s : Vals bursarref12_Check.sh6.tys, turnK P bursarref12_Check.H (lp []) (bodyAt (codeOf P 5) 6) 0 bursarref12_Check.sh6 bursarref12_Check.os6 s some = bursarref12_Check.t6 s := fun s => by kernel_rfl
noncomputable def bursarref12_Check.l6 : (Int × (Int × (ByteArray × (List ((Int × ByteArray) × Int))))) → Option (Int ⊕ (Int × (ByteArray × (List ((Int × ByteArray) × Int))))) := rounds bursarref12_Check.t6
noncomputable abbrev bursarref12_Check.sh10 : SSh := ⟨[(1, (.pt 0 0)), (4, (.own 1 1)), (5, (.x (.i .i64)))], [.box (.cons (.x (.i .i64)) (.cons (.x .s) (.cons (.x (.l (.g (.p (.g (.p (.i .i64) .s)) (.i .i64))))) .nil))), .arrN (.i .i64)]⟩
noncomputable abbrev bursarref12_Check.sh10_9 : SSh := ⟨[(1, (.pt 0 0)), (4, (.own 1 1)), (5, (.x (.i .i64))), (8, (.x (.i .i64)))], [.box (.cons (.x (.i .i64)) (.cons (.x .s) (.cons (.x (.l (.g (.p (.g (.p (.i .i64) .s)) (.i .i64))))) .nil))), .arrN (.i .i64)]⟩
noncomputable abbrev bursarref12_Check.os10_9 : PEnds := [(.ret, ⟨[(2, (.x (.i .i64)))], []⟩), ((.exit 4), ⟨[(1, (.pt 0 0)), (4, (.own 1 1)), (5, (.x (.i .i64)))], [.box (.cons (.x (.i .i64)) (.cons (.x .s) (.cons (.x (.l (.g (.p (.g (.p (.i .i64) .s)) (.i .i64))))) .nil))), .arrN (.i .i64)]⟩)]
noncomputable def bursarref12_Check.t10_9 (s : (Int × (Int × (Int × (ByteArray × ((List ((Int × ByteArray) × Int)) × (List Int))))))) : Option ((Int × (Int × (Int × (ByteArray × ((List ((Int × ByteArray) × Int)) × (List Int)))))) ⊕ (Int ⊕ (Int × (Int × (ByteArray × ((List ((Int × ByteArray) × Int)) × (List Int))))))) := (bif (decide ((s.2.1 < s.1))) then (bif ((decide (((0 : Int) ≤ s.2.1))) && (decide ((s.2.1 < ((List.length s.2.2.2.2.1) : Int))))) then (bif ((decide (((0 : Int) ≤ s.1))) && (decide ((s.1 < ((List.length s.2.2.2.2.1) : Int))))) then (bif (((List.getD s.2.2.2.2.1 (Int.toNat s.2.1) (Ty.dflt T_api_Line)).1.1 == (List.getD s.2.2.2.2.1 (Int.toNat s.1) (Ty.dflt T_api_Line)).1.1) && (((ByteArray.toList (List.getD s.2.2.2.2.1 (Int.toNat s.2.1) (Ty.dflt T_api_Line)).1.2) == (ByteArray.toList (List.getD s.2.2.2.2.1 (Int.toNat s.1) (Ty.dflt T_api_Line)).1.2)) && true)) then (some (.inr (.inl (1 : Int)))) else (some (.inl (s.1, ((IntKind.wrap .i64 (s.2.1 + (1 : Int))), s.2.2))))) else none) else none) else (some (.inr (.inr (s.1, s.2.2)))))
theorem bursarref12_Check.t10_9_ok : ∀ s : Vals bursarref12_Check.sh10_9.tys, turnK P bursarref12_Check.H (lp []) (bodyAt (bodyAt (codeOf P 5) 10) 9) 0 bursarref12_Check.sh10_9 bursarref12_Check.os10_9 s some = bursarref12_Check.t10_9 s := by rintro ⟨s0, s1, s2, s3, s4, s5⟩; cases s5 <;> kernel_rfl
noncomputable def bursarref12_Check.l10_9 : (Int × (Int × (Int × (ByteArray × ((List ((Int × ByteArray) × Int)) × (List Int)))))) → Option (Int ⊕ (Int × (Int × (ByteArray × ((List ((Int × ByteArray) × Int)) × (List Int)))))) := rounds bursarref12_Check.t10_9
noncomputable abbrev bursarref12_Check.os10 : PEnds := [(.ret, ⟨[(2, (.x (.i .i64)))], []⟩), ((.exit 2), ⟨[(4, (.x (.l (.i .i64))))], []⟩)]
noncomputable def bursarref12_Check.t10 (s : (Int × (Int × (ByteArray × ((List ((Int × ByteArray) × Int)) × (List Int)))))) : Option ((Int × (Int × (ByteArray × ((List ((Int × ByteArray) × Int)) × (List Int))))) ⊕ (Int ⊕ (List Int))) := (bif (decide ((s.1 < ((List.length s.2.2.2.1) : Int)))) then (bif ((decide (((0 : Int) ≤ s.1))) && (decide ((s.1 < ((List.length s.2.2.2.1) : Int))))) then (((bursarref11_Name.f (List.getD s.2.2.2.1 (Int.toNat s.1) (Ty.dflt T_api_Line)).1)).bind fun x6 => (bif (!x6.2) then (some (.inr (.inl (1 : Int)))) else (bif ((decide (((0 : Int) ≤ s.1))) && (decide ((s.1 < ((List.length s.2.2.2.1) : Int))))) then (bif ((List.getD s.2.2.2.1 (Int.toNat s.1) (Ty.dflt T_api_Line)).2 == (0 : Int)) then (some (.inr (.inl (1 : Int)))) else (((bursarref12_Check.l10_9 (s.1, ((0 : Int), s.2)))).bind fun x7 => (match x7 with | .inl x8 => (some (.inr (.inl x8))) | .inr x8 => (match x8.2.2.2.2 with | [] => (bif ((decide (((0 : Int) ≤ x8.1))) && (decide ((x8.1 < ((List.length x8.2.2.2.1) : Int))))) then (some (.inl ((IntKind.wrap .i64 (x8.1 + (1 : Int))), (x8.2.1, (x8.2.2.1, (x8.2.2.2.1, ((List.getD x8.2.2.2.1 (Int.toNat x8.1) (Ty.dflt T_api_Line)).2 :: []))))))) else none) | x9 :: x10 => (bif ((decide (((0 : Int) ≤ x8.1))) && (decide ((x8.1 < ((List.length x8.2.2.2.1) : Int))))) then (bif ((true && (Nat.ble (((List.length (x9 :: x10)) + (List.length ((List.getD x8.2.2.2.1 (Int.toNat x8.1) (Ty.dflt T_api_Line)).2 :: []))) * 8) 140737488355328)) && (Nat.ble ((List.length (x9 :: x10)) + (List.length ((List.getD x8.2.2.2.1 (Int.toNat x8.1) (Ty.dflt T_api_Line)).2 :: []))) 140737488355328)) then (some (.inl ((IntKind.wrap .i64 (x8.1 + (1 : Int))), (x8.2.1, (x8.2.2.1, (x8.2.2.2.1, ((x9 :: x10) ++ ((List.getD x8.2.2.2.1 (Int.toNat x8.1) (Ty.dflt T_api_Line)).2 :: [])))))))) else none) else none))))) else none))) else none) else (some (.inr (.inr s.2.2.2.2))))
theorem bursarref12_Check.t10_ok : ∀ s : Vals bursarref12_Check.sh10.tys, turnK P bursarref12_Check.H (lp [(9, (NodeT.summ ⟨bursarref12_Check.sh10_9, bursarref12_Check.os10_9, bursarref12_Check.l10_9⟩ 0))]) (bodyAt (codeOf P 5) 10) 0 bursarref12_Check.sh10 bursarref12_Check.os10 s some = bursarref12_Check.t10 s := by rintro ⟨s0, s1, s2, s3, s4⟩; cases s4 <;> kernel_rfl
noncomputable def bursarref12_Check.l10 : (Int × (Int × (ByteArray × ((List ((Int × ByteArray) × Int)) × (List Int))))) → Option (Int ⊕ (List Int)) := rounds bursarref12_Check.t10
noncomputable def bursarref12_Check.f (a : (Int × (ByteArray × (List ((Int × ByteArray) × Int))))) : Option Int := (bif (decide ((a.1 < (0 : Int)))) then (some (1 : Int)) else (bif (decide ((a.1 > (2147483647 : Int)))) then (some (1 : Int)) else (bif (decide (((a.2.1.size : Int) > (20 : Int)))) then (some (1 : Int)) else (bif (decide ((((List.length a.2.2) : Int) < (2 : Int)))) then (some (1 : Int)) else (bif (decide ((((List.length a.2.2) : Int) > (8 : Int)))) then (some (1 : Int)) else (((bursarref12_Check.l6 ((0 : Int), a))).bind fun x1 => (match x1 with | .inl x2 => (some x2) | .inr x2 => (((bursarref12_Check.l10 ((0 : Int), (x2.1, (x2.2.1, (x2.2.2, [])))))).bind fun x3 => (match x3 with | .inl x4 => (some x4) | .inr x4 => (((bursarref01_Sum.f x4)).bind fun x5 => (bif (!x5.2) then (some (2 : Int)) else (bif (x5.1 != (0 : Int)) then (some (12 : Int)) else (some (0 : Int))))))))))))))
theorem bursarref12_Check.ok : ∀ a : Vals bursarref12_Check.As.tys, fnK P bursarref12_Check.H (lp [(6, (NodeT.summ ⟨bursarref12_Check.sh6, bursarref12_Check.os6, bursarref12_Check.l6⟩ 0)), (10, (NodeT.summ ⟨bursarref12_Check.sh10, bursarref12_Check.os10, bursarref12_Check.l10⟩ 0))]) 5 bursarref12_Check.As bursarref12_Check.m a some = bursarref12_Check.f a := fun a => by kernel_rfl
noncomputable abbrev bursarref12_Check.row : Row := fnRow 5 bursarref12_Check.As bursarref12_Check.m bursarref12_Check.f
theorem bursarref12_Check.row_ok : RowOK P G0 bursarref12_Check.row := row_told bursarref12_Check.hok (lp_of (l := [(6, (NodeT.summ ⟨bursarref12_Check.sh6, bursarref12_Check.os6, bursarref12_Check.l6⟩ 0)), (10, (NodeT.summ ⟨bursarref12_Check.sh10, bursarref12_Check.os10, bursarref12_Check.l10⟩ 0))]) ⟨(loop_sum bursarref12_Check.hok (by kernel_rfl) (by kernel_rfl) (l := []) trivial bursarref12_Check.sh6 bursarref12_Check.os6 (by kernel_rfl) bursarref12_Check.t6 bursarref12_Check.t6_ok), ⟨(loop_sum bursarref12_Check.hok (by kernel_rfl) (by kernel_rfl) (l := [(9, (NodeT.summ ⟨bursarref12_Check.sh10_9, bursarref12_Check.os10_9, bursarref12_Check.l10_9⟩ 0))]) ⟨(loop_sum bursarref12_Check.hok (by kernel_rfl) (by kernel_rfl) (l := []) trivial bursarref12_Check.sh10_9 bursarref12_Check.os10_9 (by kernel_rfl) bursarref12_Check.t10_9 bursarref12_Check.t10_9_ok), trivial⟩ bursarref12_Check.sh10 bursarref12_Check.os10 (by kernel_rfl) bursarref12_Check.t10 bursarref12_Check.t10_ok), trivial⟩⟩) (fun _ => rfl) bursarref12_Check.ok
end Go.Proofs.YtcadnpdhiolmfaaDoor
end
section
set_option linter.unusedVariables false
set_option linter.unusedSimpArgs false
namespace Go.Proofs.YtcadnpdhiolmfaaDoor
open Go Go.Fw
abbrev Acc := Int × ByteArray
abbrev Lin := Acc × Int
abbrev Ent := Int × ByteArray × List Lin
def maySB (a : Acc) : Bool := bif a.1 == 1 then cardB a.2 else bif a.1 == 2 then acqB a.2 else (a.1 == 3 || a.1 == 4) && decide (a.2 = bs [])
theorem chartMay_is (a : Acc) : chart_May.f a = some (maySB a) := by
  obtain ⟨k, s⟩ := a
  unfold maySB
  by_cases h1 : k = 1
  · subst h1; exact card_is s
  by_cases h2 : k = 2
  · subst h2; exact acq_is s
  have e1 : (k == 1) = false := by simpa using h1
  have e2 : (k == 2) = false := by simpa using h2
  unfold chart_May.f
  simp only [e1, e2, cond_false, texts_nil]
  cases (k == 3) <;> cases (k == 4) <;> simp
def letterOf (k : Int) : UInt8 := bif k == 1 then 67 else bif k == 2 then 65 else bif k == 3 then 72 else 68
def nameT (a : Acc) : ByteArray := bif maySB a then bs (letterOf a.1 :: a.2.data.toList) else bs []
theorem bs_cons (c : UInt8) (s : ByteArray) : bs [c] ++ s = bs (c :: s.data.toList) := by
  conv => lhs; rw [eq_bs s]
  rw [bs_append]; rfl
theorem refName_is (a : Acc) : bursarref11_Name.f a = some (nameT a, maySB a) := by
  obtain ⟨k, s⟩ := a
  unfold nameT maySB
  by_cases h1 : k = 1
  · subst h1
    obtain ⟨t, ht⟩ := ref_card_is s
    unfold bursarref11_Name.f at ht ⊢
    simp only [beq_self_eq_true, cond_true] at ht ⊢
    by_cases hz : s.size = 16
    · have e : (((s.size : Nat) : Int) == 16) = true := by simp; omega
      simp only [e, cond_true] at ht ⊢
      cases hs : bursarref02_Sound.f s with
      | none => rw [hs] at ht; cases ht
      | some b =>
        rw [hs] at ht
        simp only [Option.bind_some] at ht ⊢
        cases b
        · simp only [cond_false, show ((1 : Int) == 2) = false from rfl, show ((1 : Int) == 3) = false from rfl, show ((1 : Int) == 4) = false from rfl, Option.some.injEq, Prod.mk.injEq] at ht ⊢
          rw [← ht.2]
          exact ⟨rfl, rfl⟩
        · simp only [cond_true, hz, show Nat.ble (1 + 16) 9223372036854775807 = true from rfl, Option.some.injEq, Prod.mk.injEq] at ht ⊢
          rw [← ht.2]
          refine ⟨?_, rfl⟩
          rw [cond_true, bs_cons]; rfl
    · have e : (((s.size : Nat) : Int) == 16) = false := by simp; omega
      have hc : cardB s = false := by unfold cardB; simp [hz]
      simp only [e, cond_false, show ((1 : Int) == 2) = false from rfl, show ((1 : Int) == 3) = false from rfl, show ((1 : Int) == 4) = false from rfl, hc]
  by_cases h2 : k = 2
  · subst h2
    obtain ⟨t, ht⟩ := ref_acq_is s
    unfold bursarref11_Name.f at ht ⊢
    simp only [beq_self_eq_true, cond_true, show ((2 : Int) == 1) = false from rfl, cond_false] at ht ⊢
    by_cases hz : s.size = 6
    · have e : (((s.size : Nat) : Int) == 6) = true := by simp; omega
      simp only [e, cond_true] at ht ⊢
      cases hs : bursarref02_All.f s with
      | none => rw [hs] at ht; cases ht
      | some b =>
        rw [hs] at ht
        simp only [Option.bind_some] at ht ⊢
        cases b
        · simp only [cond_false, show ((2 : Int) == 3) = false from rfl, show ((2 : Int) == 4) = false from rfl, Option.some.injEq, Prod.mk.injEq] at ht ⊢
          rw [← ht.2]
          exact ⟨rfl, rfl⟩
        · simp only [cond_true, hz, show Nat.ble (1 + 6) 9223372036854775807 = true from rfl, Option.some.injEq, Prod.mk.injEq] at ht ⊢
          rw [← ht.2]
          refine ⟨?_, rfl⟩
          rw [cond_true, bs_cons]; rfl
    · have e : (((s.size : Nat) : Int) == 6) = false := by simp; omega
      have hc : acqB s = false := by unfold acqB; simp [hz]
      simp only [e, cond_false, show ((2 : Int) == 3) = false from rfl, show ((2 : Int) == 4) = false from rfl, hc]
  have e1 : (k == 1) = false := by simpa using h1
  have e2 : (k == 2) = false := by simpa using h2
  unfold bursarref11_Name.f letterOf
  simp only [e1, e2, cond_false, texts_nil]
  by_cases hs : s = bs []
  · subst hs
    rw [decide_eq_true rfl]
    cases h3 : (k == 3) <;> cases h4 : (k == 4) <;> rfl
  · rw [decide_eq_false hs]
    cases h3 : (k == 3) <;> cases h4 : (k == 4) <;> rfl
def okRef (s : ByteArray) : Bool := decide (s.size ≤ 20) && s.data.toList.all fun c => decide (33 ≤ c.toNat) && decide (c.toNat ≤ 126)
theorem rune_low {s : ByteArray} {i : Nat} (hi : i < s.size) (h : (s.data.toList.getD i 0).toNat < 128) : runeD s i = ((s.data.toList.getD i 0).toNat, 1) := by
  have e : s.data.toList.getD i 0 = s[i]'hi := by
    rw [List.getD_eq_getElem?_getD, Array.getElem?_toList, Array.getElem?_eq_getElem (by simpa using hi)]
    rfl
  rw [e] at h ⊢
  exact Go.decode_ascii s i hi h
theorem rune_high {s : ByteArray} {i : Nat} (hi : i < s.size) (h : 128 ≤ (s.data.toList.getD i 0).toNat) : 127 < (runeD s i).1 := by
  have e : s.data.toList.getD i 0 = s.get! (i + 0) := by
    rw [List.getD_eq_getElem?_getD, Array.getElem?_toList]
    show _ = s.data.get!Internal (i + 0)
    simp [Array.get!Internal, Array.getD]
    rw [dif_pos (by simpa using hi), Array.getElem?_eq_getElem (by simpa using hi)]
    rfl
  rw [e] at h
  unfold runeD Utf8.decode
  simp only
  rw [if_neg (by omega)]
  split
  · split
    · omega
    · decide
  · split
    · split
      · rename_i h'
        simp only [Bool.and_eq_true, decide_eq_true_eq] at h'
        omega
      · decide
    · split
      · split
        · rename_i h'
          simp only [Bool.and_eq_true, decide_eq_true_eq] at h'
          omega
        · decide
      · decide
def okB33 (c : UInt8) : Bool := decide (33 ≤ c.toNat) && decide (c.toNat ≤ 126)
theorem ref_step {s : ByteArray} {i : Nat} (hi : i < s.size) : entry_ref.ti0 (true, s, ((i : Nat) : Int)) = some (bif okB33 (s.data.toList.getD i 0) then .inl (true, s, ((i + 1 : Nat) : Int)) else .inr (.inl ((i : Nat) : Int))) := by
  have hb : Nat.blt (Int.toNat ((i : Nat) : Int)) s.size = true := by rw [Int.toNat_natCast, Nat.blt_eq]; exact hi
  unfold entry_ref.ti0
  obtain ⟨x, hx⟩ : ∃ x, runeD s i = x := ⟨_, rfl⟩
  have hx' : runeD s (Int.toNat ((i : Nat) : Int)) = x := by rw [Int.toNat_natCast]; exact hx
  obtain ⟨c, hc⟩ : ∃ c, s.data.toList.getD i 0 = c := ⟨_, rfl⟩
  have main : ∀ (x1 x2 : Nat), x = (x1, x2) → (c.toNat < 128 → x1 = c.toNat ∧ x2 = 1) → (128 ≤ c.toNat → 127 < x1) → (bif decide (((x1 : Nat) : Int) < (33 : Int)) then (bif (true == true) then some (Sum.inr (α := Bool × ByteArray × Int) (Sum.inl (β := Unit) ((i : Nat) : Int))) else some (.inl (true, s, ((i + x2 : Nat) : Int)))) else (bif decide (((x1 : Nat) : Int) > (126 : Int)) == true then some (.inr (.inl ((i : Nat) : Int))) else some (.inl (true, s, ((i + x2 : Nat) : Int))))) = some (bif okB33 c then .inl (true, s, ((i + 1 : Nat) : Int)) else .inr (.inl ((i : Nat) : Int))) := by
    intro x1 x2 _ h1 h2
    by_cases c0 : c.toNat < 128
    · obtain ⟨rfl, rfl⟩ := h1 c0
      by_cases c1 : c.toNat < 33
      · have e : okB33 c = false := by unfold okB33; rw [decide_eq_false (show ¬ 33 ≤ c.toNat by omega)]; rfl
        rw [decide_eq_true (show ((c.toNat : Nat) : Int) < 33 by omega), e]
        rfl
      · by_cases c2 : c.toNat ≤ 126
        · have e : okB33 c = true := by unfold okB33; rw [decide_eq_true (show 33 ≤ c.toNat by omega), decide_eq_true c2]; rfl
          rw [decide_eq_false (show ¬ ((c.toNat : Nat) : Int) < 33 by omega), decide_eq_false (show ¬ ((c.toNat : Nat) : Int) > 126 by omega), e]
          rfl
        · have e : okB33 c = false := by unfold okB33; rw [decide_eq_false c2, Bool.and_false]
          rw [decide_eq_false (show ¬ ((c.toNat : Nat) : Int) < 33 by omega), decide_eq_true (show ((c.toNat : Nat) : Int) > 126 by omega), e]
          rfl
    · have h2 := h2 (by omega)
      have e : okB33 c = false := by unfold okB33; rw [decide_eq_false (show ¬ c.toNat ≤ 126 by omega), Bool.and_false]
      rw [decide_eq_false (show ¬ ((x1 : Nat) : Int) < 33 by omega), decide_eq_true (show ((x1 : Nat) : Int) > 126 by omega), e]
      rfl
  have h3 := main x.1 x.2 rfl (fun h => by
      have := rune_low hi (by rw [hc]; exact h)
      rw [hx, hc] at this
      rw [this]; exact ⟨rfl, rfl⟩) (fun h => by
      have := rune_high hi (by rw [hc]; exact h)
      rwa [hx] at this)
  rw [hc, ← h3]
  show (bif Nat.blt (Int.toNat ((i : Nat) : Int)) s.size then _ else _) = _
  rw [hb, cond_true, hx', Int.toNat_natCast]
  rfl
theorem ref_end (s : ByteArray) : entry_ref.ti0 (true, s, ((s.size : Nat) : Int)) = some (.inr (.inr ())) := by
  have hb : Nat.blt s.size s.size = false := by rw [← Bool.not_eq_true, Nat.blt_eq]; omega
  simp only [entry_ref.ti0, Int.toNat_natCast, hb, cond_false]
theorem ref_is (s : ByteArray) : entry_ref.f s = some (okRef s) := by
  unfold entry_ref.f okRef
  by_cases hs : s.size ≤ 20
  · rw [decide_eq_true (show (s.size : Int) ≤ 20 by omega), cond_true, decide_eq_true hs, Bool.true_and]
    have hl : s.data.toList.length = s.size := by simp
    have hf := rounds_first (t := entry_ref.ti0) (fun i => (true, s, ((i : Nat) : Int))) (fun i => bif okB33 (s.data.toList.getD i 0) then none else some (.inl ((i : Nat) : Int))) (.inr ()) s.size (fun i hi _ => (ref_step hi).trans (by cases okB33 (s.data.toList.getD i 0) <;> rfl)) (fun _ => ref_end s)
    have hf' : entry_ref.li0 (true, s, 0) = some (((List.range s.size).findSome? (fun i => bif okB33 (s.data.toList.getD i 0) then none else some (Sum.inl (β := Unit) ((i : Nat) : Int)))).getD (.inr ())) := hf
    have ha := range_all okB33 0 s.data.toList
    rw [hl] at ha
    have hall : (s.data.toList.all fun c => decide (33 ≤ c.toNat) && decide (c.toNat ≤ 126)) = s.data.toList.all okB33 := rfl
    rw [hall, ← ha, hf']
    rcases find_not (n := s.size) (p := fun i => okB33 (s.data.toList.getD i 0)) (g := fun i => Sum.inl (β := Unit) ((i : Nat) : Int)) with ⟨i, _, h1, h2⟩ | ⟨h1, h2⟩
    · rw [h1, h2]
      simp only [Option.getD_some, Option.bind_some, decide_eq_true (show ((i : Nat) : Int) ≥ 0 by omega), Bool.not_true]
    · rw [h1, h2]
      rfl
  · rw [decide_eq_false (show ¬ (s.size : Int) ≤ 20 by omega), decide_eq_false hs]; rfl
theorem accEq (a b : Acc) : Ty.eqb T_api_Account a b = decide (a = b) := by
  obtain ⟨k, s⟩ := a
  obtain ⟨k', s'⟩ := b
  show (k == k' && (ByteArray.toList s == ByteArray.toList s')) = _
  rw [texts_eq, Bool.eq_iff_iff]
  simp
theorem mget_mput (k k' : Acc) (v : Bool) : ∀ l : List (Acc × Bool), mget T_api_Account .b (mput T_api_Account .b l k v) k' = if k' = k then some v else mget T_api_Account .b l k'
  | [] => by
    simp only [mput, mget, accEq]
    by_cases h : k' = k
    · rw [if_pos h, decide_eq_true h]; rfl
    · rw [if_neg h, decide_eq_false h]; rfl
  | e :: l => by
    have ih := mget_mput k k' v l
    simp only [mput, accEq]
    by_cases h1 : k = e.1
    · rw [decide_eq_true h1]
      simp only [cond_true, mget, accEq]
      by_cases h : k' = k
      · rw [if_pos h, decide_eq_true h]; rfl
      · rw [if_neg h, decide_eq_false h, decide_eq_false (fun h2 => h (h2.trans h1.symm))]; rfl
    · rw [decide_eq_false h1]
      simp only [cond_false, mget, accEq, ih]
      by_cases h : k' = e.1
      · have hne : ¬ k' = k := fun h2 => h1 (h2.symm.trans h)
        rw [if_neg hne, if_neg hne]
      · rw [decide_eq_false h]; rfl
def zL : Lin := ((0, bs []), 0)
def metL (l : List Lin) : Nat → List (Acc × Bool)
  | 0 => []
  | i + 1 => mput T_api_Account .b (metL l i) (l.getD i zL).1 true
theorem met_is (l : List Lin) (k : Acc) : ∀ i, mgetD T_api_Account .b (metL l i) k false = (List.range i).any fun j => decide ((l.getD j zL).1 = k)
  | 0 => rfl
  | i + 1 => by
    have ih := met_is l k i
    unfold mgetD at ih ⊢
    rw [metL, mget_mput, List.range_succ, List.any_append, ← ih]
    by_cases h : k = (l.getD i zL).1
    · rw [if_pos h]; simp [h]
    · rw [if_neg h]
      have : decide ((l.getD i zL).1 = k) = false := decide_eq_false fun h2 => h h2.symm
      rw [List.any_cons, List.any_nil, this, Bool.or_false, Bool.or_false]
def okLine (l : List Lin) (i : Nat) : Bool := !((List.range i).any fun j => decide ((l.getD j zL).1 = (l.getD i zL).1)) && (!((l.getD i zL).2 == 0) && maySB (l.getD i zL).1)
def okLines (l : List Lin) : Bool := (List.range l.length).all (okLine l)
def goodL (l : List Lin) : Prop := ∀ y ∈ l, (Lit.int .i64 y.1.1).wf = true ∧ y.1.2.size ≤ maxLen ∧ Am y.2
theorem goodL.at {l : List Lin} (h : goodL l) {i : Nat} (hi : i < l.length) : Ty.keyFit T_api_Account (l.getD i zL).1 = true := by
  obtain ⟨h1, h2, _⟩ := h (l.getD i zL) (by rw [getD_at hi]; exact List.getElem_mem hi)
  show ((Lit.int .i64 (l.getD i zL).1.1).wf && Nat.ble (l.getD i zL).1.2.size maxLen) = true
  rw [h1, Nat.ble_eq_true_of_le h2]; rfl
theorem dflt_line : (Ty.dflt T_api_Line : (Int × ByteArray) × Int) = zL := rfl
theorem lines_rounds {l : List Lin} (hg : goodL l) (hlen : l.length ≤ 1000) (b : Int) (r : ByteArray) :
    ∃ x, entry_Check.li0 (l, (l.length : Int), 0, b, r, l, []) = some x ∧ (match x with | .inl y => 0 ≤ y.1 ∧ okLines l = false | .inr y => okLines l = true ∧ y.1 = b ∧ y.2.1 = r ∧ y.2.2.1 = l) := by
  have hf := rounds_first (t := entry_Check.ti0) (fun i => (l, (l.length : Int), ((i : Nat) : Int), b, r, l, metL l i)) (fun i => bif okLine l i then none else some (.inl (((i : Nat) : Int), b, r, l, metL l (i + 1)))) (.inr (b, r, l, metL l l.length)) l.length (fun i hi _ => by
    simp only [entry_Check.ti0, inb hi, cond_true, ge0' i, Bool.and_self, Int.toNat_natCast, dflt_line, hg.at hi, met_is, chartMay_is, Option.bind_some, wrap_up (show i < 9223372036854775807 by omega)]
    unfold okLine
    cases (List.range i).any fun j => decide ((l.getD j zL).1 = (l.getD i zL).1)
    · cases ((l.getD i zL).2 == 0)
      · cases maySB (l.getD i zL).1 <;> rfl
      · rfl
    · rfl) (fun _ => by simp only [entry_Check.ti0, outb, cond_false])
  rcases find_not (n := l.length) (p := okLine l) (g := fun i => Sum.inl (β := Int × ByteArray × List Lin × List (Acc × Bool)) (((i : Nat) : Int), b, r, l, metL l (i + 1))) with ⟨i, _, h1, h2⟩ | ⟨h1, h2⟩
  · refine ⟨_, hf, ?_⟩
    rw [h1]
    exact ⟨by simp only; omega, h2⟩
  · refine ⟨_, hf, ?_⟩
    rw [h1]
    exact ⟨h2, rfl, rfl, rfl⟩
theorem amounts_rounds {l : List Lin} (hlen : l.length ≤ 1000) (b : Int) (r : ByteArray) (m : List (Acc × Bool)) : entry_Check.li1 (l, (l.length : Int), 0, b, r, l, m, l, []) = some (b, r, l, m, l, l.map (·.2)) := by
  have := rounds_map (t := entry_Check.ti1) l zL (fun y => y.2) (fun acc i => (l, (l.length : Int), ((i : Nat) : Int), b, r, l, m, l, acc)) (fun acc => (b, r, l, m, l, acc)) (fun i hi => by
    have hl : ((l.take i).map (fun y : Lin => y.2)).length ≤ 1000 := by simp; omega
    simp only [entry_Check.ti1, inb hi, cond_true, ge0' i, Bool.and_self, Int.toNat_natCast, dflt_line, List.length_cons, List.length_nil, Nat.zero_add, Bool.true_and,
      Nat.ble_eq_true_of_le (show (((l.take i).map (fun y : Lin => y.2)).length + 1) * 8 ≤ 140737488355328 by omega), Nat.ble_eq_true_of_le (show ((l.take i).map (fun y : Lin => y.2)).length + 1 ≤ 140737488355328 by omega), wrap_up (show i < 9223372036854775807 by omega)]) (fun acc _ => by simp only [entry_Check.ti1, outb, cond_false])
  exact this
def checkE (x : Ent) : Int := bif decide (x.1 < 0) || (decide (x.1 > 2147483647) || (!okRef x.2.1 || (decide (x.2.2.length < 2) || (decide (x.2.2.length > 8) || !okLines x.2.2)))) then 1 else
  bif fits (x.2.2.map (·.2)).sum then (bif (x.2.2.map (·.2)).sum == 0 then 0 else 12) else 2
theorem goodL.amounts {l : List Lin} (h : goodL l) : Amounts (l.map (·.2)) := by
  intro a ha
  obtain ⟨y, hy, rfl⟩ := List.mem_map.1 ha
  exact (h y hy).2.2
theorem check_is {x : Ent} (hg : goodL x.2.2) : entry_Check.f x = some (checkE x) := by
  obtain ⟨b, r, l⟩ := x
  have hg : goodL l := hg
  unfold entry_Check.f checkE
  simp only [ref_is, Option.bind_some]
  cases decide (b < 0)
  · cases decide (b > 2147483647)
    · cases okRef r
      · rfl
      · simp only [Bool.not_true, cond_false, Bool.false_or]
        by_cases h2 : l.length < 2
        · rw [decide_eq_true (show (l.length : Int) < 2 by omega), decide_eq_true h2]; rfl
        by_cases h8 : l.length > 8
        · rw [decide_eq_false (show ¬ (l.length : Int) < 2 by omega), decide_eq_true (show (l.length : Int) > 8 by omega), decide_eq_false h2, decide_eq_true h8]; rfl
        rw [decide_eq_false (show ¬ (l.length : Int) < 2 by omega), decide_eq_false (show ¬ (l.length : Int) > 8 by omega), decide_eq_false h2, decide_eq_false h8]
        obtain ⟨y, hy, hy2⟩ := lines_rounds hg (by omega) b r
        have hsum := money_Sum_is (l := l.map (·.2)) (by simp; omega) hg.amounts
        simp only [cond_false, hy, Option.bind_some, Bool.false_or]
        cases y with
        | inl y =>
          obtain ⟨h1, h2⟩ := hy2
          rw [h2]
          simp only [decide_eq_true (show y.1 ≥ 0 by omega), cond_true, Bool.not_false]
        | inr y =>
          obtain ⟨b', r', l', m⟩ := y
          obtain ⟨h1, rfl, rfl, rfl⟩ := hy2
          have h1 : okLines l' = true := h1
          have hl8 : l'.length ≤ 8 := by have : ¬ l'.length > 8 := h8; omega
          have har := amounts_rounds (l := l') (by omega) b' r' m
          simp only at har ⊢
          simp only [har, h1, Option.bind_some, Bool.not_true, cond_false]
          have fin : ((money_Sum.f (l'.map (·.2))).bind fun (x5 : Int × Int) => bif x5.2 != 0 then some x5.2 else bif x5.1 != 0 then some 12 else some (0 : Int)) = some (bif fits (l'.map (·.2)).sum then (bif (l'.map (·.2)).sum == 0 then 0 else 12) else 2) := by
            rw [hsum, Option.bind_some]
            unfold sumS
            cases fits (l'.map (·.2)).sum
            · rfl
            · simp only [cond_true, bne_self_eq_false, cond_false, bne]
              cases ((l'.map (·.2)).sum == 0) <;> rfl
          rw [← fin]
          cases l'.map (·.2) <;> rfl
    · rfl
  · rfl
end Go.Proofs.YtcadnpdhiolmfaaDoor
end
section
set_option linter.unusedVariables false
set_option maxRecDepth 100000
namespace Go.Proofs.YtcadnpdhiolmfaaDoor
open Go Go.Fw
abbrev bursarref12_Same.As : Shs := (.cons (.x T_api_Entry) (.cons (.x T_api_Entry) .nil))
abbrev bursarref12_Same.m : Back := [(false, .b)]
noncomputable abbrev bursarref12_Same.H : HK := hk P G0 E0 J0 [] noLoops 4
theorem bursarref12_Same.rows : TabOK P G0 (tabF []) := rows_ok (ws := []) trivial
theorem bursarref12_Same.hok : HKOK P bursarref12_Same.H := hk_ok e0_ok j0_ok bursarref12_Same.rows (fun g n => noLoops_ok g n) 4
noncomputable abbrev bursarref12_Same.sh6 : SSh := ⟨[(2, (.pt 0 0)), (3, (.pt 1 0)), (5, (.x (.i .i64)))], [.box (.cons (.x (.i .i64)) (.cons (.x .s) (.cons (.x (.l (.g (.p (.g (.p (.i .i64) .s)) (.i .i64))))) .nil))), .box (.cons (.x (.i .i64)) (.cons (.x .s) (.cons (.x (.l (.g (.p (.g (.p (.i .i64) .s)) (.i .i64))))) .nil)))]⟩
noncomputable abbrev bursarref12_Same.os6 : PEnds := [(.ret, ⟨[(4, (.x .b))], []⟩), ((.exit 0), ⟨[], []⟩)]
noncomputable def bursarref12_Same.t6 (s : (Int × (Int × (ByteArray × ((List ((Int × ByteArray) × Int)) × (Int × (ByteArray × (List ((Int × ByteArray) × Int))))))))) : Option ((Int × (Int × (ByteArray × ((List ((Int × ByteArray) × Int)) × (Int × (ByteArray × (List ((Int × ByteArray) × Int)))))))) ⊕ (Bool ⊕ Unit)) := (bif (decide ((s.1 < ((List.length s.2.2.2.1) : Int)))) then (bif ((decide (((0 : Int) ≤ s.1))) && (decide ((s.1 < ((List.length s.2.2.2.1) : Int))))) then (bif ((decide (((0 : Int) ≤ s.1))) && (decide ((s.1 < ((List.length s.2.2.2.2.2.2) : Int))))) then (bif (!((((List.getD s.2.2.2.1 (Int.toNat s.1) (Ty.dflt T_api_Line)).1.1 == (List.getD s.2.2.2.2.2.2 (Int.toNat s.1) (Ty.dflt T_api_Line)).1.1) && (((ByteArray.toList (List.getD s.2.2.2.1 (Int.toNat s.1) (Ty.dflt T_api_Line)).1.2) == (ByteArray.toList (List.getD s.2.2.2.2.2.2 (Int.toNat s.1) (Ty.dflt T_api_Line)).1.2)) && true)) && (((List.getD s.2.2.2.1 (Int.toNat s.1) (Ty.dflt T_api_Line)).2 == (List.getD s.2.2.2.2.2.2 (Int.toNat s.1) (Ty.dflt T_api_Line)).2) && true))) then (some (.inr (.inl false))) else (some (.inl ((IntKind.wrap .i64 (s.1 + (1 : Int))), s.2)))) else none) else none) else (some (.inr (.inr ()))))
theorem bursarref12_Same.t6_ok : ∀ s : Vals bursarref12_Same.sh6.tys, turnK P bursarref12_Same.H (lp []) (bodyAt (codeOf P 10) 6) 0 bursarref12_Same.sh6 bursarref12_Same.os6 s some = bursarref12_Same.t6 s := fun s => by kernel_rfl
noncomputable def bursarref12_Same.l6 : (Int × (Int × (ByteArray × ((List ((Int × ByteArray) × Int)) × (Int × (ByteArray × (List ((Int × ByteArray) × Int)))))))) → Option (Bool ⊕ Unit) := rounds bursarref12_Same.t6
noncomputable def bursarref12_Same.f (a : ((Int × (ByteArray × (List ((Int × ByteArray) × Int)))) × (Int × (ByteArray × (List ((Int × ByteArray) × Int)))))) : Option Bool := (bif (a.1.1 != a.2.1) then (some false) else (bif (!((ByteArray.toList a.1.2.1) == (ByteArray.toList a.2.2.1))) then (some false) else (bif (((List.length a.1.2.2) : Int) != ((List.length a.2.2.2) : Int)) then (some false) else (((bursarref12_Same.l6 ((0 : Int), (a.1.1, (a.1.2.1, (a.1.2.2, a.2)))))).bind fun x2 => (match x2 with | .inl x3 => (some x3) | .inr x3 => (some true))))))
theorem bursarref12_Same.ok : ∀ a : Vals bursarref12_Same.As.tys, fnK P bursarref12_Same.H (lp [(6, (NodeT.summ ⟨bursarref12_Same.sh6, bursarref12_Same.os6, bursarref12_Same.l6⟩ 0))]) 10 bursarref12_Same.As bursarref12_Same.m a some = bursarref12_Same.f a := fun a => by kernel_rfl
noncomputable abbrev bursarref12_Same.row : Row := fnRow 10 bursarref12_Same.As bursarref12_Same.m bursarref12_Same.f
theorem bursarref12_Same.row_ok : RowOK P G0 bursarref12_Same.row := row_told bursarref12_Same.hok (lp_of (l := [(6, (NodeT.summ ⟨bursarref12_Same.sh6, bursarref12_Same.os6, bursarref12_Same.l6⟩ 0))]) ⟨(loop_sum bursarref12_Same.hok (by kernel_rfl) (by kernel_rfl) (l := []) trivial bursarref12_Same.sh6 bursarref12_Same.os6 (by kernel_rfl) bursarref12_Same.t6 bursarref12_Same.t6_ok), trivial⟩) (fun _ => rfl) bursarref12_Same.ok
end Go.Proofs.YtcadnpdhiolmfaaDoor
end
section
set_option linter.unusedVariables false
set_option linter.unusedSimpArgs false
namespace Go.Proofs.YtcadnpdhiolmfaaDoor
open Go Go.Fw
theorem refRef_rounds (b : Int) (r : ByteArray) (l : List Lin) (hr : r.size ≤ 20) : bursarref12_Check.l6 (0, b, r, l) = some (bif r.data.toList.all okB33 then .inr (b, r, l) else .inl 1) := by
  have hl : r.data.toList.length = r.size := by simp
  have hf := rounds_first (t := bursarref12_Check.t6) (fun i => (((i : Nat) : Int), b, r, l)) (fun i => bif okB33 (r.data.toList.getD i 0) then none else some (.inl (1 : Int))) (.inr (b, r, l)) r.size (fun i hi _ => by
    obtain ⟨c, hc⟩ : ∃ c, r.data.toList.getD i 0 = c := ⟨_, rfl⟩
    have hbt : bt r i = ((c.toNat : Nat) : Int) := by unfold bt; rw [hc]
    simp only [bursarref12_Check.t6, inb hi, cond_true, ge0' i, Bool.and_self, Int.toNat_natCast, hbt, wrap_up (show i < 9223372036854775807 by omega), hc]
    by_cases c1 : c.toNat < 33
    · have e : okB33 c = false := by unfold okB33; rw [decide_eq_false (show ¬ 33 ≤ c.toNat by omega)]; rfl
      rw [decide_eq_true (show ((c.toNat : Nat) : Int) < 33 by omega), e]
      rfl
    · by_cases c2 : c.toNat ≤ 126
      · have e : okB33 c = true := by unfold okB33; rw [decide_eq_true (show 33 ≤ c.toNat by omega), decide_eq_true c2]; rfl
        rw [decide_eq_false (show ¬ ((c.toNat : Nat) : Int) < 33 by omega), decide_eq_false (show ¬ ((c.toNat : Nat) : Int) > 126 by omega), e]
        rfl
      · have e : okB33 c = false := by unfold okB33; rw [decide_eq_false c2, Bool.and_false]
        rw [decide_eq_false (show ¬ ((c.toNat : Nat) : Int) < 33 by omega), decide_eq_true (show ((c.toNat : Nat) : Int) > 126 by omega), e]
        rfl) (fun _ => by simp only [bursarref12_Check.t6, outb, cond_false])
  have hf' : bursarref12_Check.l6 (0, b, r, l) = some (((List.range r.size).findSome? (fun i => bif okB33 (r.data.toList.getD i 0) then none else some (Sum.inl (β := Int × ByteArray × List Lin) (1 : Int)))).getD (.inr (b, r, l))) := hf
  have ha := range_all okB33 0 r.data.toList
  rw [hl] at ha
  rw [hf', ← ha]
  rcases find_not (n := r.size) (p := fun i => okB33 (r.data.toList.getD i 0)) (g := fun i => Sum.inl (β := Int × ByteArray × List Lin) (1 : Int)) with ⟨i, _, h1, h2⟩ | ⟨h1, h2⟩ <;> rw [h1, h2] <;> rfl
theorem acc_beq (a b : Acc) : ((a.1 == b.1) && ((ByteArray.toList a.2 == ByteArray.toList b.2) && true)) = decide (a = b) := by
  obtain ⟨k, s⟩ := a
  obtain ⟨k', s'⟩ := b
  rw [texts_eq, Bool.and_true, Bool.eq_iff_iff]
  simp
theorem inner_rounds12 {l : List Lin} {i : Nat} (hi : i < l.length) (hl : l.length ≤ 1000) (b : Int) (r : ByteArray) (acc : List Int) :
    bursarref12_Check.l10_9 (((i : Nat) : Int), 0, b, r, l, acc) = some (bif (List.range i).any (fun j => decide ((l.getD j zL).1 = (l.getD i zL).1)) then .inl 1 else .inr (((i : Nat) : Int), b, r, l, acc)) := by
  have hf := rounds_first (t := bursarref12_Check.t10_9) (fun k => (((i : Nat) : Int), ((k : Nat) : Int), b, r, l, acc)) (fun k => bif !decide ((l.getD k zL).1 = (l.getD i zL).1) then none else some (.inl (1 : Int))) (.inr (((i : Nat) : Int), b, r, l, acc)) i (fun k hk _ => by
    simp only [bursarref12_Check.t10_9, inb hk, cond_true, ge0' k, ge0' i, inb (show k < l.length by omega), inb hi, Bool.and_self, Int.toNat_natCast, dflt_line, acc_beq, wrap_up (show k < 9223372036854775807 by omega)]
    cases decide ((l.getD k zL).1 = (l.getD i zL).1) <;> rfl) (fun _ => by simp only [bursarref12_Check.t10_9, outb, cond_false])
  have hf' : bursarref12_Check.l10_9 (((i : Nat) : Int), 0, b, r, l, acc) = _ := hf
  rw [hf']
  have hn : (List.range i).any (fun j => decide ((l.getD j zL).1 = (l.getD i zL).1)) = !((List.range i).all fun j => !decide ((l.getD j zL).1 = (l.getD i zL).1)) := by
    rw [List.all_eq_not_any_not, Bool.not_not]
    simp only [Bool.not_not]
  rw [hn]
  rcases find_not (n := i) (p := fun k => !decide ((l.getD k zL).1 = (l.getD i zL).1)) (g := fun k => Sum.inl (β := Int × Int × ByteArray × List Lin × List Int) (1 : Int)) with ⟨k, _, h1, h2⟩ | ⟨h1, h2⟩ <;> rw [h1, h2] <;> rfl
theorem lines12_rounds {l : List Lin} (hl : l.length ≤ 1000) (b : Int) (r : ByteArray) : bursarref12_Check.l10 (0, b, r, l, []) = some (bif okLines l then .inr (l.map (·.2)) else .inl 1) := by
  have hf := rounds_first (t := bursarref12_Check.t10) (fun i => (((i : Nat) : Int), b, r, l, (l.take i).map (·.2))) (fun i => bif okLine l i then none else some (.inl (1 : Int))) (.inr (l.map (·.2))) l.length (fun i hi _ => by
    have hm : ((l.take i).map (fun y : Lin => y.2)).length ≤ 1000 := by simp; omega
    have hup : (l.take (i + 1)).map (fun y : Lin => y.2) = (l.take i).map (fun y : Lin => y.2) ++ [(l.getD i zL).2] := by rw [take_up zL hi, List.map_append]; rfl
    simp only [bursarref12_Check.t10, inb hi, cond_true, ge0' i, Bool.and_self, Int.toNat_natCast, dflt_line, refName_is, Option.bind_some, inner_rounds12 hi hl]
    rw [hup]
    unfold okLine
    cases maySB (l.getD i zL).1
    · simp only [Bool.not_false, cond_true, Bool.and_false, cond_false]
    · simp only [Bool.not_true, cond_false, Bool.and_true]
      cases ((l.getD i zL).2 == 0)
      · simp only [cond_false, Bool.not_false, Bool.and_true]
        cases (List.range i).any (fun j => decide ((l.getD j zL).1 = (l.getD i zL).1))
        · simp only [cond_false, Bool.not_false, cond_true, ge0' i, inb hi, Bool.and_self, Int.toNat_natCast, wrap_up (show i < 9223372036854775807 by omega)]
          obtain ⟨acc, ha⟩ : ∃ acc, (l.take i).map (fun y : Lin => y.2) = acc := ⟨_, rfl⟩
          rw [ha] at hm ⊢
          cases acc with
          | nil => rfl
          | cons x y =>
            simp only [List.length_cons] at hm
            simp only [List.length_cons, List.length_nil, Nat.ble_eq_true_of_le (show (y.length + 1 + (0 + 1)) * 8 ≤ 140737488355328 by omega), Nat.ble_eq_true_of_le (show y.length + 1 + (0 + 1) ≤ 140737488355328 by omega), Bool.and_self, cond_true]
        · rfl
      · simp only [cond_true, Bool.not_true, Bool.and_false, cond_false]) (fun _ => by
    simp only [bursarref12_Check.t10, outb, cond_false, List.take_length])
  have hf' : bursarref12_Check.l10 (0, b, r, l, []) = _ := hf
  rw [hf']
  unfold okLines
  rcases find_not (n := l.length) (p := okLine l) (g := fun i => Sum.inl (β := List Int) (1 : Int)) with ⟨i, _, h1, h2⟩ | ⟨h1, h2⟩ <;> rw [h1, h2] <;> rfl
theorem refCheck_is {x : Ent} (hg : goodL x.2.2) : bursarref12_Check.f x = some (checkE x) := by
  obtain ⟨b, r, l⟩ := x
  have hg : goodL l := hg
  unfold bursarref12_Check.f checkE
  simp only
  cases decide (b < 0)
  · cases decide (b > 2147483647)
    · simp only [cond_false, Bool.false_or]
      by_cases hr : r.size ≤ 20
      · rw [decide_eq_false (show ¬ (r.size : Int) > 20 by omega)]
        have hok : okRef r = r.data.toList.all okB33 := by unfold okRef; rw [decide_eq_true hr, Bool.true_and]; rfl
        simp only [cond_false, hok]
        by_cases h2 : l.length < 2
        · rw [decide_eq_true (show (l.length : Int) < 2 by omega), decide_eq_true h2]
          simp
        by_cases h8 : l.length > 8
        · rw [decide_eq_false (show ¬ (l.length : Int) < 2 by omega), decide_eq_true (show (l.length : Int) > 8 by omega), decide_eq_false h2, decide_eq_true h8]
          simp
        rw [decide_eq_false (show ¬ (l.length : Int) < 2 by omega), decide_eq_false (show ¬ (l.length : Int) > 8 by omega), decide_eq_false h2, decide_eq_false h8]
        simp only [cond_false, Bool.false_or, refRef_rounds b r l hr, Option.bind_some]
        cases r.data.toList.all okB33
        · rfl
        · simp only [cond_true, Bool.not_true, Bool.false_or, lines12_rounds (show l.length ≤ 1000 by omega), Option.bind_some]
          cases okLines l
          · rfl
          · have hsum := ref_Sum_is (l := l.map (·.2)) (by simp; omega) hg.amounts
            simp only [cond_true, Bool.not_true, cond_false, hsum, Option.bind_some]
            unfold sumR
            cases fits (l.map (·.2)).sum
            · rfl
            · simp only [cond_true, Bool.not_true, cond_false, bne]
              cases ((l.map (·.2)).sum == 0) <;> rfl
      · rw [decide_eq_true (show (r.size : Int) > 20 by omega)]
        have hok : okRef r = false := by unfold okRef; rw [decide_eq_false hr]; rfl
        rw [hok]
        rfl
    · rfl
  · rfl
theorem lin_beq (y z : Lin) : (((y.1.1 == z.1.1) && ((ByteArray.toList y.1.2 == ByteArray.toList z.1.2) && true)) && ((y.2 == z.2) && true)) = decide (y = z) := by
  rw [acc_beq]
  obtain ⟨a, n⟩ := y
  obtain ⟨a', n'⟩ := z
  rw [Bool.and_true, Bool.eq_iff_iff]
  simp
theorem same12_is (x y : Ent) (hl : x.2.2.length ≤ 1000) : bursarref12_Same.f (x, y) = some (decide (x = y)) := by
  obtain ⟨b, r, l⟩ := x
  obtain ⟨b', r', l'⟩ := y
  have hl : l.length ≤ 1000 := hl
  unfold bursarref12_Same.f
  simp only [texts_eq]
  by_cases hb : b = b'
  · subst hb
    simp only [bne_self_eq_false, cond_false]
    by_cases hr : r = r'
    · subst hr
      simp only [decide_true, Bool.not_true, cond_false]
      by_cases he : l.length = l'.length
      · have e : (((l.length : Nat) : Int) != ((l'.length : Nat) : Int)) = false := by rw [he]; simp
        have hf := rounds_first (t := bursarref12_Same.t6) (fun i => (((i : Nat) : Int), b, r, l, b, r, l')) (fun i => bif decide (l.getD i zL = l'.getD i zL) then none else some (.inl false)) (.inr ()) l.length (fun i hi _ => by
          simp only [bursarref12_Same.t6, inb hi, inb (show i < l'.length by omega), cond_true, ge0' i, Bool.and_self, Int.toNat_natCast, dflt_line, lin_beq, wrap_up (show i < 9223372036854775807 by omega)]
          cases decide (l.getD i zL = l'.getD i zL) <;> rfl) (fun _ => by simp only [bursarref12_Same.t6, outb, cond_false])
        have hf' : bursarref12_Same.l6 (0, b, r, l, b, r, l') = _ := hf
        simp only [e, cond_false, hf', Option.bind_some]
        have ha : (List.range l.length).all (fun i => decide (l.getD i zL = l'.getD i zL)) = decide (l = l') := by
          rw [Bool.eq_iff_iff, List.all_eq_true, decide_eq_true_eq]
          constructor
          · intro h
            refine List.ext_getElem he fun i h1 h2 => ?_
            have := of_decide_eq_true (h i (List.mem_range.2 h1))
            rwa [getD_at h1, getD_at h2] at this
          · rintro rfl i _; exact decide_eq_true rfl
        rcases find_not (n := l.length) (p := fun i => decide (l.getD i zL = l'.getD i zL)) (g := fun i => Sum.inl (β := Unit) false) with ⟨i, _, h1, h2⟩ | ⟨h1, h2⟩
        · rw [h1]
          rw [ha] at h2
          rw [decide_eq_false (fun h => (of_decide_eq_false h2) (by injection h with _ h; injection h))]
          rfl
        · rw [h1]
          rw [ha] at h2
          rw [of_decide_eq_true h2, decide_eq_true rfl]
          rfl
      · have e : (((l.length : Nat) : Int) != ((l'.length : Nat) : Int)) = true := by simp only [bne_iff_ne, ne_eq]; omega
        rw [e, decide_eq_false (fun h => he (by injection h with _ h; injection h with _ h; rw [h]))]
        rfl
    · rw [decide_eq_false hr, decide_eq_false (fun h => hr (by injection h with _ h; injection h))]
      rfl
  · have e : (b != b') = true := by simpa using hb
    have hne : ¬ ((b, r, l) = (b', r', l')) := fun h => hb (congrArg Prod.fst h)
    rw [e, decide_eq_false hne]
    rfl
end Go.Proofs.YtcadnpdhiolmfaaDoor
end
section
namespace Go.Proofs
open Go.Shelf
def Tryd.lays283_ren : Go.Shelf.Ren := ⟨fun | 283 => 72 | n => n, fun | 3 => 3 | 9 => 9 | 4 => 4 | n => n, fun | n => n⟩
theorem Tryd.lays283 : Go.Proofs.Lays.n283 Tryd.prog Tryd.lays283_ren := {
  mixed := by kernel_rfl
  f283 := Tryd.func72.trans (congrArg some (by kernel_rfl))
  t3 := Tryd.underlying3
  a3 := Tryd.isAgg3
  z3 := Tryd.sizeOf3
  v3 := Tryd.zeroValue3
  t4 := Tryd.underlying4
  a4 := Tryd.isAgg4
  z4 := Tryd.sizeOf4
  v4 := Tryd.zeroValue4
  t9 := Tryd.underlying9
  a9 := Tryd.isAgg9
  z9 := Tryd.sizeOf9
  v9 := Tryd.zeroValue9 }
def Tryd.laysM284_ren : Go.Shelf.Ren := ⟨fun | 284 => 73 | 129 => 91 | 317 => 90 | 318 => 92 | n => n, fun | 53 => 79 | 3 => 3 | 212 => 126 | 0 => 0 | 4 => 4 | 46 => 88 | 5 => 5 | 9 => 9 | n => n, fun | 17 => 3 | n => n⟩
theorem Tryd.laysM284 : Go.Proofs.LaysM.n284 Tryd.prog Tryd.laysM284_ren := {
  mixed := by kernel_rfl
  f129 := Tryd.func91.trans (congrArg some (by kernel_rfl))
  f284 := Tryd.func73.trans (congrArg some (by kernel_rfl))
  f317 := Tryd.func90.trans (congrArg some (by kernel_rfl))
  f318 := Tryd.func92.trans (congrArg some (by kernel_rfl))
  t0 := Tryd.underlying0
  a0 := Tryd.isAgg0
  z0 := Tryd.sizeOf0
  v0 := Tryd.zeroValue0
  t3 := Tryd.underlying3
  a3 := Tryd.isAgg3
  z3 := Tryd.sizeOf3
  v3 := Tryd.zeroValue3
  t4 := Tryd.underlying4
  a4 := Tryd.isAgg4
  z4 := Tryd.sizeOf4
  v4 := Tryd.zeroValue4
  t5 := Tryd.underlying5
  a5 := Tryd.isAgg5
  z5 := Tryd.sizeOf5
  v5 := Tryd.zeroValue5
  t9 := Tryd.underlying9
  a9 := Tryd.isAgg9
  z9 := Tryd.sizeOf9
  v9 := Tryd.zeroValue9
  t46 := Tryd.underlying88
  a46 := Tryd.isAgg88
  z46 := Tryd.sizeOf88
  v46 := Tryd.zeroValue88
  t53 := Tryd.underlying79
  a53 := Tryd.isAgg79
  z53 := Tryd.sizeOf79
  v53 := Tryd.zeroValue79
  t212 := Tryd.underlying126
  a212 := Tryd.isAgg126
  z212 := Tryd.sizeOf126
  v212 := Tryd.zeroValue126
  g17 := by kernel_rfl
  i0 := by kernel_rfl
  i3 := by kernel_rfl
  i4 := by kernel_rfl
  i5 := by kernel_rfl
  i9 := by kernel_rfl
  i46 := by kernel_rfl
  i53 := by kernel_rfl
  i212 := by kernel_rfl
  m17 := by kernel_rfl }
def Tryd.lays285_ren : Go.Shelf.Ren := ⟨fun | 285 => 74 | n => n, fun | 37 => 97 | 53 => 79 | 3 => 3 | 4 => 4 | 51 => 127 | 9 => 9 | 5 => 5 | 0 => 0 | n => n, fun | n => n⟩
theorem Tryd.lays285 : Go.Proofs.Lays.n285 Tryd.prog Tryd.lays285_ren := {
  mixed := by kernel_rfl
  f285 := Tryd.func74.trans (congrArg some (by kernel_rfl))
  t0 := Tryd.underlying0
  a0 := Tryd.isAgg0
  z0 := Tryd.sizeOf0
  v0 := Tryd.zeroValue0
  t3 := Tryd.underlying3
  a3 := Tryd.isAgg3
  z3 := Tryd.sizeOf3
  v3 := Tryd.zeroValue3
  t4 := Tryd.underlying4
  a4 := Tryd.isAgg4
  z4 := Tryd.sizeOf4
  v4 := Tryd.zeroValue4
  t5 := Tryd.underlying5
  a5 := Tryd.isAgg5
  z5 := Tryd.sizeOf5
  v5 := Tryd.zeroValue5
  t9 := Tryd.underlying9
  a9 := Tryd.isAgg9
  z9 := Tryd.sizeOf9
  v9 := Tryd.zeroValue9
  t37 := Tryd.underlying97
  a37 := Tryd.isAgg97
  z37 := Tryd.sizeOf97
  v37 := Tryd.zeroValue97
  t51 := Tryd.underlying127
  a51 := Tryd.isAgg127
  z51 := Tryd.sizeOf127
  v51 := Tryd.zeroValue127
  t53 := Tryd.underlying79
  a53 := Tryd.isAgg79
  z53 := Tryd.sizeOf79
  v53 := Tryd.zeroValue79 }
end Go.Proofs
end
section
set_option linter.unusedVariables false
namespace Go.Proofs
open Go.Shelf Go.RowKit Go.Sort Go.Lib
theorem Tryd.holds_zero0 (w : World) (T : TypeId) (nd : Nat) (hs : nd ≤ 24) : Holds (fun (b : UInt8) => Value.int .u8 (b.toNat : Int)) (w.alloc (.cells zeros24 T)) w.heap.size 0 (Array.replicate nd (0 : UInt8)) := fun j hj => by
  have hj' : j < nd := by simpa using hj
  refine ⟨?_, World.frozen?_alloc_new _ _ _ _⟩
  rw [World.cell?_alloc_new, zeros24_at _ (by omega), getElem!_pos _ j hj]
  simp
theorem Tryd.fin0 (w : World) (o : Obj) (dk : Array UInt8) (k : Nat) : ∃ os, (putRow (fun (b : UInt8) => Value.int .u8 (b.toNat : Int)) (w.alloc o) w.heap.size 0 dk).drewN k = grow (w.drewN k) os := by
  rw [alloc_eq_grow]
  obtain ⟨os', _, e⟩ := putRow_grow_new (fun (b : UInt8) => Value.int .u8 (b.toNat : Int)) w #[o] w.heap.size 0 dk (Nat.le_refl _)
  exact ⟨os', by rw [e]; rfl⟩
set_option maxHeartbeats 6400000 in
set_option maxRecDepth 100000 in
theorem Tryd.fmtUint_in (u : Nat) (hu64 : u < 18446744073709551616) (w : World) (htab : Lib.TabIs Tryd.prog w "internal/strconv.uint64pow10" .u64 Lib.pow10Tab) :
    Calls Tryd.prog 58 #[.int .u64 u, .int .i64 10] w fun e w' => e = .returned (.string ⟨(Lib.decDigits u).toArray⟩) ∧ ∃ k os, w' = grow (w.drewN k) os := by
  by_cases hs : u < 100
  · go_enter Tryd.func58, Tryd.ntmps58
    go_wp2_with (go_at_call 72; refine (Any.internal_strconv_small Tryd.lays283 u hs _).mono ?_; rintro e w' ⟨rfl, rfl⟩)
    go_ret
    exact ⟨rfl, 0, #[], by simp [World.drewN_zero]⟩
  · have hu1 : 1 ≤ u := by omega
    have hnd20 : Lib.nDigits u ≤ 20 := by have := Lib.numDigits_eq u hu1 hu64; split at this <;> omega
    have hb3 : Lib.nDigits u ≤ 24 := by omega
    have hal : Tryd.prog.arrayLen 109 = 24 := by kernel_rfl
    have hsl1 : ∀ W, (Instr.sliceAt 109 (.pointer (some ⟨w.heap.size, 0, none⟩)) none (some (.int .i64 (Lib.nDigits u : Int))) none).run Tryd.prog W = .ok (.slice (some ⟨w.heap.size, 0, none⟩) (Lib.nDigits u) 24) W := fun W => by
      rw [run_sliceAt_array_h W 109 ⟨w.heap.size, 0, none⟩ (by simp [Program.arrayLen, Program.elem, Tryd.underlying109]) .i64 (Lib.nDigits u : Int) (by omega) (by rw [hal]; omega)]
      go_simp
    have hH0 := Tryd.holds_zero0 w 109 (Lib.nDigits u) (by omega)
    have hfmt := Any.internal_strconv_formatBase10 Tryd.lays285 w.heap.size 0 24 u (Array.replicate (Lib.nDigits u) 0) (w.alloc (.cells Lib.zeros24 109)) hH0 (by rw [Array.size_replicate]; exact Lib.lt_pow_nDigits u) hu64 (by rw [Array.size_replicate]; omega)
    rw [Array.size_replicate] at hfmt
    have HH0 := Lib.hid hH0
    clear hH0 hal
    go_enter Tryd.func58, Tryd.ntmps58
    go_wp2_with (first
      | (go_at_call 73; refine (Any.internal_strconv_numDigits Tryd.laysM284 u hu1 hu64 _ (Lib.tabIs_alloc htab _)).mono ?_; rintro e w' ⟨rfl, rfl⟩))
    go_at_call 74
    refine hfmt.mono ?_
    rintro e w' ⟨rfl, k, v', dk, rfl, hF⟩
    have hcv : (convert 97 9 (.slice (some ⟨w.heap.size, 0, none⟩) (Lib.nDigits u) 24)).run Tryd.prog ((putRow (fun (b : UInt8) => Value.int .u8 (b.toNat : Int)) (w.alloc (.cells Lib.zeros24 109)) w.heap.size 0 dk).drewN k) = .ok (.string ⟨(Lib.decDigits u).toArray⟩) ((putRow (fun (b : UInt8) => Value.int .u8 (b.toNat : Int)) (w.alloc (.cells Lib.zeros24 109)) w.heap.size 0 dk).drewN k) := by
      have h := run_convert_bytes_back (P := Tryd.prog) ((putRow (fun (b : UInt8) => Value.int .u8 (b.toNat : Int)) (w.alloc (.cells Lib.zeros24 109)) w.heap.size 0 dk).drewN k) 97 9 5 ⟨w.heap.size, 0, none⟩ 24 (Lib.decDigits u) Tryd.underlying97 Tryd.underlying5 Tryd.underlying9 (fun j hj => by
        rw [Lib.row_is_numeral hF j hj, Lib.add_plain, World.cell?_drewN]
        exact cell?_putRow (fun (b : UInt8) => Value.int .u8 (b.toNat : Int)) _ w.heap.size 0 _ dk HH0.out (by rw [hF.size, Array.size_replicate]) j (by rw [hF.size]; rw [Lib.decDigits_length] at hj; exact hj))
      rw [Lib.decDigits_length] at h
      exact h
    go_wp2
    go_ret
    obtain ⟨os, eo⟩ := Tryd.fin0 w (.cells Lib.zeros24 109) dk k
    exact ⟨rfl, k, os, eo⟩
set_option maxRecDepth 100000 in
theorem Tryd.fmtUint (u : Nat) (hu64 : u < 18446744073709551616) (w : World) (htab : Lib.TabIs Tryd.prog w "internal/strconv.uint64pow10" .u64 Lib.pow10Tab) :
    Calls Tryd.prog 40 #[.int .u64 u, .int .i64 10] w fun e w' => e = .returned (.string ⟨(Lib.decDigits u).toArray⟩) ∧ ∃ k os, w' = grow (w.drewN k) os := by
  go_enter Tryd.func40, Tryd.ntmps40
  go_wp2_with (go_at_call 58; refine (Tryd.fmtUint_in u hu64 _ htab).mono ?_; rintro e w' ⟨rfl, k, os, rfl⟩)
  go_ret
  exact ⟨rfl, k, os, rfl⟩
end Go.Proofs
end
section
set_option linter.unusedVariables false
namespace Go.Proofs.YtcadnpdhiolmfaaDoor
open Go Go.Fw Go.RowKit
theorem grow_below (w : World) (k : Nat) (os : Array Obj) : Below w.heap.size w (Sort.grow (w.drewN k) os) := by
  have h : Below w.heap.size w (w.drewN k) := by
    induction k with
    | zero => rw [World.drewN_zero]; exact .refl _ _
    | succ k ih => exact ⟨rfl, rfl, rfl, Nat.le_refl _, fun _ _ => rfl⟩
  exact h.trans ⟨rfl, rfl, rfl, by simp [Sort.grow], fun i hi => by
    show ((w.drewN k).heap ++ os)[i]? = _
    rw [Array.getElem?_append, if_pos (Nat.lt_of_lt_of_le hi h.size)]⟩
theorem ent_of {g : FuncId} {fn : Func} (h : P.funcs[g]? = some fn) (hn : (fn.name == "runtime.NumGoroutine") = false) (hb : fn.body.isNone = false) : Fw.Enters P g := ⟨fn, h, hn, hb⟩
end Go.Proofs.YtcadnpdhiolmfaaDoor
end
section
set_option linter.unusedVariables false
namespace Go.Proofs.YtcadnpdhiolmfaaDoor
open Go Go.Fw Go.RowKit
abbrev strconv_FormatUint.As : Shs := .cons (.x (.i .u64)) (.cons (.x (.i .i64)) .nil)
abbrev strconv_FormatUint.m : Back := [(false, .s)]
abbrev strconv_FormatUint.f (a : (Int × Int)) : Option ByteArray := fmtU a
noncomputable abbrev strconv_FormatUint.row : Row := fnRow 40 strconv_FormatUint.As strconv_FormatUint.m strconv_FormatUint.f
theorem strconv_FormatUint.row_ok : RowOK P G0 strconv_FormatUint.row := by
  have key : ∀ (ds : List D) (a : Int × Int) (q : ByteArray), decArgs strconv_FormatUint.As ds = some a → strconv_FormatUint.f a = some q → Fw.Enters P 40 ∧ PCall P G0 40 ds (.s q) := by
    intro ds a q ha hq
    refine ⟨ent_of Tryd.func40 (by kernel_rfl) (by kernel_rfl), ?_⟩
    have hds := (decArgs_argD ha).symm
    refine PCall.coe (ds' := argD strconv_FormatUint.As a) ?_ (by rw [← hds]; exact coeA_len) fun w I f hf => by rw [← hds]; exact coeA_rel hf
    refine pcall_below fun w I K vs hg hsz hr => ?_
    have h0 := hr 0 (.i .u64 a.1) rfl
    have h1 := hr 1 (.i .i64 a.2) rfl
    have hvs : vs = #[.int .u64 a.1, .int .i64 a.2] := by
      have hs : vs.size = 2 := hsz
      rw [Array.getD_eq_getD_getElem?, Array.getElem?_eq_getElem (by omega)] at h0 h1
      simp only [Option.getD_some] at h0 h1
      refine Array.ext (by simpa using hs) fun i hi hi' => ?_
      match i, hi with
      | 0, _ => cases h : vs[0] <;> rw [h] at h0 <;> cases h0; rfl
      | 1, _ => cases h : vs[1] <;> rw [h] at h1 <;> cases h1; rfl
      | i + 2, hi => omega
    subst hvs
    unfold strconv_FormatUint.f fmtU at hq
    obtain ⟨hb, hq⟩ := cond_some hq
    simp only [Bool.and_eq_true, decide_eq_true_eq] at hb
    obtain ⟨⟨h2, h3⟩, h4⟩ := hb
    injection hq with hq
    subst hq
    obtain ⟨u, hu⟩ : ∃ u : Nat, a.1 = u := ⟨a.1.toNat, by omega⟩
    rw [hu, h4]
    refine (Tryd.fmtUint u (by omega) w (tab_of_glob hg (g := 3) (by kernel_rfl) rfl)).mono ?_
    rintro e w' ⟨rfl, k, os, rfl⟩
    refine ⟨_, rfl, grow_below w k os, ?_⟩
    rw [decF_is 19 _ (by omega)]
    exact RelD.s _
  exact fun ds a q => key ds a q
end Go.Proofs.YtcadnpdhiolmfaaDoor
end
section
namespace Go.Proofs
open Go.Shelf
def Tryd.laysPu14_ren : Go.Shelf.Ren := ⟨fun | 14 => 53 | 16 => 71 | 17 => 50 | 19 => 88 | 20 => 89 | 21 => 65 | 22 => 66 | 23 => 67 | 24 => 68 | 25 => 81 | 27 => 15 | 26 => 82 | 28 => 37 | 29 => 57 | 30 => 72 | 31 => 73 | 32 => 74 | 33 => 75 | 35 => 91 | 34 => 90 | 36 => 92 | 37 => 93 | 38 => 94 | 39 => 98 | 40 => 99 | n => n, fun | 9 => 9 | 3 => 3 | 22 => 79 | 24 => 64 | 25 => 92 | 4 => 4 | 34 => 103 | 5 => 5 | 36 => 88 | 37 => 97 | 0 => 0 | 39 => 106 | 21 => 21 | 44 => 121 | 47 => 131 | 50 => 134 | 48 => 132 | 2 => 2 | 52 => 109 | 55 => 112 | 59 => 126 | 60 => 127 | 20 => 20 | 61 => 128 | 65 => 142 | 66 => 143 | 67 => 144 | n => n, fun | 0 => 0 | 1 => 1 | 2 => 3 | 3 => 6 | 4 => 7 | n => n⟩
theorem Tryd.laysPu14 : Go.Proofs.LaysPu.n14 Tryd.prog Tryd.laysPu14_ren := {
  mixed := by kernel_rfl
  f14 := Tryd.func53.trans (congrArg some (by kernel_rfl))
  f16 := Tryd.func71.trans (congrArg some (by kernel_rfl))
  f17 := Tryd.func50.trans (congrArg some (by kernel_rfl))
  f19 := Tryd.func88.trans (congrArg some (by kernel_rfl))
  f20 := Tryd.func89.trans (congrArg some (by kernel_rfl))
  f21 := Tryd.func65.trans (congrArg some (by kernel_rfl))
  f22 := Tryd.func66.trans (congrArg some (by kernel_rfl))
  f23 := Tryd.func67.trans (congrArg some (by kernel_rfl))
  f24 := Tryd.func68.trans (congrArg some (by kernel_rfl))
  f25 := Tryd.func81.trans (congrArg some (by kernel_rfl))
  f26 := Tryd.func82.trans (congrArg some (by kernel_rfl))
  f27 := Tryd.func15.trans (congrArg some (by kernel_rfl))
  f28 := Tryd.func37.trans (congrArg some (by kernel_rfl))
  f29 := Tryd.func57.trans (congrArg some (by kernel_rfl))
  f30 := Tryd.func72.trans (congrArg some (by kernel_rfl))
  f31 := Tryd.func73.trans (congrArg some (by kernel_rfl))
  f32 := Tryd.func74.trans (congrArg some (by kernel_rfl))
  f33 := Tryd.func75.trans (congrArg some (by kernel_rfl))
  f34 := Tryd.func90.trans (congrArg some (by kernel_rfl))
  f35 := Tryd.func91.trans (congrArg some (by kernel_rfl))
  f36 := Tryd.func92.trans (congrArg some (by kernel_rfl))
  f37 := Tryd.func93.trans (congrArg some (by kernel_rfl))
  f38 := Tryd.func94.trans (congrArg some (by kernel_rfl))
  f39 := Tryd.func98.trans (congrArg some (by kernel_rfl))
  f40 := Tryd.func99.trans (congrArg some (by kernel_rfl))
  t0 := Tryd.underlying0
  a0 := Tryd.isAgg0
  z0 := Tryd.sizeOf0
  v0 := Tryd.zeroValue0
  i0 := by kernel_rfl
  t2 := Tryd.underlying2
  a2 := Tryd.isAgg2
  z2 := Tryd.sizeOf2
  v2 := Tryd.zeroValue2
  i2 := by kernel_rfl
  t3 := Tryd.underlying3
  a3 := Tryd.isAgg3
  z3 := Tryd.sizeOf3
  v3 := Tryd.zeroValue3
  i3 := by kernel_rfl
  t4 := Tryd.underlying4
  a4 := Tryd.isAgg4
  z4 := Tryd.sizeOf4
  v4 := Tryd.zeroValue4
  i4 := by kernel_rfl
  t5 := Tryd.underlying5
  a5 := Tryd.isAgg5
  z5 := Tryd.sizeOf5
  v5 := Tryd.zeroValue5
  i5 := by kernel_rfl
  t9 := Tryd.underlying9
  a9 := Tryd.isAgg9
  z9 := Tryd.sizeOf9
  v9 := Tryd.zeroValue9
  i9 := by kernel_rfl
  t20 := Tryd.underlying20
  a20 := Tryd.isAgg20
  z20 := Tryd.sizeOf20
  v20 := Tryd.zeroValue20
  i20 := by kernel_rfl
  t21 := Tryd.underlying21
  a21 := Tryd.isAgg21
  z21 := Tryd.sizeOf21
  v21 := Tryd.zeroValue21
  i21 := by kernel_rfl
  t22 := Tryd.underlying79
  a22 := Tryd.isAgg79
  z22 := Tryd.sizeOf79
  v22 := Tryd.zeroValue79
  i22 := by kernel_rfl
  t24 := Tryd.underlying64
  a24 := Tryd.isAgg64
  z24 := Tryd.sizeOf64
  v24 := Tryd.zeroValue64
  i24 := by kernel_rfl
  t25 := Tryd.underlying92
  a25 := Tryd.isAgg92
  z25 := Tryd.sizeOf92
  v25 := Tryd.zeroValue92
  i25 := by kernel_rfl
  t34 := Tryd.underlying103
  a34 := Tryd.isAgg103
  z34 := Tryd.sizeOf103
  v34 := Tryd.zeroValue103
  i34 := by kernel_rfl
  c34 := by kernel_rfl
  t36 := Tryd.underlying88
  a36 := Tryd.isAgg88
  z36 := Tryd.sizeOf88
  v36 := Tryd.zeroValue88
  i36 := by kernel_rfl
  t37 := Tryd.underlying97
  a37 := Tryd.isAgg97
  z37 := Tryd.sizeOf97
  v37 := Tryd.zeroValue97
  i37 := by kernel_rfl
  t39 := Tryd.underlying106
  a39 := Tryd.isAgg106
  z39 := Tryd.sizeOf106
  v39 := Tryd.zeroValue106
  i39 := by kernel_rfl
  t44 := Tryd.underlying121
  a44 := Tryd.isAgg121
  z44 := Tryd.sizeOf121
  v44 := Tryd.zeroValue121
  i44 := by kernel_rfl
  t47 := Tryd.underlying131
  a47 := Tryd.isAgg131
  z47 := Tryd.sizeOf131
  v47 := Tryd.zeroValue131
  i47 := by kernel_rfl
  t48 := Tryd.underlying132
  a48 := Tryd.isAgg132
  z48 := Tryd.sizeOf132
  v48 := Tryd.zeroValue132
  i48 := by kernel_rfl
  t50 := Tryd.underlying134
  a50 := Tryd.isAgg134
  z50 := Tryd.sizeOf134
  v50 := Tryd.zeroValue134
  i50 := by kernel_rfl
  t52 := Tryd.underlying109
  a52 := Tryd.isAgg109
  z52 := Tryd.sizeOf109
  v52 := Tryd.zeroValue109
  i52 := by kernel_rfl
  t55 := Tryd.underlying112
  a55 := Tryd.isAgg112
  z55 := Tryd.sizeOf112
  v55 := Tryd.zeroValue112
  i55 := by kernel_rfl
  t59 := Tryd.underlying126
  a59 := Tryd.isAgg126
  z59 := Tryd.sizeOf126
  v59 := Tryd.zeroValue126
  i59 := by kernel_rfl
  t60 := Tryd.underlying127
  a60 := Tryd.isAgg127
  z60 := Tryd.sizeOf127
  v60 := Tryd.zeroValue127
  i60 := by kernel_rfl
  t61 := Tryd.underlying128
  a61 := Tryd.isAgg128
  z61 := Tryd.sizeOf128
  t65 := Tryd.underlying142
  a65 := Tryd.isAgg142
  z65 := Tryd.sizeOf142
  v65 := Tryd.zeroValue142
  i65 := by kernel_rfl
  t66 := Tryd.underlying143
  a66 := Tryd.isAgg143
  z66 := Tryd.sizeOf143
  v66 := Tryd.zeroValue143
  i66 := by kernel_rfl
  t67 := Tryd.underlying144
  a67 := Tryd.isAgg144
  z67 := Tryd.sizeOf144
  v67 := Tryd.zeroValue144
  i67 := by kernel_rfl
  g0 := by kernel_rfl
  m0 := by kernel_rfl
  g1 := by kernel_rfl
  m1 := by kernel_rfl
  g2 := by kernel_rfl
  m2 := by kernel_rfl
  g3 := by kernel_rfl
  m3 := by kernel_rfl
  g4 := by kernel_rfl
  m4 := by kernel_rfl }
end Go.Proofs
end
section
set_option linter.unusedVariables false
namespace Go.Proofs.YtcadnpdhiolmfaaDoor
open Go Go.Fw Go.RowKit Go.Shelf
def parseU (l : List UInt8) : Int × Bool := match Lib.parseUintB 64 l with
  | .ok u => ((u : Int), false)
  | .«syntax» => (0, true)
  | .range => (18446744073709551615, true)
abbrev strconv_ParseUint.As : Shs := .cons (.x .s) (.cons (.x (.i .i64)) (.cons (.x (.i .i64)) .nil))
abbrev strconv_ParseUint.m : Back := [(false, .i .u64), (false, .e)]
abbrev strconv_ParseUint.f (a : (ByteArray × (Int × Int))) : Option (Int × Bool) := bif decide (a.2.1 = 10) && decide (a.2.2 = 64) && decide (a.1.size ≤ 281474976710656) then some (parseU a.1.data.toList) else none
noncomputable abbrev strconv_ParseUint.row : Row := fnRow 53 strconv_ParseUint.As strconv_ParseUint.m strconv_ParseUint.f
theorem bytes_below (w : World) (t : TypeId) (s : ByteArray) : Below w.heap.size w (Lib.bytesWorld w t s) := by
  unfold Lib.bytesWorld World.freeze
  rw [if_neg (by decide)]
  refine ⟨rfl, rfl, rfl, by simp, fun k hk => ?_⟩
  show ((w.heap.push _).modify _ _)[k]? = _
  rw [Array.getElem?_modify, if_neg (by show ¬ w.heap.size = k; omega), Array.getElem?_push, if_neg (by omega)]
theorem strconv_ParseUint.row_ok : RowOK P G1 strconv_ParseUint.row := by
  have key : ∀ (ds : List D) (a : ByteArray × (Int × Int)) (q : Int × Bool), decArgs strconv_ParseUint.As ds = some a → strconv_ParseUint.f a = some q → Fw.Enters P 53 ∧ PCall P G1 53 ds (.tp [.i .u64 q.1, .er q.2]) := by
    intro ds a q ha hq
    refine ⟨ent_of Tryd.func53 (by kernel_rfl) (by kernel_rfl), ?_⟩
    have hds := (decArgs_argD ha).symm
    refine PCall.coe (ds' := argD strconv_ParseUint.As a) ?_ (by rw [← hds]; exact coeA_len) fun w I f hf => by rw [← hds]; exact coeA_rel hf
    refine pcall_below fun w I K vs hg hsz hr => ?_
    have h0 := hr 0 (.s a.1) rfl
    have h1 := hr 1 (.i .i64 a.2.1) rfl
    have h2 := hr 2 (.i .i64 a.2.2) rfl
    have hvs : vs = #[.string a.1, .int .i64 a.2.1, .int .i64 a.2.2] := by
      have hs : vs.size = 3 := hsz
      rw [Array.getD_eq_getD_getElem?, Array.getElem?_eq_getElem (by omega)] at h0 h1 h2
      simp only [Option.getD_some] at h0 h1 h2
      refine Array.ext (by simpa using hs) fun i hi hi' => ?_
      match i, hi with
      | 0, _ => cases h : vs[0] <;> rw [h] at h0 <;> cases h0; rfl
      | 1, _ => cases h : vs[1] <;> rw [h] at h1 <;> cases h1; rfl
      | 2, _ => cases h : vs[2] <;> rw [h] at h2 <;> cases h2; rfl
      | i + 3, hi => omega
    subst hvs
    unfold strconv_ParseUint.f at hq
    obtain ⟨hb, hq⟩ := cond_some hq
    simp only [Bool.and_eq_true, decide_eq_true_eq] at hb
    obtain ⟨⟨h3, h4⟩, h5⟩ := hb
    rw [h3, h4]
    injection hq with hq
    subst hq
    unfold parseU
    have tup : ∀ (w' : World) (n : Int) (b : Bool) (v : Value), RelD w' I (.er b) v → RelX w' I K (.tp [.i .u64 n, .er b]) (.tuple #[.int .u64 n, v]) := fun w' n b v hv => ⟨_, rfl, RelD.i .u64 n, ⟨hv, trivial, fun b h => by cases b <;> cases h⟩, fun b h => by cases h⟩
    cases hp : Lib.parseUintB 64 a.1.data.toList with
    | ok u =>
      refine (Any.strconv_ParseUint_10_at64_ok Tryd.laysPu14 a.1 (by omega) u hp w).mono ?_
      rintro e w' ⟨rfl, hw⟩
      refine ⟨_, rfl, ?_, tup w' u false _ .er0⟩
      rcases hw with rfl | rfl
      · exact .refl _ _
      · exact bytes_below _ _ _
    | «syntax» =>
      obtain ⟨tp, p, hv⟩ := err_of_glob (P := P) hg (g := 0) (name := "strconv.ErrSyntax") (by kernel_rfl) rfl
      refine (Any.strconv_ParseUint_10_at64_syntax_var Tryd.laysPu14 a.1 h5 hp tp p w hv).mono ?_
      rintro e w' ⟨N, rfl, _, _, hb⟩
      exact ⟨_, rfl, hb, tup w' 0 true _ (.er1 _ _)⟩
    | range =>
      obtain ⟨tp, p, hv⟩ := err_of_glob (P := P) hg (g := 1) (name := "strconv.ErrRange") (by kernel_rfl) rfl
      refine (Any.strconv_ParseUint_10_at64_range_var Tryd.laysPu14 a.1 h5 hp tp p w hv).mono ?_
      rintro e w' ⟨N, rfl, _, _, hb⟩
      exact ⟨_, rfl, hb, tup w' 18446744073709551615 true _ (.er1 _ _)⟩
  exact fun ds a q => key ds a q
end Go.Proofs.YtcadnpdhiolmfaaDoor
end
section
set_option linter.unusedVariables false
set_option maxRecDepth 100000
namespace Go.Proofs.YtcadnpdhiolmfaaDoor
open Go Go.Fw
abbrev money_Text.As : Shs := (.cons (.x (.i .i64)) .nil)
abbrev money_Text.m : Back := [(false, .s)]
noncomputable abbrev money_Text.H : HK := hk P G0 E0 J0 [money_size.row, strconv_FormatUint.row] noLoops 4
theorem money_Text.rows : TabOK P G0 (tabF [money_size.row, strconv_FormatUint.row]) := rows_ok (ws := [money_size.row, strconv_FormatUint.row]) ⟨money_size.row_ok, ⟨strconv_FormatUint.row_ok, trivial⟩⟩
theorem money_Text.hok : HKOK P money_Text.H := hk_ok e0_ok j0_ok money_Text.rows (fun g n => noLoops_ok g n) 4
noncomputable def money_Text.f (a : Int) : Option ByteArray := (bif (decide ((a < (0 : Int)))) then (((money_size.f a)).bind fun x1 => (((strconv_FormatUint.f ((IntKind.wrap .u64 ((Int.tmod x1 (100 : Int)) + (100 : Int))), (10 : Int)))).bind fun x2 => (((strconv_FormatUint.f ((IntKind.wrap .u64 (Int.tdiv x1 (100 : Int))), (10 : Int)))).bind fun x3 => (bif (Nat.ble (1 + x3.size) 9223372036854775807) then (bif (Nat.ble (((bs [45]) ++ x3).size + 1) 9223372036854775807) then (bif (true && (decide (((1 : Int) ≤ (x2.size : Int))))) then (bif (Nat.ble ((((bs [45]) ++ x3) ++ (bs [46])).size + (ByteArray.extract x2 1 x2.size).size) 9223372036854775807) then (some ((((bs [45]) ++ x3) ++ (bs [46])) ++ (ByteArray.extract x2 1 x2.size))) else none) else none) else none) else none)))) else (((money_size.f a)).bind fun x1 => (((strconv_FormatUint.f ((IntKind.wrap .u64 ((Int.tmod x1 (100 : Int)) + (100 : Int))), (10 : Int)))).bind fun x2 => (((strconv_FormatUint.f ((IntKind.wrap .u64 (Int.tdiv x1 (100 : Int))), (10 : Int)))).bind fun x3 => (bif (Nat.ble (0 + x3.size) 9223372036854775807) then (bif (Nat.ble (((bs []) ++ x3).size + 1) 9223372036854775807) then (bif (true && (decide (((1 : Int) ≤ (x2.size : Int))))) then (bif (Nat.ble ((((bs []) ++ x3) ++ (bs [46])).size + (ByteArray.extract x2 1 x2.size).size) 9223372036854775807) then (some ((((bs []) ++ x3) ++ (bs [46])) ++ (ByteArray.extract x2 1 x2.size))) else none) else none) else none) else none)))))
theorem money_Text.ok : ∀ a : Vals money_Text.As.tys, fnK P money_Text.H (lp []) 17 money_Text.As money_Text.m a some = money_Text.f a := fun a => by kernel_rfl
noncomputable abbrev money_Text.row : Row := fnRow 17 money_Text.As money_Text.m money_Text.f
theorem money_Text.row_ok : RowOK P G0 money_Text.row := row_told money_Text.hok (lp_of (l := []) trivial) (fun _ => rfl) money_Text.ok
abbrev money_Parse.As : Shs := (.cons (.x .s) .nil)
abbrev money_Parse.m : Back := [(false, (.i .i64)), (false, (.i .i64))]
noncomputable abbrev money_Parse.H : HK := hk P G1 E0 J0 [money_Text.row, strconv_ParseUint.row, money_signed.row] noLoops 4
theorem money_Parse.rows : TabOK P G1 (tabF [money_Text.row, strconv_ParseUint.row, money_signed.row]) := rows_ok (ws := [money_Text.row, strconv_ParseUint.row, money_signed.row]) ⟨(money_Text.row_ok.more g01), ⟨strconv_ParseUint.row_ok, ⟨(money_signed.row_ok.more g01), trivial⟩⟩⟩
theorem money_Parse.hok : HKOK P money_Parse.H := hk_ok e0_ok j0_ok money_Parse.rows (fun g n => noLoops_ok g n) 4
noncomputable def money_Parse.f (a : ByteArray) : Option (Int × Int) := (bif (decide (((a.size : Int) ≥ (1 : Int)))) then (bif (true && (decide (((1 : Int) ≤ (a.size : Int))))) then (bif (!((ByteArray.toList (ByteArray.extract a 0 1)) == [(45 : UInt8)])) then (bif ([(46 : UInt8)] == (ByteArray.toList a)) then (bif (true && (decide (((1 : Int) ≤ (a.size : Int))))) then (bif (Nat.ble ((ByteArray.extract a 0 0).size + (ByteArray.extract a 1 a.size).size) 9223372036854775807) then (((strconv_ParseUint.f (((ByteArray.extract a 0 0) ++ (ByteArray.extract a 1 a.size)), ((10 : Int), (64 : Int))))).bind fun x1 => (bif (!(!x1.2)) then (some ((0 : Int), (4 : Int))) else (((money_signed.f (x1.1, false))).bind fun x2 => (bif (x2.2 != (0 : Int)) then (some ((0 : Int), (4 : Int))) else (((money_Text.f x2.1)).bind fun x3 => (bif (!((ByteArray.toList x3) == (ByteArray.toList a))) then (some ((0 : Int), (4 : Int))) else (some (x2.1, (0 : Int))))))))) else none) else none) else (bif (decide (((Go.Lib.indexByte (Array.toList (ByteArray.data a)) (46 : UInt8)) ≥ (0 : Int)))) then (bif ((decide (((0 : Int) ≤ (Go.Lib.indexByte (Array.toList (ByteArray.data a)) (46 : UInt8))))) && (decide (((Go.Lib.indexByte (Array.toList (ByteArray.data a)) (46 : UInt8)) ≤ (a.size : Int))))) then (bif ((decide (((0 : Int) ≤ (IntKind.wrap .i64 ((Go.Lib.indexByte (Array.toList (ByteArray.data a)) (46 : UInt8)) + (1 : Int)))))) && (decide (((IntKind.wrap .i64 ((Go.Lib.indexByte (Array.toList (ByteArray.data a)) (46 : UInt8)) + (1 : Int))) ≤ (a.size : Int))))) then (bif (Nat.ble ((ByteArray.extract a 0 (Int.toNat (Go.Lib.indexByte (Array.toList (ByteArray.data a)) (46 : UInt8)))).size + (ByteArray.extract a (Int.toNat (IntKind.wrap .i64 ((Go.Lib.indexByte (Array.toList (ByteArray.data a)) (46 : UInt8)) + (1 : Int)))) a.size).size) 9223372036854775807) then (((strconv_ParseUint.f (((ByteArray.extract a 0 (Int.toNat (Go.Lib.indexByte (Array.toList (ByteArray.data a)) (46 : UInt8)))) ++ (ByteArray.extract a (Int.toNat (IntKind.wrap .i64 ((Go.Lib.indexByte (Array.toList (ByteArray.data a)) (46 : UInt8)) + (1 : Int)))) a.size)), ((10 : Int), (64 : Int))))).bind fun x1 => (bif (!(!x1.2)) then (some ((0 : Int), (4 : Int))) else (((money_signed.f (x1.1, false))).bind fun x2 => (bif (x2.2 != (0 : Int)) then (some ((0 : Int), (4 : Int))) else (((money_Text.f x2.1)).bind fun x3 => (bif (!((ByteArray.toList x3) == (ByteArray.toList a))) then (some ((0 : Int), (4 : Int))) else (some (x2.1, (0 : Int))))))))) else none) else none) else none) else (bif (Nat.ble (a.size + 0) 9223372036854775807) then (((strconv_ParseUint.f ((a ++ (bs [])), ((10 : Int), (64 : Int))))).bind fun x1 => (bif (!(!x1.2)) then (some ((0 : Int), (4 : Int))) else (((money_signed.f (x1.1, false))).bind fun x2 => (bif (x2.2 != (0 : Int)) then (some ((0 : Int), (4 : Int))) else (((money_Text.f x2.1)).bind fun x3 => (bif (!((ByteArray.toList x3) == (ByteArray.toList a))) then (some ((0 : Int), (4 : Int))) else (some (x2.1, (0 : Int))))))))) else none))) else (bif (true && (decide (((1 : Int) ≤ (a.size : Int))))) then (bif ([(46 : UInt8)] == (ByteArray.toList (ByteArray.extract a 1 a.size))) then (bif (true && (decide (((1 : Int) ≤ ((ByteArray.extract a 1 a.size).size : Int))))) then (bif (Nat.ble ((ByteArray.extract (ByteArray.extract a 1 a.size) 0 0).size + (ByteArray.extract (ByteArray.extract a 1 a.size) 1 (ByteArray.extract a 1 a.size).size).size) 9223372036854775807) then (((strconv_ParseUint.f (((ByteArray.extract (ByteArray.extract a 1 a.size) 0 0) ++ (ByteArray.extract (ByteArray.extract a 1 a.size) 1 (ByteArray.extract a 1 a.size).size)), ((10 : Int), (64 : Int))))).bind fun x1 => (bif (!(!x1.2)) then (some ((0 : Int), (4 : Int))) else (((money_signed.f (x1.1, true))).bind fun x2 => (bif (x2.2 != (0 : Int)) then (some ((0 : Int), (4 : Int))) else (((money_Text.f x2.1)).bind fun x3 => (bif (!((ByteArray.toList x3) == (ByteArray.toList a))) then (some ((0 : Int), (4 : Int))) else (some (x2.1, (0 : Int))))))))) else none) else none) else (bif (decide (((Go.Lib.indexByte (Array.toList (ByteArray.data (ByteArray.extract a 1 a.size))) (46 : UInt8)) ≥ (0 : Int)))) then (bif ((decide (((0 : Int) ≤ (Go.Lib.indexByte (Array.toList (ByteArray.data (ByteArray.extract a 1 a.size))) (46 : UInt8))))) && (decide (((Go.Lib.indexByte (Array.toList (ByteArray.data (ByteArray.extract a 1 a.size))) (46 : UInt8)) ≤ ((ByteArray.extract a 1 a.size).size : Int))))) then (bif ((decide (((0 : Int) ≤ (IntKind.wrap .i64 ((Go.Lib.indexByte (Array.toList (ByteArray.data (ByteArray.extract a 1 a.size))) (46 : UInt8)) + (1 : Int)))))) && (decide (((IntKind.wrap .i64 ((Go.Lib.indexByte (Array.toList (ByteArray.data (ByteArray.extract a 1 a.size))) (46 : UInt8)) + (1 : Int))) ≤ ((ByteArray.extract a 1 a.size).size : Int))))) then (bif (Nat.ble ((ByteArray.extract (ByteArray.extract a 1 a.size) 0 (Int.toNat (Go.Lib.indexByte (Array.toList (ByteArray.data (ByteArray.extract a 1 a.size))) (46 : UInt8)))).size + (ByteArray.extract (ByteArray.extract a 1 a.size) (Int.toNat (IntKind.wrap .i64 ((Go.Lib.indexByte (Array.toList (ByteArray.data (ByteArray.extract a 1 a.size))) (46 : UInt8)) + (1 : Int)))) (ByteArray.extract a 1 a.size).size).size) 9223372036854775807) then (((strconv_ParseUint.f (((ByteArray.extract (ByteArray.extract a 1 a.size) 0 (Int.toNat (Go.Lib.indexByte (Array.toList (ByteArray.data (ByteArray.extract a 1 a.size))) (46 : UInt8)))) ++ (ByteArray.extract (ByteArray.extract a 1 a.size) (Int.toNat (IntKind.wrap .i64 ((Go.Lib.indexByte (Array.toList (ByteArray.data (ByteArray.extract a 1 a.size))) (46 : UInt8)) + (1 : Int)))) (ByteArray.extract a 1 a.size).size)), ((10 : Int), (64 : Int))))).bind fun x1 => (bif (!(!x1.2)) then (some ((0 : Int), (4 : Int))) else (((money_signed.f (x1.1, true))).bind fun x2 => (bif (x2.2 != (0 : Int)) then (some ((0 : Int), (4 : Int))) else (((money_Text.f x2.1)).bind fun x3 => (bif (!((ByteArray.toList x3) == (ByteArray.toList a))) then (some ((0 : Int), (4 : Int))) else (some (x2.1, (0 : Int))))))))) else none) else none) else none) else (bif (Nat.ble ((ByteArray.extract a 1 a.size).size + 0) 9223372036854775807) then (((strconv_ParseUint.f (((ByteArray.extract a 1 a.size) ++ (bs [])), ((10 : Int), (64 : Int))))).bind fun x1 => (bif (!(!x1.2)) then (some ((0 : Int), (4 : Int))) else (((money_signed.f (x1.1, true))).bind fun x2 => (bif (x2.2 != (0 : Int)) then (some ((0 : Int), (4 : Int))) else (((money_Text.f x2.1)).bind fun x3 => (bif (!((ByteArray.toList x3) == (ByteArray.toList a))) then (some ((0 : Int), (4 : Int))) else (some (x2.1, (0 : Int))))))))) else none))) else none)) else none) else (bif ([(46 : UInt8)] == (ByteArray.toList a)) then (bif (true && (decide (((1 : Int) ≤ (a.size : Int))))) then (bif (Nat.ble ((ByteArray.extract a 0 0).size + (ByteArray.extract a 1 a.size).size) 9223372036854775807) then (((strconv_ParseUint.f (((ByteArray.extract a 0 0) ++ (ByteArray.extract a 1 a.size)), ((10 : Int), (64 : Int))))).bind fun x1 => (bif (!(!x1.2)) then (some ((0 : Int), (4 : Int))) else (((money_signed.f (x1.1, false))).bind fun x2 => (bif (x2.2 != (0 : Int)) then (some ((0 : Int), (4 : Int))) else (((money_Text.f x2.1)).bind fun x3 => (bif (!((ByteArray.toList x3) == (ByteArray.toList a))) then (some ((0 : Int), (4 : Int))) else (some (x2.1, (0 : Int))))))))) else none) else none) else (bif (decide (((Go.Lib.indexByte (Array.toList (ByteArray.data a)) (46 : UInt8)) ≥ (0 : Int)))) then (bif ((decide (((0 : Int) ≤ (Go.Lib.indexByte (Array.toList (ByteArray.data a)) (46 : UInt8))))) && (decide (((Go.Lib.indexByte (Array.toList (ByteArray.data a)) (46 : UInt8)) ≤ (a.size : Int))))) then (bif ((decide (((0 : Int) ≤ (IntKind.wrap .i64 ((Go.Lib.indexByte (Array.toList (ByteArray.data a)) (46 : UInt8)) + (1 : Int)))))) && (decide (((IntKind.wrap .i64 ((Go.Lib.indexByte (Array.toList (ByteArray.data a)) (46 : UInt8)) + (1 : Int))) ≤ (a.size : Int))))) then (bif (Nat.ble ((ByteArray.extract a 0 (Int.toNat (Go.Lib.indexByte (Array.toList (ByteArray.data a)) (46 : UInt8)))).size + (ByteArray.extract a (Int.toNat (IntKind.wrap .i64 ((Go.Lib.indexByte (Array.toList (ByteArray.data a)) (46 : UInt8)) + (1 : Int)))) a.size).size) 9223372036854775807) then (((strconv_ParseUint.f (((ByteArray.extract a 0 (Int.toNat (Go.Lib.indexByte (Array.toList (ByteArray.data a)) (46 : UInt8)))) ++ (ByteArray.extract a (Int.toNat (IntKind.wrap .i64 ((Go.Lib.indexByte (Array.toList (ByteArray.data a)) (46 : UInt8)) + (1 : Int)))) a.size)), ((10 : Int), (64 : Int))))).bind fun x1 => (bif (!(!x1.2)) then (some ((0 : Int), (4 : Int))) else (((money_signed.f (x1.1, false))).bind fun x2 => (bif (x2.2 != (0 : Int)) then (some ((0 : Int), (4 : Int))) else (((money_Text.f x2.1)).bind fun x3 => (bif (!((ByteArray.toList x3) == (ByteArray.toList a))) then (some ((0 : Int), (4 : Int))) else (some (x2.1, (0 : Int))))))))) else none) else none) else none) else (bif (Nat.ble (a.size + 0) 9223372036854775807) then (((strconv_ParseUint.f ((a ++ (bs [])), ((10 : Int), (64 : Int))))).bind fun x1 => (bif (!(!x1.2)) then (some ((0 : Int), (4 : Int))) else (((money_signed.f (x1.1, false))).bind fun x2 => (bif (x2.2 != (0 : Int)) then (some ((0 : Int), (4 : Int))) else (((money_Text.f x2.1)).bind fun x3 => (bif (!((ByteArray.toList x3) == (ByteArray.toList a))) then (some ((0 : Int), (4 : Int))) else (some (x2.1, (0 : Int))))))))) else none))))
theorem money_Parse.ok : ∀ a : Vals money_Parse.As.tys, fnK P money_Parse.H (lp []) 28 money_Parse.As money_Parse.m a some = money_Parse.f a := fun a => by kernel_rfl
noncomputable abbrev money_Parse.row : Row := fnRow 28 money_Parse.As money_Parse.m money_Parse.f
theorem money_Parse.row_ok : RowOK P G1 money_Parse.row := row_told money_Parse.hok (lp_of (l := []) trivial) (fun _ => rfl) money_Parse.ok
abbrev bursarref01_Text.As : Shs := (.cons (.x (.i .i64)) .nil)
abbrev bursarref01_Text.m : Back := [(false, .s)]
noncomputable abbrev bursarref01_Text.H : HK := hk P G0 E0 J0 [] noLoops 4
theorem bursarref01_Text.rows : TabOK P G0 (tabF []) := rows_ok (ws := []) trivial
theorem bursarref01_Text.hok : HKOK P bursarref01_Text.H := hk_ok e0_ok j0_ok bursarref01_Text.rows (fun g n => noLoops_ok g n) 4
noncomputable abbrev bursarref01_Text.sh9 : SSh := ⟨[(0, (.x (.i .i64))), (3, (.x .s)), (4, (.x .s)), (5, (.x (.i .i64)))], []⟩
noncomputable abbrev bursarref01_Text.os9 : PEnds := [((.exit 0), ⟨[(3, (.x .s)), (4, (.x .s))], []⟩)]
noncomputable def bursarref01_Text.t9 (s : (Int × (ByteArray × (ByteArray × Int)))) : Option ((Int × (ByteArray × (ByteArray × Int))) ⊕ ((ByteArray × ByteArray))) := (bif (decide ((s.2.2.2 < (3 : Int)))) then (bif (s.2.2.2 == (2 : Int)) then (bif (Nat.ble (1 + s.2.2.1.size) 9223372036854775807) then (bif (Nat.ble ((ByteArray.mk (List.toArray (List.map (fun y4 => (UInt8.ofNat (Int.toNat y4))) ((IntKind.wrap .u8 (IntKind.wrap .i64 ((48 : Int) - (Int.tmod s.1 (10 : Int))))) :: [])))).size + ((bs [46]) ++ s.2.2.1).size) 9223372036854775807) then (some (.inl ((IntKind.wrap .i64 (Int.tdiv s.1 (10 : Int))), (s.2.1, (((ByteArray.mk (List.toArray (List.map (fun y4 => (UInt8.ofNat (Int.toNat y4))) ((IntKind.wrap .u8 (IntKind.wrap .i64 ((48 : Int) - (Int.tmod s.1 (10 : Int))))) :: [])))) ++ ((bs [46]) ++ s.2.2.1)), (IntKind.wrap .i64 (s.2.2.2 + (1 : Int)))))))) else none) else none) else (bif (Nat.ble ((ByteArray.mk (List.toArray (List.map (fun y4 => (UInt8.ofNat (Int.toNat y4))) ((IntKind.wrap .u8 (IntKind.wrap .i64 ((48 : Int) - (Int.tmod s.1 (10 : Int))))) :: [])))).size + s.2.2.1.size) 9223372036854775807) then (some (.inl ((IntKind.wrap .i64 (Int.tdiv s.1 (10 : Int))), (s.2.1, (((ByteArray.mk (List.toArray (List.map (fun y4 => (UInt8.ofNat (Int.toNat y4))) ((IntKind.wrap .u8 (IntKind.wrap .i64 ((48 : Int) - (Int.tmod s.1 (10 : Int))))) :: [])))) ++ s.2.2.1), (IntKind.wrap .i64 (s.2.2.2 + (1 : Int)))))))) else none)) else (bif (decide ((s.1 < (0 : Int)))) then (bif (s.2.2.2 == (2 : Int)) then (bif (Nat.ble (1 + s.2.2.1.size) 9223372036854775807) then (bif (Nat.ble ((ByteArray.mk (List.toArray (List.map (fun y4 => (UInt8.ofNat (Int.toNat y4))) ((IntKind.wrap .u8 (IntKind.wrap .i64 ((48 : Int) - (Int.tmod s.1 (10 : Int))))) :: [])))).size + ((bs [46]) ++ s.2.2.1).size) 9223372036854775807) then (some (.inl ((IntKind.wrap .i64 (Int.tdiv s.1 (10 : Int))), (s.2.1, (((ByteArray.mk (List.toArray (List.map (fun y4 => (UInt8.ofNat (Int.toNat y4))) ((IntKind.wrap .u8 (IntKind.wrap .i64 ((48 : Int) - (Int.tmod s.1 (10 : Int))))) :: [])))) ++ ((bs [46]) ++ s.2.2.1)), (IntKind.wrap .i64 (s.2.2.2 + (1 : Int)))))))) else none) else none) else (bif (Nat.ble ((ByteArray.mk (List.toArray (List.map (fun y4 => (UInt8.ofNat (Int.toNat y4))) ((IntKind.wrap .u8 (IntKind.wrap .i64 ((48 : Int) - (Int.tmod s.1 (10 : Int))))) :: [])))).size + s.2.2.1.size) 9223372036854775807) then (some (.inl ((IntKind.wrap .i64 (Int.tdiv s.1 (10 : Int))), (s.2.1, (((ByteArray.mk (List.toArray (List.map (fun y4 => (UInt8.ofNat (Int.toNat y4))) ((IntKind.wrap .u8 (IntKind.wrap .i64 ((48 : Int) - (Int.tmod s.1 (10 : Int))))) :: [])))) ++ s.2.2.1), (IntKind.wrap .i64 (s.2.2.2 + (1 : Int)))))))) else none)) else (some (.inr (s.2.1, s.2.2.1)))))
theorem bursarref01_Text.t9_ok : ∀ s : Vals bursarref01_Text.sh9.tys, turnK P bursarref01_Text.H (lp []) (bodyAt (codeOf P 34) 9) 0 bursarref01_Text.sh9 bursarref01_Text.os9 s some = bursarref01_Text.t9 s := fun s => by kernel_rfl
noncomputable def bursarref01_Text.l9 : (Int × (ByteArray × (ByteArray × Int))) → Option ((ByteArray × ByteArray)) := rounds bursarref01_Text.t9
noncomputable def bursarref01_Text.f (a : Int) : Option ByteArray := (bif (decide ((a ≥ (0 : Int)))) then (((bursarref01_Text.l9 ((IntKind.wrap .i64 ((0 : Int) - a)), ((bs []), ((bs []), (0 : Int)))))).bind fun x1 => (bif (Nat.ble (x1.1.size + x1.2.size) 9223372036854775807) then (some (x1.1 ++ x1.2)) else none)) else (((bursarref01_Text.l9 (a, ((bs [45]), ((bs []), (0 : Int)))))).bind fun x1 => (bif (Nat.ble (x1.1.size + x1.2.size) 9223372036854775807) then (some (x1.1 ++ x1.2)) else none)))
theorem bursarref01_Text.ok : ∀ a : Vals bursarref01_Text.As.tys, fnK P bursarref01_Text.H (lp [(9, (NodeT.summ ⟨bursarref01_Text.sh9, bursarref01_Text.os9, bursarref01_Text.l9⟩ 0))]) 34 bursarref01_Text.As bursarref01_Text.m a some = bursarref01_Text.f a := fun a => by kernel_rfl
noncomputable abbrev bursarref01_Text.row : Row := fnRow 34 bursarref01_Text.As bursarref01_Text.m bursarref01_Text.f
theorem bursarref01_Text.row_ok : RowOK P G0 bursarref01_Text.row := row_told bursarref01_Text.hok (lp_of (l := [(9, (NodeT.summ ⟨bursarref01_Text.sh9, bursarref01_Text.os9, bursarref01_Text.l9⟩ 0))]) ⟨(loop_sum bursarref01_Text.hok (by kernel_rfl) (by kernel_rfl) (l := []) trivial bursarref01_Text.sh9 bursarref01_Text.os9 (by kernel_rfl) bursarref01_Text.t9 bursarref01_Text.t9_ok), trivial⟩) (fun _ => rfl) bursarref01_Text.ok
abbrev bursarref01_Parse.As : Shs := (.cons (.x .s) .nil)
abbrev bursarref01_Parse.m : Back := [(false, (.i .i64)), (false, .b)]
noncomputable abbrev bursarref01_Parse.H : HK := hk P G0 E0 J0 [bursarref01_Text.row] noLoops 4
theorem bursarref01_Parse.rows : TabOK P G0 (tabF [bursarref01_Text.row]) := rows_ok (ws := [bursarref01_Text.row]) ⟨bursarref01_Text.row_ok, trivial⟩
theorem bursarref01_Parse.hok : HKOK P bursarref01_Parse.H := hk_ok e0_ok j0_ok bursarref01_Parse.rows (fun g n => noLoops_ok g n) 4
noncomputable abbrev bursarref01_Parse.sh9 : SSh := ⟨[(0, (.x .s)), (4, (.x .b)), (6, (.x (.i .i64))), (7, (.x (.i .i64)))], []⟩
noncomputable abbrev bursarref01_Parse.os9 : PEnds := [(.ret, ⟨[(2, (.x (.i .i64))), (3, (.x .b))], []⟩), ((.exit 0), ⟨[(0, (.x .s)), (4, (.x .b)), (6, (.x (.i .i64)))], []⟩)]
noncomputable def bursarref01_Parse.t9 (s : (ByteArray × (Bool × (Int × Int)))) : Option ((ByteArray × (Bool × (Int × Int))) ⊕ ((Int × Bool) ⊕ (ByteArray × (Bool × Int)))) := (bif (decide ((s.2.2.2 < (s.1.size : Int)))) then (bif (s.2.2.2 == (IntKind.wrap .i64 ((s.1.size : Int) - (3 : Int)))) then (bif ((decide (((0 : Int) ≤ s.2.2.2))) && (decide ((s.2.2.2 < (s.1.size : Int))))) then (bif ((bt s.1 (Int.toNat s.2.2.2)) == (46 : Int)) then (some (.inl (s.1, (s.2.1, (s.2.2.1, (IntKind.wrap .i64 (s.2.2.2 + (1 : Int)))))))) else (bif ((decide (((0 : Int) ≤ s.2.2.2))) && (decide ((s.2.2.2 < (s.1.size : Int))))) then (bif (decide (((bt s.1 (Int.toNat s.2.2.2)) < (48 : Int)))) then (some (.inr (.inl ((0 : Int), false)))) else (bif ((decide (((0 : Int) ≤ s.2.2.2))) && (decide ((s.2.2.2 < (s.1.size : Int))))) then (bif (decide (((bt s.1 (Int.toNat s.2.2.2)) > (57 : Int)))) then (some (.inr (.inl ((0 : Int), false)))) else (bif ((decide (((0 : Int) ≤ s.2.2.2))) && (decide ((s.2.2.2 < (s.1.size : Int))))) then (bif (decide ((s.2.2.1 < (-922337203685477580 : Int)))) then (some (.inr (.inl ((0 : Int), false)))) else (bif (s.2.2.1 == (-922337203685477580 : Int)) then (bif (decide (((IntKind.wrap .i64 ((IntKind.wrap .i64 (bt s.1 (Int.toNat s.2.2.2))) - (48 : Int))) > (8 : Int)))) then (some (.inr (.inl ((0 : Int), false)))) else (some (.inl (s.1, (s.2.1, ((IntKind.wrap .i64 ((IntKind.wrap .i64 ((10 : Int) * s.2.2.1)) - (IntKind.wrap .i64 ((IntKind.wrap .i64 (bt s.1 (Int.toNat s.2.2.2))) - (48 : Int))))), (IntKind.wrap .i64 (s.2.2.2 + (1 : Int))))))))) else (some (.inl (s.1, (s.2.1, ((IntKind.wrap .i64 ((IntKind.wrap .i64 ((10 : Int) * s.2.2.1)) - (IntKind.wrap .i64 ((IntKind.wrap .i64 (bt s.1 (Int.toNat s.2.2.2))) - (48 : Int))))), (IntKind.wrap .i64 (s.2.2.2 + (1 : Int)))))))))) else none)) else none)) else none)) else none) else (bif ((decide (((0 : Int) ≤ s.2.2.2))) && (decide ((s.2.2.2 < (s.1.size : Int))))) then (bif (decide (((bt s.1 (Int.toNat s.2.2.2)) < (48 : Int)))) then (some (.inr (.inl ((0 : Int), false)))) else (bif ((decide (((0 : Int) ≤ s.2.2.2))) && (decide ((s.2.2.2 < (s.1.size : Int))))) then (bif (decide (((bt s.1 (Int.toNat s.2.2.2)) > (57 : Int)))) then (some (.inr (.inl ((0 : Int), false)))) else (bif ((decide (((0 : Int) ≤ s.2.2.2))) && (decide ((s.2.2.2 < (s.1.size : Int))))) then (bif (decide ((s.2.2.1 < (-922337203685477580 : Int)))) then (some (.inr (.inl ((0 : Int), false)))) else (bif (s.2.2.1 == (-922337203685477580 : Int)) then (bif (decide (((IntKind.wrap .i64 ((IntKind.wrap .i64 (bt s.1 (Int.toNat s.2.2.2))) - (48 : Int))) > (8 : Int)))) then (some (.inr (.inl ((0 : Int), false)))) else (some (.inl (s.1, (s.2.1, ((IntKind.wrap .i64 ((IntKind.wrap .i64 ((10 : Int) * s.2.2.1)) - (IntKind.wrap .i64 ((IntKind.wrap .i64 (bt s.1 (Int.toNat s.2.2.2))) - (48 : Int))))), (IntKind.wrap .i64 (s.2.2.2 + (1 : Int))))))))) else (some (.inl (s.1, (s.2.1, ((IntKind.wrap .i64 ((IntKind.wrap .i64 ((10 : Int) * s.2.2.1)) - (IntKind.wrap .i64 ((IntKind.wrap .i64 (bt s.1 (Int.toNat s.2.2.2))) - (48 : Int))))), (IntKind.wrap .i64 (s.2.2.2 + (1 : Int)))))))))) else none)) else none)) else none)) else (some (.inr (.inr (s.1, (s.2.1, s.2.2.1))))))
theorem bursarref01_Parse.t9_ok : ∀ s : Vals bursarref01_Parse.sh9.tys, turnK P bursarref01_Parse.H (lp []) (bodyAt (codeOf P 31) 9) 0 bursarref01_Parse.sh9 bursarref01_Parse.os9 s some = bursarref01_Parse.t9 s := fun s => by kernel_rfl
noncomputable def bursarref01_Parse.l9 : (ByteArray × (Bool × (Int × Int))) → Option ((Int × Bool) ⊕ (ByteArray × (Bool × Int))) := rounds bursarref01_Parse.t9
noncomputable def bursarref01_Parse.f (a : ByteArray) : Option (Int × Bool) := (bif (decide (((a.size : Int) > (0 : Int)))) then (bif (true && (decide (((0 : Int) < (a.size : Int))))) then (bif ((bt a 0) == (45 : Int)) then (((bursarref01_Parse.l9 (a, (((bt a 0) == (45 : Int)), ((0 : Int), (1 : Int)))))).bind fun x1 => (match x1 with | .inl x2 => (some x2) | .inr x2 => (bif (!x2.2.1) then (bif (x2.2.2 == (-9223372036854775808 : Int)) then (some ((0 : Int), false)) else (((bursarref01_Text.f (IntKind.wrap .i64 ((0 : Int) - x2.2.2)))).bind fun x3 => (some ((IntKind.wrap .i64 ((0 : Int) - x2.2.2)), ((ByteArray.toList x3) == (ByteArray.toList x2.1)))))) else (((bursarref01_Text.f x2.2.2)).bind fun x3 => (some (x2.2.2, ((ByteArray.toList x3) == (ByteArray.toList x2.1)))))))) else (((bursarref01_Parse.l9 (a, (((bt a 0) == (45 : Int)), ((0 : Int), (0 : Int)))))).bind fun x1 => (match x1 with | .inl x2 => (some x2) | .inr x2 => (bif (!x2.2.1) then (bif (x2.2.2 == (-9223372036854775808 : Int)) then (some ((0 : Int), false)) else (((bursarref01_Text.f (IntKind.wrap .i64 ((0 : Int) - x2.2.2)))).bind fun x3 => (some ((IntKind.wrap .i64 ((0 : Int) - x2.2.2)), ((ByteArray.toList x3) == (ByteArray.toList x2.1)))))) else (((bursarref01_Text.f x2.2.2)).bind fun x3 => (some (x2.2.2, ((ByteArray.toList x3) == (ByteArray.toList x2.1))))))))) else none) else (((bursarref01_Parse.l9 (a, (false, ((0 : Int), (0 : Int)))))).bind fun x1 => (match x1 with | .inl x2 => (some x2) | .inr x2 => (bif (!x2.2.1) then (bif (x2.2.2 == (-9223372036854775808 : Int)) then (some ((0 : Int), false)) else (((bursarref01_Text.f (IntKind.wrap .i64 ((0 : Int) - x2.2.2)))).bind fun x3 => (some ((IntKind.wrap .i64 ((0 : Int) - x2.2.2)), ((ByteArray.toList x3) == (ByteArray.toList x2.1)))))) else (((bursarref01_Text.f x2.2.2)).bind fun x3 => (some (x2.2.2, ((ByteArray.toList x3) == (ByteArray.toList x2.1)))))))))
theorem bursarref01_Parse.ok : ∀ a : Vals bursarref01_Parse.As.tys, fnK P bursarref01_Parse.H (lp [(9, (NodeT.summ ⟨bursarref01_Parse.sh9, bursarref01_Parse.os9, bursarref01_Parse.l9⟩ 0))]) 31 bursarref01_Parse.As bursarref01_Parse.m a some = bursarref01_Parse.f a := fun a => by kernel_rfl
noncomputable abbrev bursarref01_Parse.row : Row := fnRow 31 bursarref01_Parse.As bursarref01_Parse.m bursarref01_Parse.f
theorem bursarref01_Parse.row_ok : RowOK P G0 bursarref01_Parse.row := row_told bursarref01_Parse.hok (lp_of (l := [(9, (NodeT.summ ⟨bursarref01_Parse.sh9, bursarref01_Parse.os9, bursarref01_Parse.l9⟩ 0))]) ⟨(loop_sum bursarref01_Parse.hok (by kernel_rfl) (by kernel_rfl) (l := []) trivial bursarref01_Parse.sh9 bursarref01_Parse.os9 (by kernel_rfl) bursarref01_Parse.t9 bursarref01_Parse.t9_ok), trivial⟩) (fun _ => rfl) bursarref01_Parse.ok
end Go.Proofs.YtcadnpdhiolmfaaDoor
end
section
set_option linter.unusedVariables false
set_option linter.unusedSimpArgs false
namespace Go.Proofs.YtcadnpdhiolmfaaDoor
open Go Go.Fw
def body (n : Nat) : List UInt8 := decP 19 (n / 1000) ++ [dgt (n / 100 % 10), 46, dgt (n / 10 % 10), dgt (n % 10)]
def txt (a : Int) : List UInt8 := (if a < 0 then [45] else []) ++ body a.natAbs
theorem txt_len (a : Int) : (txt a).length ≤ 24 := by
  have := decP_len 19 (a.natAbs / 1000)
  unfold txt body
  split <;> simp <;> omega
theorem asize_is {a : Int} (ha : Am a) : money_size.f a = some (a.natAbs : Int) := by
  obtain ⟨h1, h2⟩ := ha
  unfold money_size.f
  simp only [wrap_u64]
  by_cases h : a < 0 <;> simp [h] <;> omega
theorem signed_is {u : Nat} {b : Bool} (h : u < 18446744073709551616) : ∃ r, money_signed.f ((u : Int), b) = some r ∧ (r = (0, 2) ∨ (Am (bif b then -(u : Int) else u) ∧ r = (bif b then -(u : Int) else u, 0))) ∧ (Am (bif b then -(u : Int) else u) → r = (bif b then -(u : Int) else u, 0)) := by
  unfold money_signed.f Am
  simp only [wrap_u64, IntKind.wrap_i64]
  cases b
  · by_cases h1 : (u : Int) ≤ 9223372036854775807
    · simp [h1]; omega
    · simp [h1]
  · by_cases h1 : (u : Int) ≤ 9223372036854775808
    · simp [h1]; omega
    · simp [h1]
theorem fmtU_is {n : Nat} (h : n < 18446744073709551616) : fmtU ((n : Int), 10) = some (bs (decF 20 n)) := by
  unfold fmtU
  have h1 : (decide ((0 : Int) ≤ (n : Int)) && decide ((n : Int) < 18446744073709551616) && decide ((10 : Int) = 10)) = true := by
    have h0 : (n : Int) < 18446744073709551616 := by omega
    simp [h0]
  rw [h1]
  simp [bs]
theorem cents_is (n : Nat) : strconv_FormatUint.f (((n % 100 + 100 : Nat) : Int), 10) = some (bs [dgt 1, dgt (n / 10 % 10), dgt (n % 10)]) := by
  show fmtU _ = _
  have h0 : decP 19 ((n % 100 + 100) / 10) = [dgt 1, dgt (n / 10 % 10)] := by
    unfold decP
    rw [if_neg (by omega)]
    unfold decP
    rw [if_neg (by omega)]
    unfold decP
    rw [if_pos (by omega)]
    rw [show (n % 100 + 100) / 10 / 10 % 10 = 1 by omega, show (n % 100 + 100) / 10 % 10 = n / 10 % 10 by omega]
    rfl
  rw [fmtU_is (by omega), decF_decP 19 _ (by omega), h0, show (n % 100 + 100) % 10 = n % 10 by omega]
  rfl
theorem whole_is {n : Nat} (hn : n ≤ 9223372036854775808) : strconv_FormatUint.f (((n / 100 : Nat) : Int), 10) = some (bs (decP 19 (n / 1000) ++ [dgt (n / 100 % 10)])) := by
  show fmtU _ = _
  rw [fmtU_is (by omega), decF_decP 19 _ (by omega), show n / 100 / 10 = n / 1000 by omega]
theorem Text_is {a : Int} (ha : Am a) : money_Text.f a = some (bs (txt a)) := by
  have hn : a.natAbs ≤ 9223372036854775808 := by obtain ⟨h1, h2⟩ := ha; omega
  unfold money_Text.f
  rw [asize_is ha]
  unfold txt
  obtain ⟨n, hN⟩ : ∃ n, a.natAbs = n := ⟨_, rfl⟩
  rw [hN] at hn ⊢
  have e1 : IntKind.wrap .u64 (Int.tmod (n : Int) 100 + 100) = ((n % 100 + 100 : Nat) : Int) := by
    rw [wrap_u64, show Int.tmod (n : Int) 100 = ((n % 100 : Nat) : Int) from (Int.ofNat_tmod n 100).symm]
    omega
  have e2 : IntKind.wrap .u64 (Int.tdiv (n : Int) 100) = ((n / 100 : Nat) : Int) := by
    rw [wrap_u64, show Int.tdiv (n : Int) 100 = ((n / 100 : Nat) : Int) from (Int.ofNat_tdiv n 100).symm]
    omega
  have f1 := cents_is n
  have f2 := whole_is hn
  have hl := decP_len 19 (n / 1000)
  unfold body
  obtain ⟨d, hd⟩ : ∃ d, decP 19 (n / 1000) = d := ⟨_, rfl⟩
  rw [hd] at hl f2 ⊢
  have b1 : ∀ k, k ≤ 100 → Nat.ble k 9223372036854775807 = true := fun k h => Nat.ble_eq_true_of_le (by omega)
  by_cases h : a < 0
  · rw [decide_eq_true h, if_pos h]
    rw [cond_true, Option.bind_some, e1, f1, Option.bind_some, e2, f2, Option.bind_some]
    simp only [bs_append, bs_size, bs_extract, Bool.true_and]
    rw [b1 _ (by simp; omega), b1 _ (by simp; omega), b1 _ (by simp; omega)]
    simp
  · rw [decide_eq_false h, if_neg h]
    rw [cond_false, Option.bind_some, e1, f1, Option.bind_some, e2, f2, Option.bind_some]
    simp only [bs_append, bs_size, bs_extract, Bool.true_and]
    rw [b1 _ (by simp; omega), b1 _ (by simp; omega), b1 _ (by simp; omega)]
    simp
theorem step_is (sg : ByteArray) {m i : Nat} {l : List UInt8} (hm : m ≤ 9223372036854775808) (hi : i ≤ 1000) (hl : l.length ≤ 1000) (h : i < 3 ∨ 0 < m) :
    bursarref01_Text.t9 (-(m : Int), (sg, (bs l, (i : Int)))) = some (.inl (-((m / 10 : Nat) : Int), (sg, (bs (dgt (m % 10) :: (if i = 2 then 46 :: l else l)), ((i + 1 : Nat) : Int))))) := by
  unfold bursarref01_Text.t9
  have e1 : IntKind.wrap .i64 (Int.tdiv (-(m : Int)) 10) = -((m / 10 : Nat) : Int) := by
    rw [Int.neg_tdiv, show Int.tdiv (m : Int) 10 = ((m / 10 : Nat) : Int) from (Int.ofNat_tdiv m 10).symm, wrap_i64 (by omega) (by omega)]
  have e2 : IntKind.wrap .u8 (IntKind.wrap .i64 ((48 : Int) - (Int.tmod (-(m : Int)) (10 : Int)))) = ((48 + m % 10 : Nat) : Int) := by
    rw [Int.neg_tmod, show Int.tmod (m : Int) 10 = ((m % 10 : Nat) : Int) from (Int.ofNat_tmod m 10).symm, wrap_i64 (by omega) (by omega), wrap_u8]
    omega
  have e3 : IntKind.wrap .i64 ((i : Int) + 1) = ((i + 1 : Nat) : Int) := wrap_up (by omega)
  have e4 : (ByteArray.mk (List.toArray (List.map (fun y4 => (UInt8.ofNat (Int.toNat y4))) [((48 + m % 10 : Nat) : Int)]))) = bs [dgt (m % 10)] := by
    show bs [UInt8.ofNat (Int.toNat ((48 + m % 10 : Nat) : Int))] = _
    rw [Int.toNat_natCast]
  have b1 : ∀ k, k ≤ 2000 → Nat.ble k 9223372036854775807 = true := fun k h => Nat.ble_eq_true_of_le (by omega)
  simp only [e1, e2, e3, e4, bs_append, bs_size]
  by_cases h2 : i = 2
  · subst h2
    have h3 : (((2 : Nat) : Int) == 2) = true := rfl
    have h4 : ((2 : Nat) : Int) < 3 := by omega
    simp only [h3, h4, decide_true, cond_true]
    rw [b1 _ (by omega), b1 _ (by simp; omega)]
    rfl
  · have h3 : ((i : Int) == 2) = false := by rw [beq_eq_false_iff_ne]; omega
    simp only [h3, cond_false, if_neg h2]
    rw [b1 _ (by simp; omega)]
    by_cases h4 : (i : Int) < 3
    · simp only [h4, decide_true, cond_true]; rfl
    · have h5 : -(m : Int) < 0 := by omega
      simp only [h4, h5, decide_true, decide_false, cond_true, cond_false]; rfl
theorem tail_is (sg : ByteArray) : ∀ (k n i : Nat) (l : List UInt8), n < 10 ^ k → k + i ≤ 1000 → 3 ≤ i → k + l.length ≤ 1000 → n ≤ 9223372036854775808 →
    bursarref01_Text.l9 (-(n : Int), (sg, (bs l, (i : Int)))) = some (sg, bs (decP k n ++ l))
  | k, 0, i, l, _, hi, h3, hl, _ => by
    unfold bursarref01_Text.l9
    rw [rounds_end (r := (sg, bs l))]
    · cases k <;> simp [decP]
    · unfold bursarref01_Text.t9
      have h1 : ¬ (i : Int) < 3 := by omega
      simp [h1]
  | 0, n + 1, i, l, h, _, _, _, _ => by simp at h
  | k + 1, n + 1, i, l, h, hi, h3, hl, hn => by
    have ih := tail_is sg k ((n + 1) / 10) (i + 1) (dgt ((n + 1) % 10) :: l) (by have : 10 ^ (k + 1) = 10 ^ k * 10 := Nat.pow_succ ..; omega) (by omega) (by omega) (by simp; omega) (by omega)
    unfold bursarref01_Text.l9 at ih ⊢
    rw [rounds_next (step_is sg hn (by omega) (by omega) (.inr (by omega))), if_neg (by omega), ih]
    simp [decP]
theorem digits_is (sg : ByteArray) {n : Nat} (hn : n ≤ 9223372036854775808) : bursarref01_Text.l9 (-(n : Int), (sg, (bs [], (0 : Int)))) = some (sg, bs (body n)) := by
  have h0 := step_is sg (m := n) (i := 0) (l := []) hn (by omega) (by simp) (.inl (by omega))
  have h1 := step_is sg (m := n / 10) (i := 1) (l := [dgt (n % 10)]) (by omega) (by omega) (by simp) (.inl (by omega))
  have h2 := step_is sg (m := n / 10 / 10) (i := 2) (l := [dgt (n / 10 % 10), dgt (n % 10)]) (by omega) (by omega) (by simp) (.inl (by omega))
  have h3 := tail_is sg 19 (n / 10 / 10 / 10) 3 [dgt (n / 10 / 10 % 10), 46, dgt (n / 10 % 10), dgt (n % 10)] (by omega) (by omega) (by omega) (by simp) (by omega)
  unfold bursarref01_Text.l9 at h3 ⊢
  refine (rounds_next h0).trans ((rounds_next h1).trans ((rounds_next h2).trans (h3.trans ?_)))
  unfold body
  rw [show n / 10 / 10 / 10 = n / 1000 by omega, show n / 10 / 10 % 10 = n / 100 % 10 by omega]
theorem ref_Text_is {a : Int} (ha : Am a) : bursarref01_Text.f a = some (bs (txt a)) := by
  obtain ⟨h1, h2⟩ := ha
  have b1 : ∀ k, k ≤ 100 → Nat.ble k 9223372036854775807 = true := fun k h => Nat.ble_eq_true_of_le (by omega)
  have hl : (body a.natAbs).length ≤ 23 := by
    have := decP_len 19 (a.natAbs / 1000)
    unfold body; simp; omega
  unfold bursarref01_Text.f txt
  by_cases h : a < 0
  · rw [decide_eq_false (by omega), if_pos h, cond_false]
    rw [show a = -(a.natAbs : Int) by omega, digits_is (bs [45]) (by omega), show (-(a.natAbs : Int)).natAbs = a.natAbs by omega]
    simp only [Option.bind_some, bs_append, bs_size]
    rw [b1 _ (by simp; omega)]
    rfl
  · rw [decide_eq_true (by omega), if_neg h, cond_true, wrap_i64 (by omega) (by omega)]
    rw [show (0 : Int) - a = -(a.natAbs : Int) by omega, digits_is (bs []) (by omega)]
    simp only [Option.bind_some, bs_append, bs_size]
    rw [b1 _ (by simp; omega)]
    rfl
end Go.Proofs.YtcadnpdhiolmfaaDoor
end
section
set_option linter.unusedVariables false
set_option linter.unusedSimpArgs false
namespace Go.Proofs.YtcadnpdhiolmfaaDoor
open Go Go.Fw
def pr : List UInt8 → Int → Option Int
  | [], acc => some acc
  | c :: r, acc => if r.length = 2 ∧ c.toNat = 46 then pr r acc
    else if c.toNat < 48 ∨ 57 < c.toNat then none
    else if acc < -922337203685477580 ∨ acc = -922337203685477580 ∧ 56 < c.toNat then none
    else pr r (10 * acc - ((c.toNat : Int) - 48))
def Neg (a : Int) : Prop := -9223372036854775808 ≤ a ∧ a ≤ 0
theorem pr_neg : ∀ (l : List UInt8) (acc v : Int), Neg acc → pr l acc = some v → Neg v
  | [], acc, v, h, e => by injection e with e; subst e; exact h
  | c :: r, acc, v, h, e => by
    unfold pr at e
    split at e
    · exact pr_neg r _ _ h e
    · split at e
      · cases e
      · split at e
        · cases e
        · refine pr_neg r _ _ ?_ e
          obtain ⟨h1, h2⟩ := h
          constructor <;> omega
theorem drop_cons {α : Type} {l r : List α} {c : α} {i : Nat} (d : α) (h : l.drop i = c :: r) : l.getD i d = c ∧ l.drop (i + 1) = r ∧ i + 1 + r.length = l.length := by
  have hl := congrArg List.length h
  simp only [List.length_drop, List.length_cons] at hl
  refine ⟨?_, ?_, by omega⟩
  · have := congrArg (fun x => x[0]?) h
    simp only [List.getElem?_drop, List.getElem?_cons_zero, Nat.add_zero] at this
    rw [List.getD_eq_getElem?_getD, this]; rfl
  · rw [← List.drop_drop, h]; rfl
theorem turn_is {all r : List UInt8} {c : UInt8} {b : Bool} {i : Nat} {acc : Int} (hall : all.length ≤ 1000) (g1 : all.getD i 0 = c) (g3 : i + 1 + r.length = all.length) (hn : Neg acc) :
    bursarref01_Parse.t9 (bs all, (b, (acc, (i : Int)))) = some (if r.length = 2 ∧ c.toNat = 46 then .inl (bs all, (b, (acc, ((i + 1 : Nat) : Int)))) else if c.toNat < 48 ∨ 57 < c.toNat then .inr (.inl (0, false))
      else if acc < -922337203685477580 ∨ acc = -922337203685477580 ∧ 56 < c.toNat then .inr (.inl (0, false)) else .inl (bs all, (b, (10 * acc - ((c.toNat : Int) - 48), ((i + 1 : Nat) : Int))))) := by
  obtain ⟨n1, n2⟩ := hn
  have hb : bt (bs all) (Int.toNat (i : Int)) = (c.toNat : Int) := by rw [bt_bs, Int.toNat_natCast, g1]
  have hz : (((bs all).size : Nat) : Int) = (all.length : Int) := by rw [bs_size]
  have e3 : IntKind.wrap .i64 ((i : Int) + 1) = ((i + 1 : Nat) : Int) := wrap_up (by omega)
  have e4 : IntKind.wrap .i64 ((all.length : Int) - 3) = (all.length : Int) - 3 := wrap_i64 (by omega) (by omega)
  have hc := c.toNat_lt
  have e5 : IntKind.wrap .i64 (IntKind.wrap .i64 (c.toNat : Int) - 48) = (c.toNat : Int) - 48 := by rw [wrap_i64 (n := (c.toNat : Int)) (by omega) (by omega), wrap_i64 (by omega) (by omega)]
  have c1 : (i : Int) < (all.length : Int) := by omega
  have c2 : (0 : Int) ≤ (i : Int) := by omega
  have hsk : ((i : Int) == (all.length : Int) - 3) = decide (r.length = 2) := by
    rw [Bool.eq_iff_iff, beq_iff_eq, decide_eq_true_iff]; omega
  have hdot : ((c.toNat : Int) == 46) = decide (c.toNat = 46) := by
    rw [Bool.eq_iff_iff, beq_iff_eq, decide_eq_true_iff]; omega
  unfold bursarref01_Parse.t9
  simp only [hz, hb, e3, e4, e5, c1, c2, decide_true, Bool.true_and, cond_true, hsk, hdot]
  by_cases k1 : r.length = 2 ∧ c.toNat = 46
  · rw [if_pos k1]
    simp only [k1.1, k1.2, decide_true, cond_true]
  · rw [if_neg k1]
    have k1' : decide (r.length = 2) = false ∨ decide (c.toNat = 46) = false := by
      simp only [decide_eq_false_iff_not]; omega
    by_cases k2 : c.toNat < 48 ∨ 57 < c.toNat
    · rw [if_pos k2]
      by_cases k3 : (c.toNat : Int) < 48
      · rcases k1' with k1' | k1' <;> simp only [k1', k3, decide_true, cond_true, cond_false, Bool.cond_self]
      · have k4 : (c.toNat : Int) > 57 := by omega
        rcases k1' with k1' | k1' <;> simp only [k1', k3, k4, decide_true, decide_false, cond_true, cond_false, Bool.cond_self]
    · rw [if_neg k2]
      have k3 : ¬ (c.toNat : Int) < 48 := by omega
      have k4 : ¬ (c.toNat : Int) > 57 := by omega
      by_cases k5 : acc < -922337203685477580 ∨ acc = -922337203685477580 ∧ 56 < c.toNat
      · rw [if_pos k5]
        by_cases k6 : acc < -922337203685477580
        · rcases k1' with k1' | k1' <;> simp only [k1', k3, k4, k6, decide_true, decide_false, cond_true, cond_false, Bool.cond_self]
        · have k7 : (acc == -922337203685477580) = true := by rw [beq_iff_eq]; omega
          have k8 : (c.toNat : Int) - 48 > 8 := by omega
          rcases k1' with k1' | k1' <;> simp only [k1', k3, k4, k6, k7, k8, decide_true, decide_false, cond_true, cond_false, Bool.cond_self]
      · rw [if_neg k5]
        have e6 : IntKind.wrap .i64 (IntKind.wrap .i64 (10 * acc) - ((c.toNat : Int) - 48)) = 10 * acc - ((c.toNat : Int) - 48) := by
          rw [wrap_i64 (n := 10 * acc) (by omega) (by omega), wrap_i64 (by omega) (by omega)]
        have k6 : ¬ acc < -922337203685477580 := by omega
        simp only [e6]
        by_cases k7 : acc = -922337203685477580
        · have k8 : ¬ (c.toNat : Int) - 48 > 8 := by omega
          rcases k1' with k1' | k1' <;> simp only [k1', k3, k4, k6, k8, decide_false, cond_true, cond_false, Bool.cond_self]
        · have k8 : (acc == -922337203685477580) = false := by rw [beq_eq_false_iff_ne]; exact k7
          rcases k1' with k1' | k1' <;> simp only [k1', k3, k4, k6, k8, decide_false, cond_true, cond_false, Bool.cond_self]
theorem moneyRead_is (all : List UInt8) (b : Bool) (hall : all.length ≤ 1000) : ∀ (l : List UInt8) (i : Nat) (acc : Int), all.drop i = l → i ≤ all.length → Neg acc →
    bursarref01_Parse.l9 (bs all, (b, (acc, (i : Int)))) = some (match pr l acc with | none => .inl (0, false) | some v => .inr (bs all, (b, v)))
  | [], i, acc, h, hi, hn => by
    have hl := congrArg List.length h
    simp only [List.length_drop, List.length_nil] at hl
    unfold bursarref01_Parse.l9
    rw [rounds_end (r := .inr (bs all, (b, acc)))]
    · rfl
    · unfold bursarref01_Parse.t9
      have h1 : ¬ (i : Int) < ((bs all).size : Int) := by rw [bs_size]; omega
      simp only [h1, decide_false, cond_false]
  | c :: r, i, acc, h, hi, hn => by
    obtain ⟨g1, g2, g3⟩ := drop_cons 0 h
    have ih := fun acc' hn' => moneyRead_is all b hall r (i + 1) acc' g2 (by omega) hn'
    have st := turn_is (b := b) hall g1 g3 hn
    unfold bursarref01_Parse.l9 at ih ⊢
    unfold pr
    split at st
    · rename_i k; rw [if_pos k, rounds_next st]; exact ih acc hn
    · rename_i k; rw [if_neg k]
      split at st
      · rename_i k; rw [if_pos k, rounds_end st]
      · rename_i k; rw [if_neg k]
        split at st
        · rename_i k; rw [if_pos k, rounds_end st]
        · rename_i k' k; rw [if_neg k, rounds_next st]
          exact ih _ (by obtain ⟨n1, n2⟩ := hn; constructor <;> omega)
def refRead (b : Bool) (l r : List UInt8) : Int × Bool :=
  match pr r 0 with
  | none => (0, false)
  | some v => if b = true then (v, decide (txt v = l)) else if v = -9223372036854775808 then (0, false) else (-v, decide (txt (-v) = l))
def refParse (l : List UInt8) : Int × Bool := if l.head? = some 45 then refRead true l (l.drop 1) else refRead false l l
theorem ref_Parse_is {l : List UInt8} (hl : l.length ≤ 1000) : bursarref01_Parse.f (bs l) = some (refParse l) := by
  have z : Neg 0 := ⟨by omega, by omega⟩
  have hr := fun b i (hi : i ≤ l.length) => moneyRead_is l b hl (l.drop i) i 0 rfl hi z
  have hv := fun i v (h : pr (l.drop i) 0 = some v) => pr_neg _ _ _ z h
  unfold bursarref01_Parse.f refParse
  simp only [bs_size, texts_eq, bt_bs]
  have fin : ∀ (i : Nat) (b : Bool), i ≤ l.length → (bursarref01_Parse.l9 (bs l, (b, ((0 : Int), (i : Int))))).bind (fun (x1 : ((Int × Bool) ⊕ (ByteArray × (Bool × Int)))) => (match x1 with | .inl x2 => (some x2) | .inr x2 => (bif (!x2.2.1) then (bif (x2.2.2 == (-9223372036854775808 : Int)) then (some ((0 : Int), false)) else (((bursarref01_Text.f (IntKind.wrap .i64 ((0 : Int) - x2.2.2)))).bind fun (x3 : ByteArray) => (some ((IntKind.wrap .i64 ((0 : Int) - x2.2.2)), decide (x3 = x2.1))))) else (((bursarref01_Text.f x2.2.2)).bind fun (x3 : ByteArray) => (some (x2.2.2, decide (x3 = x2.1)))))))
      = some (refRead b l (l.drop i)) := by
    intro i b hi
    rw [hr b i hi]
    unfold refRead
    cases hp : pr (l.drop i) 0 with
    | none => rfl
    | some v =>
      obtain ⟨v1, v2⟩ := hv i v hp
      cases b
      · simp only [Option.bind_some, Bool.not_false, cond_true, Bool.false_eq_true, if_false]
        by_cases hm : v = -9223372036854775808
        · subst hm; rfl
        · rw [if_neg hm, show (v == -9223372036854775808) = false by rw [beq_eq_false_iff_ne]; exact hm, cond_false, wrap_i64 (by omega) (by omega), ref_Text_is ⟨by omega, by omega⟩]
          simp only [Option.bind_some, bs_inj, Int.zero_sub]
      · simp only [Option.bind_some, Bool.not_true, cond_false, if_true]
        rw [ref_Text_is ⟨by omega, by omega⟩]
        simp only [Option.bind_some, bs_inj]
  cases l with
  | nil => exact fin 0 false (by omega)
  | cons c r =>
    have h1 : ((c :: r).length : Int) > 0 := by simp
    have h2 : (0 : Int) < ((c :: r).length : Int) := h1
    simp only [h1, h2, decide_true, cond_true, Bool.true_and]
    by_cases hc : c = 45
    · subst hc
      rw [if_pos (by rfl)]
      exact fin 1 true (by simp)
    · have h3 : (((List.getD (c :: r) 0 0).toNat : Int) == 45) = false := by
        rw [beq_eq_false_iff_ne]
        intro h
        apply hc
        apply UInt8.toNat_inj.1
        simp at h
        show c.toNat = 45
        omega
      simp only [h3, cond_false]
      rw [if_neg (by simpa using hc)]
      exact fin 0 false (by omega)
end Go.Proofs.YtcadnpdhiolmfaaDoor
end
section
set_option linter.unusedVariables false
set_option linter.unusedSimpArgs false
namespace Go.Proofs.YtcadnpdhiolmfaaDoor
open Go Go.Fw
theorem pr_dig {d : Nat} {t : List UInt8} {acc : Int} (hd : d < 10) (h1 : -9223372036854775808 ≤ 10 * acc - d) : pr (dgt d :: t) acc = pr t (10 * acc - d) := by
  have hn := dgt_nat hd
  conv => lhs; unfold pr
  simp only [hn]
  rw [if_neg (by omega), if_neg (by omega), if_neg (by omega)]
  congr 1
  omega
theorem pr_decP : ∀ (k n : Nat) (t : List UInt8), n < 10 ^ k → n ≤ 9223372036854775 → pr (decP k n ++ t) 0 = pr t (-(n : Int))
  | 0, n, t, h, _ => by
    have : n = 0 := by simpa using h
    subst this; rfl
  | k + 1, n, t, h, h2 => by
    unfold decP
    split
    · rename_i h0; subst h0; rfl
    · rw [List.append_assoc, pr_decP k (n / 10) _ (by have : 10 ^ (k + 1) = 10 ^ k * 10 := Nat.pow_succ ..; omega) (by omega), List.singleton_append, pr_dig (by omega) (by omega)]
      congr 1
      omega
theorem pr_body {n : Nat} (hn : n ≤ 9223372036854775808) : pr (body n) 0 = some (-(n : Int)) := by
  unfold body
  rw [pr_decP 19 (n / 1000) _ (by omega) (by omega), pr_dig (by omega) (by omega)]
  conv => lhs; unfold pr
  rw [if_pos ⟨rfl, rfl⟩, pr_dig (by omega) (by omega), pr_dig (by omega) (by omega)]
  show some _ = some _
  congr 1
  omega
theorem body_dig (n : Nat) : ∀ c, c ∈ decP 19 (n / 1000) ++ [dgt (n / 100 % 10)] → 48 ≤ c.toNat ∧ c.toNat ≤ 57 := by
  intro c h
  rcases List.mem_append.1 h with h | h
  · exact decP_dig _ _ _ h
  · rw [List.mem_singleton.1 h, dgt_nat (by omega)]; omega
theorem body_head (n : Nat) : ¬ (body n).head? = some 45 := by
  intro h
  have hd := body_dig n
  have e : body n = (decP 19 (n / 1000) ++ [dgt (n / 100 % 10)]) ++ 46 :: [dgt (n / 10 % 10), dgt (n % 10)] := by unfold body; simp
  cases hl : decP 19 (n / 1000) ++ [dgt (n / 100 % 10)] with
  | nil => simp at hl
  | cons c r =>
    rw [e, hl] at h
    have := hd c (by rw [hl]; exact List.mem_cons_self ..)
    simp at h
    rw [h] at this
    exact absurd this (by decide)
theorem refParse_txt {a : Int} (ha : Am a) : refParse (txt a) = (a, true) := by
  obtain ⟨h1, h2⟩ := ha
  unfold refParse
  by_cases h : a < 0
  · have e : txt a = 45 :: body a.natAbs := by unfold txt; rw [if_pos h]; rfl
    rw [e, if_pos (by rfl)]
    unfold refRead
    rw [List.drop_one, List.tail_cons, pr_body (by omega), show -(a.natAbs : Int) = a by omega]
    simp [e]
  · have e : txt a = body a.natAbs := by unfold txt; rw [if_neg h]; rfl
    rw [e, if_neg (body_head _)]
    unfold refRead
    rw [pr_body (by omega), show -(a.natAbs : Int) = -a by omega]
    simp only [Bool.false_eq_true, if_false]
    rw [if_neg (by omega), Int.neg_neg, e]
    simp
theorem refParse_only {l : List UInt8} (h : (refParse l).2 = true) : ∃ v, Am v ∧ txt v = l ∧ refParse l = (v, true) := by
  have z : Neg 0 := ⟨by omega, by omega⟩
  have key : ∀ b r, (refRead b l r).2 = true → ∃ v, Am v ∧ txt v = l ∧ refRead b l r = (v, true) := by
    intro b r h
    unfold refRead at h ⊢
    cases hp : pr r 0 with
    | none => rw [hp] at h; cases h
    | some v =>
      rw [hp] at h
      obtain ⟨v1, v2⟩ := pr_neg _ _ _ z hp
      cases b
      · simp only [Bool.false_eq_true, if_false] at h ⊢
        split at h
        · cases h
        · rename_i k
          rw [if_neg k]
          have ht : txt (-v) = l := by simpa using h
          exact ⟨-v, ⟨by omega, by omega⟩, ht, by simp [ht]⟩
      · simp only [if_true] at h ⊢
        have ht : txt v = l := by simpa using h
        exact ⟨v, ⟨by omega, by omega⟩, ht, by simp [ht]⟩
  unfold refParse at h ⊢
  split at h
  · rename_i k; rw [if_pos k]; exact key _ _ h
  · rename_i k; rw [if_neg k]; exact key _ _ h
end Go.Proofs.YtcadnpdhiolmfaaDoor
end
section
namespace Go.Proofs
open Go.Shelf
def Tryd.laysM171_ren : Go.Shelf.Ren := ⟨fun | 171 => 15 | 243 => 37 | 246 => 57 | 283 => 72 | 284 => 73 | 285 => 74 | 286 => 75 | 129 => 91 | 317 => 90 | 318 => 92 | 319 => 93 | 320 => 94 | 337 => 98 | 338 => 99 | n => n, fun | 3 => 3 | 9 => 9 | 2 => 2 | 4 => 4 | 171 => 109 | 0 => 0 | 53 => 79 | 37 => 97 | 5 => 5 | 173 => 112 | 212 => 126 | 51 => 127 | 20 => 20 | 213 => 128 | 46 => 88 | 232 => 142 | 233 => 143 | n => n, fun | 17 => 3 | 18 => 6 | 19 => 7 | n => n⟩
theorem Tryd.laysM171 : Go.Proofs.LaysM.n171 Tryd.prog Tryd.laysM171_ren := {
  mixed := by kernel_rfl
  f129 := Tryd.func91.trans (congrArg some (by kernel_rfl))
  f171 := Tryd.func15.trans (congrArg some (by kernel_rfl))
  f243 := Tryd.func37.trans (congrArg some (by kernel_rfl))
  f246 := Tryd.func57.trans (congrArg some (by kernel_rfl))
  f283 := Tryd.func72.trans (congrArg some (by kernel_rfl))
  f284 := Tryd.func73.trans (congrArg some (by kernel_rfl))
  f285 := Tryd.func74.trans (congrArg some (by kernel_rfl))
  f286 := Tryd.func75.trans (congrArg some (by kernel_rfl))
  f317 := Tryd.func90.trans (congrArg some (by kernel_rfl))
  f318 := Tryd.func92.trans (congrArg some (by kernel_rfl))
  f319 := Tryd.func93.trans (congrArg some (by kernel_rfl))
  f320 := Tryd.func94.trans (congrArg some (by kernel_rfl))
  f337 := Tryd.func98.trans (congrArg some (by kernel_rfl))
  f338 := Tryd.func99.trans (congrArg some (by kernel_rfl))
  t0 := Tryd.underlying0
  a0 := Tryd.isAgg0
  z0 := Tryd.sizeOf0
  v0 := Tryd.zeroValue0
  t2 := Tryd.underlying2
  a2 := Tryd.isAgg2
  z2 := Tryd.sizeOf2
  v2 := Tryd.zeroValue2
  t3 := Tryd.underlying3
  a3 := Tryd.isAgg3
  z3 := Tryd.sizeOf3
  v3 := Tryd.zeroValue3
  t4 := Tryd.underlying4
  a4 := Tryd.isAgg4
  z4 := Tryd.sizeOf4
  v4 := Tryd.zeroValue4
  t5 := Tryd.underlying5
  a5 := Tryd.isAgg5
  z5 := Tryd.sizeOf5
  v5 := Tryd.zeroValue5
  t9 := Tryd.underlying9
  a9 := Tryd.isAgg9
  z9 := Tryd.sizeOf9
  v9 := Tryd.zeroValue9
  t20 := Tryd.underlying20
  a20 := Tryd.isAgg20
  z20 := Tryd.sizeOf20
  v20 := Tryd.zeroValue20
  t37 := Tryd.underlying97
  a37 := Tryd.isAgg97
  z37 := Tryd.sizeOf97
  v37 := Tryd.zeroValue97
  t46 := Tryd.underlying88
  a46 := Tryd.isAgg88
  z46 := Tryd.sizeOf88
  v46 := Tryd.zeroValue88
  t51 := Tryd.underlying127
  a51 := Tryd.isAgg127
  z51 := Tryd.sizeOf127
  v51 := Tryd.zeroValue127
  t53 := Tryd.underlying79
  a53 := Tryd.isAgg79
  z53 := Tryd.sizeOf79
  v53 := Tryd.zeroValue79
  t171 := Tryd.underlying109
  a171 := Tryd.isAgg109
  z171 := Tryd.sizeOf109
  v171 := Tryd.zeroValue109
  t173 := Tryd.underlying112
  a173 := Tryd.isAgg112
  z173 := Tryd.sizeOf112
  v173 := Tryd.zeroValue112
  t212 := Tryd.underlying126
  a212 := Tryd.isAgg126
  z212 := Tryd.sizeOf126
  v212 := Tryd.zeroValue126
  t213 := Tryd.underlying128
  a213 := Tryd.isAgg128
  z213 := Tryd.sizeOf128
  t232 := Tryd.underlying142
  a232 := Tryd.isAgg142
  z232 := Tryd.sizeOf142
  v232 := Tryd.zeroValue142
  t233 := Tryd.underlying143
  a233 := Tryd.isAgg143
  z233 := Tryd.sizeOf143
  v233 := Tryd.zeroValue143
  g17 := by kernel_rfl
  g18 := by kernel_rfl
  g19 := by kernel_rfl
  i0 := by kernel_rfl
  i2 := by kernel_rfl
  i3 := by kernel_rfl
  i4 := by kernel_rfl
  i5 := by kernel_rfl
  i9 := by kernel_rfl
  i20 := by kernel_rfl
  i37 := by kernel_rfl
  i46 := by kernel_rfl
  i51 := by kernel_rfl
  i53 := by kernel_rfl
  i171 := by kernel_rfl
  i173 := by kernel_rfl
  i212 := by kernel_rfl
  i232 := by kernel_rfl
  i233 := by kernel_rfl
  m17 := by kernel_rfl
  m18 := by kernel_rfl
  m19 := by kernel_rfl }
end Go.Proofs
end
section
set_option linter.unusedVariables false
namespace Go.Proofs.YtcadnpdhiolmfaaDoor
open Go Go.Fw Go.RowKit Go.Shelf
def itoaI (n : Int) : List UInt8 := bif decide (n < 0) then 45 :: decF 20 n.natAbs else decF 20 n.toNat
abbrev strconv_Itoa.As : Shs := .cons (.x (.i .i64)) .nil
abbrev strconv_Itoa.m : Back := [(false, .s)]
abbrev strconv_Itoa.f (a : Int) : Option ByteArray := bif decide (-9223372036854775808 ≤ a) && decide (a ≤ 9223372036854775807) then some (bs (itoaI a)) else none
noncomputable abbrev strconv_Itoa.row : Row := fnRow 15 strconv_Itoa.As strconv_Itoa.m strconv_Itoa.f
theorem itoaI_is {n : Int} (h0 : -9223372036854775808 ≤ n) (h1 : n ≤ 9223372036854775807) : itoaI n = Lib.itoa n := by
  unfold itoaI Lib.itoa
  rw [decF_is 19 _ (by omega)]
  by_cases h : n < 0
  · simp [h]
  · simp only [h, decide_false, cond_false, if_false]
    exact decF_is 19 _ (by omega)
theorem strconv_Itoa.row_ok : RowOK P G0 strconv_Itoa.row := by
  have key : ∀ (ds : List D) (a : Int) (q : ByteArray), decArgs strconv_Itoa.As ds = some a → strconv_Itoa.f a = some q → Fw.Enters P 15 ∧ PCall P G0 15 ds (.s q) := by
    intro ds a q ha hq
    refine ⟨ent_of Tryd.func15 (by kernel_rfl) (by kernel_rfl), ?_⟩
    have hds := (decArgs_argD ha).symm
    refine PCall.coe (ds' := argD strconv_Itoa.As a) ?_ (by rw [← hds]; exact coeA_len) fun w I f hf => by rw [← hds]; exact coeA_rel hf
    refine pcall_below fun w I K vs hg hsz hr => ?_
    have h0 := hr 0 (.i .i64 a) rfl
    have hvs : vs = #[.int .i64 a] := by
      have hs : vs.size = 1 := hsz
      rw [Array.getD_eq_getD_getElem?, Array.getElem?_eq_getElem (by omega)] at h0
      simp only [Option.getD_some] at h0
      refine Array.ext (by simpa using hs) fun i hi hi' => ?_
      match i, hi with
      | 0, _ => cases h : vs[0] <;> rw [h] at h0 <;> cases h0; rfl
      | i + 1, hi => omega
    subst hvs
    unfold strconv_Itoa.f at hq
    obtain ⟨hb, hq⟩ := cond_some hq
    simp only [Bool.and_eq_true, decide_eq_true_eq] at hb
    injection hq with hq
    subst hq
    refine (Any.strconv_Itoa Tryd.laysM171 a hb.1 hb.2 w (tab_of_glob hg (g := 3) (by kernel_rfl) rfl)).mono ?_
    rintro e w' ⟨rfl, k, os, rfl⟩
    refine ⟨_, rfl, grow_below w k os, ?_⟩
    rw [itoaI_is hb.1 hb.2]
    exact RelD.s _
  exact fun ds a q => key ds a q
end Go.Proofs.YtcadnpdhiolmfaaDoor
end
section
set_option linter.unusedVariables false
set_option maxRecDepth 100000
namespace Go.Proofs.YtcadnpdhiolmfaaDoor
open Go Go.Fw
abbrev chart_letters.row : Row := closedRow 38 (.ag [.s (bs []), .s (bs [67]), .s (bs [65]), .s (bs [72]), .s (bs [68])])
theorem chart_letters.row_ok : RowOK P G0 chart_letters.row := closed_ok e0_ok j0_ok (T := []) trivial 60 (by kernel_rfl)
abbrev chart_Name.As : Shs := (.cons (.x T_api_Account) .nil)
abbrev chart_Name.m : Back := [(false, .s), (false, (.i .i64))]
noncomputable abbrev chart_Name.H : HK := hk P G0 E0 J0 [chart_May.row, chart_letters.row] noLoops 4
theorem chart_Name.rows : TabOK P G0 (tabF [chart_May.row, chart_letters.row]) := rows_ok (ws := [chart_May.row, chart_letters.row]) ⟨chart_May.row_ok, ⟨chart_letters.row_ok, trivial⟩⟩
theorem chart_Name.hok : HKOK P chart_Name.H := hk_ok e0_ok j0_ok chart_Name.rows (fun g n => noLoops_ok g n) 4
noncomputable def chart_Name.f (a : (Int × ByteArray)) : Option (ByteArray × Int) := (((chart_May.f a)).bind fun x1 => (bif (!x1) then (some ((bs []), (1 : Int))) else (bif (a.1 == (0 : Int)) then (bif (Nat.ble (0 + a.2.size) 9223372036854775807) then (some (((bs []) ++ a.2), (0 : Int))) else none) else (bif (a.1 == (1 : Int)) then (bif (Nat.ble (1 + a.2.size) 9223372036854775807) then (some (((bs [67]) ++ a.2), (0 : Int))) else none) else (bif (a.1 == (2 : Int)) then (bif (Nat.ble (1 + a.2.size) 9223372036854775807) then (some (((bs [65]) ++ a.2), (0 : Int))) else none) else (bif (a.1 == (3 : Int)) then (bif (Nat.ble (1 + a.2.size) 9223372036854775807) then (some (((bs [72]) ++ a.2), (0 : Int))) else none) else (bif (a.1 == (4 : Int)) then (bif (Nat.ble (1 + a.2.size) 9223372036854775807) then (some (((bs [68]) ++ a.2), (0 : Int))) else none) else none)))))))
theorem chart_Name.ok : ∀ a : Vals chart_Name.As.tys, fnK P chart_Name.H (lp []) 16 chart_Name.As chart_Name.m a some = chart_Name.f a := fun a => by kernel_rfl
noncomputable abbrev chart_Name.row : Row := fnRow 16 chart_Name.As chart_Name.m chart_Name.f
theorem chart_Name.row_ok : RowOK P G0 chart_Name.row := row_told chart_Name.hok (lp_of (l := []) trivial) (fun _ => rfl) chart_Name.ok
abbrev entry_Text.As : Shs := (.cons (.x T_api_Entry) .nil)
abbrev entry_Text.m : Back := [(false, .s), (false, (.i .i64))]
noncomputable abbrev entry_Text.H : HK := hk P G0 E0 J0 [entry_Check.row, strconv_Itoa.row, chart_Name.row, money_Text.row] noLoops 4
theorem entry_Text.rows : TabOK P G0 (tabF [entry_Check.row, strconv_Itoa.row, chart_Name.row, money_Text.row]) := rows_ok (ws := [entry_Check.row, strconv_Itoa.row, chart_Name.row, money_Text.row]) ⟨entry_Check.row_ok, ⟨strconv_Itoa.row_ok, ⟨chart_Name.row_ok, ⟨money_Text.row_ok, trivial⟩⟩⟩⟩
theorem entry_Text.hok : HKOK P entry_Text.H := hk_ok e0_ok j0_ok entry_Text.rows (fun g n => noLoops_ok g n) 4
noncomputable abbrev entry_Text.sh8 : SSh := ⟨[(5, (.x .s)), (23, (.x (.l (.g (.p (.g (.p (.i .i64) .s)) (.i .i64)))))), (24, (.x (.i .i64))), (25, (.x (.i .i64)))], []⟩
noncomputable abbrev entry_Text.os8 : PEnds := [((.exit 0), ⟨[(5, (.x .s))], []⟩)]
noncomputable def entry_Text.t8 (s : (ByteArray × ((List ((Int × ByteArray) × Int)) × (Int × Int)))) : Option ((ByteArray × ((List ((Int × ByteArray) × Int)) × (Int × Int))) ⊕ (ByteArray)) := (bif (decide ((s.2.2.2 < s.2.2.1))) then (bif ((decide (((0 : Int) ≤ s.2.2.2))) && (decide ((s.2.2.2 < ((List.length s.2.1) : Int))))) then (((chart_Name.f (List.getD s.2.1 (Int.toNat s.2.2.2) (Ty.dflt T_api_Line)).1)).bind fun x4 => (bif (Nat.ble (1 + x4.1.size) 9223372036854775807) then (bif (Nat.ble (((bs [32]) ++ x4.1).size + 1) 9223372036854775807) then (((money_Text.f (List.getD s.2.1 (Int.toNat s.2.2.2) (Ty.dflt T_api_Line)).2)).bind fun x5 => (bif (Nat.ble ((((bs [32]) ++ x4.1) ++ (bs [61])).size + x5.size) 9223372036854775807) then (bif (Nat.ble (s.1.size + ((((bs [32]) ++ x4.1) ++ (bs [61])) ++ x5).size) 9223372036854775807) then (some (.inl ((s.1 ++ ((((bs [32]) ++ x4.1) ++ (bs [61])) ++ x5)), (s.2.1, (s.2.2.1, (IntKind.wrap .i64 (s.2.2.2 + (1 : Int)))))))) else none) else none)) else none) else none)) else none) else (some (.inr s.1)))
theorem entry_Text.t8_ok : ∀ s : Vals entry_Text.sh8.tys, turnK P entry_Text.H (lp []) (bodyAt (codeOf P 6) 8) 0 entry_Text.sh8 entry_Text.os8 s some = entry_Text.t8 s := fun s => by kernel_rfl
noncomputable def entry_Text.l8 : (ByteArray × ((List ((Int × ByteArray) × Int)) × (Int × Int))) → Option (ByteArray) := rounds entry_Text.t8
noncomputable def entry_Text.f (a : (Int × (ByteArray × (List ((Int × ByteArray) × Int))))) : Option (ByteArray × Int) := (((entry_Check.f a)).bind fun x1 => (bif (x1 != (0 : Int)) then (some ((bs []), x1)) else (((strconv_Itoa.f a.1)).bind fun x2 => (bif (Nat.ble (x2.size + 1) 9223372036854775807) then (bif (Nat.ble ((x2 ++ (bs [32])).size + a.2.1.size) 9223372036854775807) then (((entry_Text.l8 (((x2 ++ (bs [32])) ++ a.2.1), (a.2.2, (((List.length a.2.2) : Int), (0 : Int)))))).bind fun x3 => (some (x3, (0 : Int)))) else none) else none))))
theorem entry_Text.ok : ∀ a : Vals entry_Text.As.tys, fnK P entry_Text.H (lp [(8, (NodeT.summ ⟨entry_Text.sh8, entry_Text.os8, entry_Text.l8⟩ 0))]) 6 entry_Text.As entry_Text.m a some = entry_Text.f a := fun a => by kernel_rfl
noncomputable abbrev entry_Text.row : Row := fnRow 6 entry_Text.As entry_Text.m entry_Text.f
theorem entry_Text.row_ok : RowOK P G0 entry_Text.row := row_told entry_Text.hok (lp_of (l := [(8, (NodeT.summ ⟨entry_Text.sh8, entry_Text.os8, entry_Text.l8⟩ 0))]) ⟨(loop_sum entry_Text.hok (by kernel_rfl) (by kernel_rfl) (l := []) trivial entry_Text.sh8 entry_Text.os8 (by kernel_rfl) entry_Text.t8 entry_Text.t8_ok), trivial⟩) (fun _ => rfl) entry_Text.ok
abbrev bursarlaw12_Few.As : Shs := (.cons (.x T_api_Entry) .nil)
abbrev bursarlaw12_Few.m : Back := [(false, T_api_Entry)]
noncomputable abbrev bursarlaw12_Few.H : HK := hk P G0 E0 J0 [] noLoops 4
theorem bursarlaw12_Few.rows : TabOK P G0 (tabF []) := rows_ok (ws := []) trivial
theorem bursarlaw12_Few.hok : HKOK P bursarlaw12_Few.H := hk_ok e0_ok j0_ok bursarlaw12_Few.rows (fun g n => noLoops_ok g n) 4
noncomputable abbrev bursarlaw12_Few.sh10 : SSh := ⟨[(1, (.pt 0 0)), (2, (.pt 1 0)), (3, (.own 2 3)), (4, (.x (.i .i64)))], [.box (.cons (.x (.i .i64)) (.cons (.x .s) (.cons (.x (.l (.g (.p (.g (.p (.i .i64) .s)) (.i .i64))))) .nil))), .box (.cons (.x (.i .i64)) (.cons (.x .s) (.cons (.own 3 3) .nil))), .arrN T_api_Line, .arrN T_api_Line]⟩
noncomputable abbrev bursarlaw12_Few.os10 : PEnds := [((.exit 0), ⟨[(1, (.pt 0 0)), (2, (.pt 1 0)), (3, (.x (.l (.g (.p (.g (.p (.i .i64) .s)) (.i .i64))))))], [.box (.cons (.x (.i .i64)) (.cons (.x .s) (.cons (.x (.l (.g (.p (.g (.p (.i .i64) .s)) (.i .i64))))) .nil))), .box (.cons (.x (.i .i64)) (.cons (.x .s) (.cons (.own 2 3) .nil))), .arrN T_api_Line]⟩)]
noncomputable def bursarlaw12_Few.t10 (s : (Int × (Int × (ByteArray × ((List ((Int × ByteArray) × Int)) × (Int × (ByteArray × ((List ((Int × ByteArray) × Int)) × (List ((Int × ByteArray) × Int)))))))))) : Option ((Int × (Int × (ByteArray × ((List ((Int × ByteArray) × Int)) × (Int × (ByteArray × ((List ((Int × ByteArray) × Int)) × (List ((Int × ByteArray) × Int))))))))) ⊕ (((List ((Int × ByteArray) × Int)) × (Int × (ByteArray × ((List ((Int × ByteArray) × Int)) × (Int × (ByteArray × (List ((Int × ByteArray) × Int)))))))))) := (bif (decide ((s.1 < ((List.length s.2.2.2.1) : Int)))) then (bif ((decide (((0 : Int) ≤ s.1))) && (decide ((s.1 < ((List.length s.2.2.2.1) : Int))))) then (bif (decide ((((List.getD s.2.2.2.1 (Int.toNat s.1) (Ty.dflt T_api_Line)).1.2.size : Int) > (20 : Int)))) then (bif (true && (decide (((20 : Int) ≤ ((List.getD s.2.2.2.1 (Int.toNat s.1) (Ty.dflt T_api_Line)).1.2.size : Int))))) then (bif ((true && (Nat.ble (((List.length s.2.2.2.2.2.2.1) + (List.length ((((List.getD s.2.2.2.1 (Int.toNat s.1) (Ty.dflt T_api_Line)).1.1, (ByteArray.extract (List.getD s.2.2.2.1 (Int.toNat s.1) (Ty.dflt T_api_Line)).1.2 0 20)), (List.getD s.2.2.2.1 (Int.toNat s.1) (Ty.dflt T_api_Line)).2) :: []))) * 32) 140737488355328)) && (Nat.ble ((List.length s.2.2.2.2.2.2.1) + (List.length ((((List.getD s.2.2.2.1 (Int.toNat s.1) (Ty.dflt T_api_Line)).1.1, (ByteArray.extract (List.getD s.2.2.2.1 (Int.toNat s.1) (Ty.dflt T_api_Line)).1.2 0 20)), (List.getD s.2.2.2.1 (Int.toNat s.1) (Ty.dflt T_api_Line)).2) :: []))) 140737488355328)) then (some (.inl ((IntKind.wrap .i64 (s.1 + (1 : Int))), (s.2.1, (s.2.2.1, (s.2.2.2.1, (s.2.2.2.2.1, (s.2.2.2.2.2.1, ((s.2.2.2.2.2.2.1 ++ ((((List.getD s.2.2.2.1 (Int.toNat s.1) (Ty.dflt T_api_Line)).1.1, (ByteArray.extract (List.getD s.2.2.2.1 (Int.toNat s.1) (Ty.dflt T_api_Line)).1.2 0 20)), (List.getD s.2.2.2.1 (Int.toNat s.1) (Ty.dflt T_api_Line)).2) :: [])), s.2.2.2.2.2.2.2))))))))) else none) else none) else (bif ((true && (Nat.ble (((List.length s.2.2.2.2.2.2.1) + (List.length ((List.getD s.2.2.2.1 (Int.toNat s.1) (Ty.dflt T_api_Line)) :: []))) * 32) 140737488355328)) && (Nat.ble ((List.length s.2.2.2.2.2.2.1) + (List.length ((List.getD s.2.2.2.1 (Int.toNat s.1) (Ty.dflt T_api_Line)) :: []))) 140737488355328)) then (some (.inl ((IntKind.wrap .i64 (s.1 + (1 : Int))), (s.2.1, (s.2.2.1, (s.2.2.2.1, (s.2.2.2.2.1, (s.2.2.2.2.2.1, ((s.2.2.2.2.2.2.1 ++ ((List.getD s.2.2.2.1 (Int.toNat s.1) (Ty.dflt T_api_Line)) :: [])), s.2.2.2.2.2.2.2))))))))) else none)) else none) else (some (.inr (s.2.2.2.2.2.2.1, (s.2.1, (s.2.2.1, (s.2.2.2.1, (s.2.2.2.2.1, (s.2.2.2.2.2.1, s.2.2.2.2.2.2.2)))))))))
theorem bursarlaw12_Few.t10_ok : ∀ s : Vals bursarlaw12_Few.sh10.tys, turnK P bursarlaw12_Few.H (lp []) (bodyAt (codeOf P 4) 10) 0 bursarlaw12_Few.sh10 bursarlaw12_Few.os10 s some = bursarlaw12_Few.t10 s := by rintro ⟨s0, s1, s2, s3, s4, s5, s6, s7⟩; cases s6 <;> cases s7 <;> kernel_rfl
noncomputable def bursarlaw12_Few.l10 : (Int × (Int × (ByteArray × ((List ((Int × ByteArray) × Int)) × (Int × (ByteArray × ((List ((Int × ByteArray) × Int)) × (List ((Int × ByteArray) × Int))))))))) → Option (((List ((Int × ByteArray) × Int)) × (Int × (ByteArray × ((List ((Int × ByteArray) × Int)) × (Int × (ByteArray × (List ((Int × ByteArray) × Int))))))))) := rounds bursarlaw12_Few.t10
noncomputable def bursarlaw12_Few.f (a : (Int × (ByteArray × (List ((Int × ByteArray) × Int))))) : Option (Int × (ByteArray × (List ((Int × ByteArray) × Int)))) := (bif (decide ((((List.length a.2.2) : Int) > (10 : Int)))) then (bif (true && (decide (((10 : Int) ≤ ((List.length a.2.2) : Int))))) then (bif (decide (((a.2.1.size : Int) > (25 : Int)))) then (bif (true && (decide (((25 : Int) ≤ (a.2.1.size : Int))))) then (((bursarlaw12_Few.l10 ((0 : Int), (a.1, ((ByteArray.extract a.2.1 0 25), ((List.take 10 (List.drop 0 a.2.2)), ((0 : Int), ((bs []), ([], []))))))))).bind fun x1 => (match x1.2.2.2.2.2.2 with | [] => (some (x1.2.1, (x1.2.2.1, x1.1))) | x2 :: x3 => (some (x1.2.1, (x1.2.2.1, x1.1))))) else none) else (((bursarlaw12_Few.l10 ((0 : Int), (a.1, (a.2.1, ((List.take 10 (List.drop 0 a.2.2)), ((0 : Int), ((bs []), ([], []))))))))).bind fun x1 => (match x1.2.2.2.2.2.2 with | [] => (some (x1.2.1, (x1.2.2.1, x1.1))) | x2 :: x3 => (some (x1.2.1, (x1.2.2.1, x1.1)))))) else none) else (bif (decide (((a.2.1.size : Int) > (25 : Int)))) then (bif (true && (decide (((25 : Int) ≤ (a.2.1.size : Int))))) then (((bursarlaw12_Few.l10 ((0 : Int), (a.1, ((ByteArray.extract a.2.1 0 25), (a.2.2, ((0 : Int), ((bs []), ([], []))))))))).bind fun x1 => (match x1.2.2.2.2.2.2 with | [] => (some (x1.2.1, (x1.2.2.1, x1.1))) | x2 :: x3 => (some (x1.2.1, (x1.2.2.1, x1.1))))) else none) else (((bursarlaw12_Few.l10 ((0 : Int), (a.1, (a.2.1, (a.2.2, ((0 : Int), ((bs []), ([], []))))))))).bind fun x1 => (match x1.2.2.2.2.2.2 with | [] => (some (x1.2.1, (x1.2.2.1, x1.1))) | x2 :: x3 => (some (x1.2.1, (x1.2.2.1, x1.1)))))))
theorem bursarlaw12_Few.ok : ∀ a : Vals bursarlaw12_Few.As.tys, fnK P bursarlaw12_Few.H (lp [(10, (NodeT.summ ⟨bursarlaw12_Few.sh10, bursarlaw12_Few.os10, bursarlaw12_Few.l10⟩ 0))]) 4 bursarlaw12_Few.As bursarlaw12_Few.m a some = bursarlaw12_Few.f a := fun a => by kernel_rfl
noncomputable abbrev bursarlaw12_Few.row : Row := fnRow 4 bursarlaw12_Few.As bursarlaw12_Few.m bursarlaw12_Few.f
theorem bursarlaw12_Few.row_ok : RowOK P G0 bursarlaw12_Few.row := row_told bursarlaw12_Few.hok (lp_of (l := [(10, (NodeT.summ ⟨bursarlaw12_Few.sh10, bursarlaw12_Few.os10, bursarlaw12_Few.l10⟩ 0))]) ⟨(loop_sum bursarlaw12_Few.hok (by kernel_rfl) (by kernel_rfl) (l := []) trivial bursarlaw12_Few.sh10 bursarlaw12_Few.os10 (by kernel_rfl) bursarlaw12_Few.t10 bursarlaw12_Few.t10_ok), trivial⟩) (fun _ => rfl) bursarlaw12_Few.ok
end Go.Proofs.YtcadnpdhiolmfaaDoor
end
