/- Part 6 of what the proof of this statement stands on: Fields that are put one behind the other come to the same message in whatever order, if none is there twice. -/
import Derived.Laws.Strings
import Derived.OwnWalk
import Derived.Lib.SliceRun
import Derived.Test.YtkgnhjmbnmaboaaGreatDoorKIsoOrder1
section
/- The map of a set, as the document has it: plain laws. By this session. -/
set_option linter.unusedVariables false
set_option linter.unusedSimpArgs false
namespace Go.Proofs.YtkgnhjmbnmaboaaGreatDoor
open Go Go.Fw
def onStep (s : Int × List Bool) (n : Int) : Int × List Bool := bif decide (n > 64) then (128, (s.2.set n.toNat true).set 1 true) else (s.1, s.2.set n.toNat true)
def onAll (l : List Int) (s : Int × List Bool) : Int × List Bool := l.foldl onStep s
theorem onStep_len (s : Int × List Bool) (n : Int) : (onStep s n).2.length = s.2.length := by
  unfold onStep
  cases decide (n > 64) <;> simp
theorem onAll_len : ∀ (l : List Int) (s : Int × List Bool), (onAll l s).2.length = s.2.length
  | [], s => rfl
  | n :: l, s => by
    show (onAll l (onStep s n)).2.length = _
    rw [onAll_len l, onStep_len]
theorem set_getD (l : List Bool) (i j : Nat) (hi : i < l.length) : (l.set i true).getD j false = (decide (j = i) || l.getD j false) := by
  rw [List.getD_eq_getElem?_getD, List.getElem?_set]
  by_cases h : i = j
  · subst h; simp [hi]
  · rw [if_neg h, ← List.getD_eq_getElem?_getD, decide_eq_false (fun e => h e.symm), Bool.false_or]
theorem onAll_is : ∀ (l : List Int) (s : Int × List Bool), s.2.length = 129 → (∀ n ∈ l, 0 ≤ n ∧ n ≤ 128) → (onAll l s).1 = (bif wide l then 128 else s.1) ∧ ∀ j : Nat, (onAll l s).2.getD j false = (decide ((j : Int) ∈ l) || (wide l && decide (j = 1)) || s.2.getD j false)
  | [], s, hs, h => ⟨rfl, fun j => by simp [onAll, wide]⟩
  | n :: l, s, hs, h => by
    have hn := h n List.mem_cons_self
    obtain ⟨h1, h2⟩ := onAll_is l (onStep s n) (by rw [onStep_len]; exact hs) fun x hx => h x (List.mem_cons_of_mem _ hx)
    have e : onAll (n :: l) s = onAll l (onStep s n) := rfl
    have mem : ∀ j : Nat, decide ((j : Int) ∈ n :: l) = (decide (j = n.toNat) || decide ((j : Int) ∈ l)) := fun j => by
      rw [Bool.eq_iff_iff]
      simp only [List.mem_cons, decide_eq_true_eq, Bool.or_eq_true]
      constructor
      · rintro (h | h)
        · left; omega
        · exact .inr h
      · rintro (h | h)
        · left; omega
        · exact .inr h
    have hw : wide (n :: l) = (decide (64 < n) || wide l) := rfl
    rw [e, h1, hw]
    by_cases h64 : 64 < n
    · have hst : onStep s n = (128, (s.2.set n.toNat true).set 1 true) := by unfold onStep; rw [decide_eq_true (show n > 64 from h64)]; rfl
      refine ⟨by rw [hst, decide_eq_true h64]; cases wide l <;> rfl, fun j => ?_⟩
      rw [h2 j, hst, set_getD _ _ _ (by rw [List.length_set]; omega), set_getD _ _ _ (by omega), mem j, decide_eq_true h64]
      cases decide ((j : Int) ∈ l) <;> cases wide l <;> cases decide (j = 1) <;> cases decide (j = n.toNat) <;> simp
    · have hst : onStep s n = (s.1, s.2.set n.toNat true) := by unfold onStep; rw [decide_eq_false (show ¬ n > 64 from h64)]; rfl
      refine ⟨by rw [hst, decide_eq_false h64]; simp, fun j => ?_⟩
      rw [h2 j, hst, set_getD _ _ _ (by omega), mem j, decide_eq_false h64]
      cases decide ((j : Int) ∈ l) <;> cases wide l <;> cases decide (j = 1) <;> cases decide (j = n.toNat) <;> simp
def on0 : List Bool := List.replicate 129 false
theorem on_rounds {l : List Int} (hl : l.length ≤ 1000) (h : ∀ n ∈ l, 0 ≤ n ∧ n ≤ 128) : bursarref17_Map.l5 (l, 64, 0, on0) = some (onAll l (64, on0)) := by
  have st := rounds_to (t := bursarref17_Map.t5) (fun i => (l, (onAll (l.take i) (64, on0)).1, (i : Int), (onAll (l.take i) (64, on0)).2)) l.length fun i hi => by
    have hm := h _ (List.getElem_mem hi)
    obtain ⟨n, hn⟩ : ∃ n, l.getD i 0 = n := ⟨_, rfl⟩
    have hni : l[i] = n := by rw [← getD_at hi (d := 0)]; exact hn
    rw [hni] at hm
    have hlen : (onAll (l.take i) (64, on0)).2.length = 129 := by rw [onAll_len]; simp [on0]
    have next : onAll (l.take (i + 1)) (64, on0) = onStep (onAll (l.take i) (64, on0)) n := by
      rw [take_up 0 hi, hn]
      unfold onAll
      rw [List.foldl_append]
      rfl
    obtain ⟨s, hs⟩ : ∃ s, onAll (l.take i) (64, on0) = s := ⟨_, rfl⟩
    rw [hs] at hlen next
    simp only [bursarref17_Map.t5, hs, hn, next, decide_eq_true (show (i : Int) < (l.length : Int) by omega), ge0 i, Bool.and_self, cond_true, Int.toNat_natCast, decide_eq_true hm.1, decide_eq_true (show n < 129 by omega), Nat.zero_add, Bool.true_and, wrap_up (show i < 9223372036854775807 by omega), List.length_set]
    rw [show Nat.blt n.toNat s.2.length = true by rw [Nat.blt_eq]; omega, show Nat.blt 1 s.2.length = true by rw [Nat.blt_eq]; omega]
    unfold onStep
    cases decide (n > 64) <;> rfl
  have : bursarref17_Map.l5 (l, 64, 0, on0) = rounds bursarref17_Map.t5 (l, (onAll (l.take 0) (64, on0)).1, ((0 : Nat) : Int), (onAll (l.take 0) (64, on0)).2) := rfl
  rw [this, st]
  refine rounds_end ?_
  simp [bursarref17_Map.t5]
/-- an octet, by its bits -/
def byteOn (on : List Bool) (j k : Nat) : Nat := (List.range k).foldl (fun c k => 2 * c + (bif on.getD (8 * j + 1 + k) false then 1 else 0)) 0
theorem byteOn_up (on : List Bool) (j k : Nat) : byteOn on j (k + 1) = 2 * byteOn on j k + (bif on.getD (8 * j + 1 + k) false then 1 else 0) := by
  unfold byteOn
  rw [List.range_succ, List.foldl_append]
  rfl
theorem byteOn_lt (on : List Bool) (j : Nat) : ∀ k, byteOn on j k < 2 ^ k
  | 0 => by simp [byteOn]
  | k + 1 => by
    have := byteOn_lt on j k
    rw [byteOn_up, Nat.pow_succ]
    cases on.getD (8 * j + 1 + k) false <;> simp <;> omega
theorem inner_rounds {on : List Bool} {most : Int} {s : ByteArray} {j : Nat} (hj : j < 16) (hon : on.length = 129) : bursarref17_Map.l9_6 (most, s, ((8 * j + 1 : Nat) : Int), 0, 0, on) = some (most, s, ((8 * j + 1 : Nat) : Int), (byteOn on j 8 : Int), on) := by
  have st := rounds_to (t := bursarref17_Map.t9_6) (fun k => (most, s, ((8 * j + 1 : Nat) : Int), (byteOn on j k : Int), (k : Int), on)) 8 fun k hk => by
    have hlt := byteOn_lt on j k
    have h256 : 2 ^ k ≤ 128 := Nat.le_trans (Nat.pow_le_pow_right (by omega) (show k ≤ 7 by omega)) (by decide)
    have w1 : IntKind.wrap .i64 (((8 * j + 1 : Nat) : Int) + (k : Int)) = ((8 * j + 1 + k : Nat) : Int) := by rw [wrap_i64 (by omega) (by omega)]; omega
    have w2 : IntKind.wrap .i64 ((2 : Int) * (byteOn on j k : Int)) = ((2 * byteOn on j k : Nat) : Int) := by rw [wrap_i64 (by omega) (by omega)]; omega
    have w3 : IntKind.wrap .i64 (((2 * byteOn on j k : Nat) : Int) + 1) = ((2 * byteOn on j k + 1 : Nat) : Int) := by rw [wrap_i64 (by omega) (by omega)]; omega
    simp only [bursarref17_Map.t9_6, decide_eq_true (show (k : Int) < 8 by omega), cond_true, w1, ge0 (8 * j + 1 + k), decide_eq_true (show ((8 * j + 1 + k : Nat) : Int) < 129 by omega), Bool.and_self, Int.toNat_natCast, Nat.zero_add, Bool.true_and, w2, w3, wrap_up (show k < 9223372036854775807 by omega), byteOn_up]
    rw [show Nat.blt (8 * j + 1 + k) on.length = true by rw [Nat.blt_eq]; omega]
    cases on.getD (8 * j + 1 + k) false <;> rfl
  have : bursarref17_Map.l9_6 (most, s, ((8 * j + 1 : Nat) : Int), 0, 0, on) = rounds bursarref17_Map.t9_6 (most, s, ((8 * j + 1 : Nat) : Int), (byteOn on j 0 : Int), ((0 : Nat) : Int), on) := rfl
  rw [this, st]
  refine rounds_end ?_
  simp [bursarref17_Map.t9_6]
theorem outer_rounds {on : List Bool} (hon : on.length = 129) {m : Nat} (hm : m ≤ 16) : bursarref17_Map.l9 (((8 * m : Nat) : Int), bs [], 1, on) = some (bs ((List.range m).map fun j => UInt8.ofNat (byteOn on j 8))) := by
  have st := rounds_to (t := bursarref17_Map.t9) (fun j => (((8 * m : Nat) : Int), bs ((List.range j).map fun j => UInt8.ofNat (byteOn on j 8)), ((8 * j + 1 : Nat) : Int), on)) m fun j hj => by
    have hlt := byteOn_lt on j 8
    have w1 : IntKind.wrap .u8 ((byteOn on j 8 : Nat) : Int) = ((byteOn on j 8 : Nat) : Int) := by rw [wrap_u8]; omega
    have w2 : IntKind.wrap .i64 (((8 * j + 1 : Nat) : Int) + 8) = ((8 * (j + 1) + 1 : Nat) : Int) := by rw [wrap_i64 (by omega) (by omega)]; omega
    have hb : ByteArray.mk (List.toArray (List.map (fun y4 => UInt8.ofNat (Int.toNat y4)) [((byteOn on j 8 : Nat) : Int)])) = bs [UInt8.ofNat (byteOn on j 8)] := rfl
    simp only [bursarref17_Map.t9, decide_eq_true (show ((8 * j + 1 : Nat) : Int) ≤ ((8 * m : Nat) : Int) by omega), cond_true, inner_rounds (show j < 16 by omega) hon, Option.bind_some, w1, w2, hb, bs_size, bs_append, List.length_map, List.length_range]
    rw [Nat.ble_eq_true_of_le (by simp; omega), List.range_succ, List.map_append]
    rfl
  have : bursarref17_Map.l9 (((8 * m : Nat) : Int), bs [], 1, on) = rounds bursarref17_Map.t9 (((8 * m : Nat) : Int), bs ((List.range 0).map fun j => UInt8.ofNat (byteOn on j 8)), ((8 * 0 + 1 : Nat) : Int), on) := rfl
  rw [this, st]
  refine rounds_end ?_
  simp only [bursarref17_Map.t9, decide_eq_false (show ¬ ((8 * m + 1 : Nat) : Int) ≤ ((8 * m : Nat) : Int) by omega), cond_false]
theorem byte_of_bits {v : Nat} (hv : v < 256) : v = (List.range 8).foldl (fun c k => 2 * c + (bif bitN v k then 1 else 0)) 0 := of_decide_eq_true (List.all_eq_true.1 bits_all v (List.mem_range.2 hv))
theorem foldl_same {A : Type} {f g : A → Nat → A} : ∀ (l : List Nat) (a : A), (∀ k ∈ l, ∀ a, f a k = g a k) → l.foldl f a = l.foldl g a
  | [], a, h => rfl
  | k :: l, a, h => by
    simp only [List.foldl_cons, h k List.mem_cons_self]
    exact foldl_same l _ fun k hk => h k (List.mem_cons_of_mem _ hk)
theorem refMap_is {l : List Int} (hl : l.length ≤ 1000) (h : mayL l = true) : bursarref17_Map.f l = some (bs (octs8 (mapL l))) := by
  have hin : ∀ n ∈ l, 0 ≤ n ∧ n ≤ 128 := fun n hn => by have := mayL_mem h hn; omega
  obtain ⟨g1, g2⟩ := onAll_is l (64, on0) (by simp [on0]) hin
  have hlen : (onAll l (64, on0)).2.length = 129 := by rw [onAll_len]; simp [on0]
  have e : bursarref17_Map.f l = (bursarref17_Map.l5 (l, 64, 0, on0)).bind (fun (x1 : Int × List Bool) => (bursarref17_Map.l9 (x1.1, bs [], 1, x1.2)).bind fun x2 => some x2) := rfl
  rw [e]
  simp only [on_rounds hl hin, Option.bind_some]
  have hm : (onAll l (64, on0)).1 = ((8 * (bif wide l then 16 else 8) : Nat) : Int) := by rw [g1]; cases wide l <;> rfl
  rw [hm, outer_rounds hlen (by cases wide l <;> simp), Option.bind_some]
  congr 2
  unfold octs8
  refine List.ext_getElem (by rw [List.length_map, List.length_range, List.length_map, mapL_len]) fun j h1 h2 => ?_
  have hj : j < (bif wide l then 16 else 8) := by simpa using h1
  have hj16 : j < 16 := by cases hw : wide l <;> rw [hw] at hj <;> simp at hj <;> omega
  have hjm : j < (mapL l).length := by simpa using h2
  simp only [List.getElem_map, List.getElem_range]
  congr 1
  have hv : (mapL l).getD j 0 < 256 := okB_getD (mapL_ok l) j
  rw [← getD_at hjm (d := 0), byte_of_bits hv]
  unfold byteOn
  refine foldl_same _ _ fun k hk c => ?_
  have hk := List.mem_range.1 hk
  have hb := mapL_bit h (n := 8 * j + 1 + k) (by omega) (by omega)
  unfold bitB at hb
  rw [show (8 * j + 1 + k - 1) / 8 = j by omega, show (8 * j + 1 + k - 1) % 8 = k by omega] at hb
  rw [hb, g2]
  have : on0.getD (8 * j + 1 + k) false = false := by
    rw [List.getD_eq_getElem?_getD]
    unfold on0
    rw [List.getElem?_replicate]
    split <;> rfl
  rw [this, Bool.or_false]
end Go.Proofs.YtkgnhjmbnmaboaaGreatDoor
end
section
/- The Go function bitmap.Read, as a Lean function, and that it is this one. Written by a program of this session. -/
set_option linter.unusedVariables false
set_option maxRecDepth 100000
namespace Go.Proofs.YtkgnhjmbnmaboaaGreatDoor
open Go Go.Fw
abbrev bitmap_Read.As : Shs := (.cons (.x .s) .nil)
abbrev bitmap_Read.m : Back := [(false, (.l (.i .i64))), (false, (.i .i64)), (false, (.i .i64))]
noncomputable abbrev bitmap_Read.H : HK := hk P G1 E0 J0 [bitmap_Map.row, bitmap_bit.row] noLoops 4
theorem bitmap_Read.rows : TabOK P G1 (tabF [bitmap_Map.row, bitmap_bit.row]) := rows_ok (ws := [bitmap_Map.row, bitmap_bit.row]) ⟨bitmap_Map.row_ok, ⟨(bitmap_bit.row_ok.more g01), trivial⟩⟩
theorem bitmap_Read.hok : HKOK P bitmap_Read.H := hk_ok e0_ok j0_ok bitmap_Read.rows (fun g n => noLoops_ok g n) 4
noncomputable abbrev bitmap_Read.shi0 : SSh := ⟨[(0, (.yd 2 [6] (.cons (.pt 0 0) .nil) [28] (rfA P 46 0) (rfB P 46 0))), (1, (.pt 1 0)), (3, (.x (.i .i64)))], [.box (.cons (.own 3 1) .nil), .box (.cons (.x .s) .nil), .lp false, .arrN (.i .i64)]⟩
noncomputable abbrev bitmap_Read.osi0 : PEnds := [((.exit 0), ⟨[], [.box (.cons (.own 3 1) .nil), .box (.cons (.x .s) .nil), .lp false, .arrN (.i .i64)]⟩)]
noncomputable def bitmap_Read.ti0 (s : (Int × (ByteArray × (List Int)))) : Option ((Int × (ByteArray × (List Int))) ⊕ ((ByteArray × (List Int)))) := (bif (decide ((s.1 ≤ (IntKind.wrap .i64 ((8 : Int) * (s.2.1.size : Int)))))) then (((bitmap_bit.f s.1)).bind fun (x4 : (Int × Int)) => (bif ((decide (((0 : Int) ≤ x4.1))) && (decide ((x4.1 < (s.2.1.size : Int))))) then (bif ((bitsOp Go.BinOp.and Go.IntKind.u8 (bt s.2.1 (Int.toNat x4.1)) x4.2) != (0 : Int)) then (bif (decide ((s.1 > (1 : Int)))) then (bif ((true && (Nat.ble (((List.length s.2.2) + (List.length (s.1 :: []))) * 8) 140737488355328)) && (Nat.ble ((List.length s.2.2) + (List.length (s.1 :: []))) 140737488355328)) then (some (.inl ((IntKind.wrap .i64 (s.1 + (1 : Int))), (s.2.1, (s.2.2 ++ (s.1 :: [])))))) else none) else (some (.inl ((IntKind.wrap .i64 (s.1 + (1 : Int))), s.2)))) else (some (.inl ((IntKind.wrap .i64 (s.1 + (1 : Int))), s.2)))) else none)) else (some (.inr s.2)))
theorem bitmap_Read.ti0_ok : ∀ s : Vals bitmap_Read.shi0.tys, turnK P bitmap_Read.H (lp []) (bodyAt (codeOf P 141) 2) 3 bitmap_Read.shi0 bitmap_Read.osi0 s some = bitmap_Read.ti0 s := by rintro ⟨s0, s1, s2⟩; cases s2 <;> kernel_rfl
noncomputable def bitmap_Read.li0 : (Int × (ByteArray × (List Int))) → Option ((ByteArray × (List Int))) := rounds bitmap_Read.ti0
noncomputable abbrev bitmap_Read.L1 : ILp := [(141, 3, [(2, (NodeT.summ ⟨bitmap_Read.shi0, bitmap_Read.osi0, bitmap_Read.li0⟩ 3))])]
theorem bitmap_Read.L1ok : ILpOK P G1 bitmap_Read.L1 := ⟨⟨(loop_sum bitmap_Read.hok (by kernel_rfl) (by kernel_rfl) (l := []) trivial bitmap_Read.shi0 bitmap_Read.osi0 (by kernel_rfl) bitmap_Read.ti0 bitmap_Read.ti0_ok), trivial⟩, trivial⟩
noncomputable abbrev bitmap_Read.H1 : HK := hk P G1 E0 J0 [bitmap_Map.row, bitmap_bit.row] (ilp bitmap_Read.L1) 4
theorem bitmap_Read.hok1 : HKOK P bitmap_Read.H1 := hk_ok e0_ok j0_ok bitmap_Read.rows (fun g n => ilp_ok bitmap_Read.L1ok g n) 4
noncomputable def bitmap_Read.f (a : ByteArray) : Option ((List Int) × (Int × Int)) := (bif (!((ByteArray.toList a) == [])) then (bif (true && (decide (((0 : Int) < (a.size : Int))))) then (bif ((bitsOp Go.BinOp.and Go.IntKind.u8 (bt a 0) (128 : Int)) != (0 : Int)) then (bif (decide (((a.size : Int) < (16 : Int)))) then (some ([], ((0 : Int), (3 : Int)))) else (bif (true && (decide (((16 : Int) ≤ (a.size : Int))))) then (((bitmap_Read.li0 ((1 : Int), ((ByteArray.extract a 0 16), [])))).bind fun (x1 : (ByteArray × (List Int))) => (match x1.2 with | [] => (((bitmap_Map.f [])).bind fun (x2 : (ByteArray × Int)) => (bif (x2.2 != (0 : Int)) then (some ([], ((0 : Int), (4 : Int)))) else (bif (true && (decide (((16 : Int) ≤ (a.size : Int))))) then (bif (!((ByteArray.toList x2.1) == (ByteArray.toList (ByteArray.extract a 0 16)))) then (some ([], ((0 : Int), (4 : Int)))) else (some ([], ((16 : Int), (0 : Int))))) else none))) | x2 :: x3 => (((bitmap_Map.f (x2 :: x3))).bind fun (x4 : (ByteArray × Int)) => (bif (x4.2 != (0 : Int)) then (some ([], ((0 : Int), (4 : Int)))) else (bif (true && (decide (((16 : Int) ≤ (a.size : Int))))) then (bif (!((ByteArray.toList x4.1) == (ByteArray.toList (ByteArray.extract a 0 16)))) then (some ([], ((0 : Int), (4 : Int)))) else (some ((x2 :: x3), ((16 : Int), (0 : Int))))) else none))))) else none)) else (bif (decide (((a.size : Int) < (8 : Int)))) then (some ([], ((0 : Int), (3 : Int)))) else (bif (true && (decide (((8 : Int) ≤ (a.size : Int))))) then (((bitmap_Read.li0 ((1 : Int), ((ByteArray.extract a 0 8), [])))).bind fun (x1 : (ByteArray × (List Int))) => (match x1.2 with | [] => (((bitmap_Map.f [])).bind fun (x2 : (ByteArray × Int)) => (bif (x2.2 != (0 : Int)) then (some ([], ((0 : Int), (4 : Int)))) else (bif (true && (decide (((8 : Int) ≤ (a.size : Int))))) then (bif (!((ByteArray.toList x2.1) == (ByteArray.toList (ByteArray.extract a 0 8)))) then (some ([], ((0 : Int), (4 : Int)))) else (some ([], ((8 : Int), (0 : Int))))) else none))) | x2 :: x3 => (((bitmap_Map.f (x2 :: x3))).bind fun (x4 : (ByteArray × Int)) => (bif (x4.2 != (0 : Int)) then (some ([], ((0 : Int), (4 : Int)))) else (bif (true && (decide (((8 : Int) ≤ (a.size : Int))))) then (bif (!((ByteArray.toList x4.1) == (ByteArray.toList (ByteArray.extract a 0 8)))) then (some ([], ((0 : Int), (4 : Int)))) else (some ((x2 :: x3), ((8 : Int), (0 : Int))))) else none))))) else none))) else none) else (bif (decide (((a.size : Int) < (8 : Int)))) then (some ([], ((0 : Int), (3 : Int)))) else (bif (true && (decide (((8 : Int) ≤ (a.size : Int))))) then (((bitmap_Read.li0 ((1 : Int), ((ByteArray.extract a 0 8), [])))).bind fun (x1 : (ByteArray × (List Int))) => (match x1.2 with | [] => (((bitmap_Map.f [])).bind fun (x2 : (ByteArray × Int)) => (bif (x2.2 != (0 : Int)) then (some ([], ((0 : Int), (4 : Int)))) else (bif (true && (decide (((8 : Int) ≤ (a.size : Int))))) then (bif (!((ByteArray.toList x2.1) == (ByteArray.toList (ByteArray.extract a 0 8)))) then (some ([], ((0 : Int), (4 : Int)))) else (some ([], ((8 : Int), (0 : Int))))) else none))) | x2 :: x3 => (((bitmap_Map.f (x2 :: x3))).bind fun (x4 : (ByteArray × Int)) => (bif (x4.2 != (0 : Int)) then (some ([], ((0 : Int), (4 : Int)))) else (bif (true && (decide (((8 : Int) ≤ (a.size : Int))))) then (bif (!((ByteArray.toList x4.1) == (ByteArray.toList (ByteArray.extract a 0 8)))) then (some ([], ((0 : Int), (4 : Int)))) else (some ((x2 :: x3), ((8 : Int), (0 : Int))))) else none))))) else none)))
theorem bitmap_Read.ok : ∀ a : Vals bitmap_Read.As.tys, fnK P bitmap_Read.H1 (lp []) 46 bitmap_Read.As bitmap_Read.m a some = bitmap_Read.f a := fun a => by kernel_rfl
noncomputable abbrev bitmap_Read.row : Row := fnRow 46 bitmap_Read.As bitmap_Read.m bitmap_Read.f
theorem bitmap_Read.row_ok : RowOK P G1 bitmap_Read.row := row_told bitmap_Read.hok1 (lp_of (l := []) trivial) (fun _ => rfl) bitmap_Read.ok
end Go.Proofs.YtkgnhjmbnmaboaaGreatDoor
end
section
/- The set whose map a text begins with, as the program reads it: plain laws. By this session. -/
set_option linter.unusedVariables false
set_option linter.unusedSimpArgs false
namespace Go.Proofs.YtkgnhjmbnmaboaaGreatDoor
open Go Go.Fw
def bitS (t : List UInt8) (n : Nat) : Bool := bitN (t.getD ((n - 1) / 8) 0).toNat ((n - 1) % 8)
/-- the bits that are 1, but the first one -/
def bitsL (t : List UInt8) (k : Nat) : List Int := (((List.range k).map (· + 1)).filter fun n => decide (1 < n) && bitS t n).map fun (n : Nat) => (n : Int)
theorem bitsL_up (t : List UInt8) (k : Nat) : bitsL t (k + 1) = bitsL t k ++ (bif decide (1 < k + 1) && bitS t (k + 1) then [((k + 1 : Nat) : Int)] else []) := by
  unfold bitsL
  rw [List.range_succ, List.map_append, List.filter_append, List.map_append]
  congr 1
  simp only [List.map_cons, List.map_nil, List.filter_cons, List.filter_nil]
  cases (decide (1 < k + 1) && bitS t (k + 1)) <;> rfl
theorem bitsL_len (t : List UInt8) (k : Nat) : (bitsL t k).length ≤ k := by
  unfold bitsL
  rw [List.length_map]
  refine Nat.le_trans (List.length_filter_le _ _) ?_
  simp
theorem and_is {v k : Nat} (hv : v < 256) (hk : k < 8) : (bitsOp .and .u8 (v : Int) (Int.fdiv 128 (2 ^ (min k 8))) != 0) = bitN v k :=
  eq_of_beq (List.all_eq_true.1 (List.all_eq_true.1 and_all v (List.mem_range.2 hv)) k (List.mem_range.2 hk))
theorem read_rounds {t : List UInt8} (ht : t.length ≤ 16) : bitmap_Read.li0 (1, bs t, []) = some (bs t, bitsL t (8 * t.length)) := by
  have st := rounds_to (t := bitmap_Read.ti0) (fun i => (((i + 1 : Nat) : Int), bs t, bitsL t i)) (8 * t.length) fun i hi => by
    have w : IntKind.wrap .i64 ((8 : Int) * (t.length : Int)) = ((8 * t.length : Nat) : Int) := by rw [wrap_i64 (by omega) (by omega)]; omega
    have hl := bitsL_len t i
    have hv := (t.getD (i / 8) 0).toNat_lt
    have ha := and_is (v := (t.getD (i / 8) 0).toNat) (k := i % 8) (by omega) (by omega)
    have hlt : i / 8 < t.length := by omega
    simp only [bitmap_Read.ti0, bs_size, w, decide_eq_true (show ((i + 1 : Nat) : Int) ≤ ((8 * t.length : Nat) : Int) by omega), cond_true, bit_is (show 1 ≤ i + 1 by omega) (show i + 1 ≤ 1000 by omega), Option.bind_some, Nat.add_sub_cancel, ge0 (i / 8), decide_eq_true (show ((i / 8 : Nat) : Int) < (t.length : Int) by omega), Bool.and_self, Int.toNat_natCast, bt_bs, ha, wrap_up (show i + 1 < 9223372036854775807 by omega), bitsL_up]
    have hbs : bitS t (i + 1) = bitN (t.getD (i / 8) 0).toNat (i % 8) := by unfold bitS; rw [Nat.add_sub_cancel]
    rw [hbs]
    cases hb : bitN (t.getD (i / 8) 0).toNat (i % 8)
    · simp only [cond_false, Bool.and_false, List.append_nil]
    · by_cases h1 : 1 < i + 1
      · rw [decide_eq_true (show ((i + 1 : Nat) : Int) > 1 by omega), decide_eq_true h1, Nat.ble_eq_true_of_le (by simp; omega), Nat.ble_eq_true_of_le (by simp; omega)]
        rfl
      · rw [decide_eq_false (show ¬ ((i + 1 : Nat) : Int) > 1 by omega), decide_eq_false h1]
        simp only [cond_true, cond_false, Bool.false_and, List.append_nil]
  have : bitmap_Read.li0 (1, bs t, []) = rounds bitmap_Read.ti0 (((0 + 1 : Nat) : Int), bs t, bitsL t 0) := rfl
  rw [this, st]
  refine rounds_end ?_
  have w : IntKind.wrap .i64 ((8 : Int) * (t.length : Int)) = ((8 * t.length : Nat) : Int) := by rw [wrap_i64 (by omega) (by omega)]; omega
  simp only [bitmap_Read.ti0, bs_size, w, decide_eq_false (show ¬ ((8 * t.length + 1 : Nat) : Int) ≤ ((8 * t.length : Nat) : Int) by omega), cond_false]
/-- what is read, of so many octets -/
noncomputable def readN (s : List UInt8) (size : Nat) : List Int × Int × Int := bif decide (s.length < size) then ([], 0, 3) else
  bif mayL (bitsL (s.take size) (8 * size)) && decide (octs8 (mapL (bitsL (s.take size) (8 * size))) = s.take size) then (bitsL (s.take size) (8 * size), size, 0) else ([], 0, 4)
def wideS (s : List UInt8) : Bool := decide (0 < s.length) && bitN (s.getD 0 0).toNat 0
noncomputable def readL (s : List UInt8) : List Int × Int × Int := readN s (bif wideS s then 16 else 8)
theorem list_split {A B : Type} (l : List A) (F : List A → B) : (match l with | [] => F [] | x :: y => F (x :: y)) = F l := by cases l <;> rfl
theorem read_is {s : List UInt8} (hs : s.length ≤ 5000) : bitmap_Read.f (bs s) = some (readL s) := by
  have part : ∀ size : Nat, size = 8 ∨ size = 16 → ¬ s.length < size → ((bitmap_Read.li0 (1, bs (s.take size), [])).bind fun (x1 : ByteArray × List Int) => (bitmap_Map.f x1.2).bind fun (x4 : ByteArray × Int) => bif x4.2 != 0 then some (([] : List Int), (0 : Int), (4 : Int)) else (bif !(ByteArray.toList x4.1 == ByteArray.toList (bs (s.take size))) then some ([], 0, 4) else some (x1.2, (size : Int), 0))) = some (readN s size) := fun size h8 hlt => by
    have hl : (s.take size).length = size := by rw [List.length_take]; omega
    have rr := read_rounds (t := s.take size) (by omega)
    rw [hl] at rr
    have hbl := bitsL_len (s.take size) (8 * size)
    rw [rr, Option.bind_some]
    simp only [map_is (l := bitsL (s.take size) (8 * size)) (by omega), Option.bind_some, texts_eq]
    unfold readN
    rw [decide_eq_false hlt, cond_false]
    cases hm : mayL (bitsL (s.take size) (8 * size))
    · rfl
    · simp only [cond_true, Bool.true_and, show ((0 : Int) != 0) = false from rfl, cond_false]
      by_cases he : octs8 (mapL (bitsL (s.take size) (8 * size))) = s.take size
      · rw [decide_eq_true (bs_inj.2 he), decide_eq_true he]; rfl
      · rw [decide_eq_false (fun h => he (bs_inj.1 h)), decide_eq_false he]; rfl
  have cut : ∀ size : Nat, ByteArray.extract (bs s) 0 size = bs (s.take size) := fun size => by rw [bs_extract, List.drop_zero]
  have p8 := part 8 (.inl rfl)
  have p16 := part 16 (.inr rfl)
  have short : ∀ size : Nat, s.length < size → readN s size = ([], 0, 3) := fun size h => by unfold readN; rw [decide_eq_true h]; rfl
  have hwide : 0 < s.length → (bitsOp .and .u8 (((s.getD 0 0).toNat : Nat) : Int) 128 != 0) = wideS s := fun h0 => by
    have hv := (s.getD 0 0).toNat_lt
    have := and_is (v := (s.getD 0 0).toNat) (k := 0) (by omega) (by omega)
    unfold wideS
    rw [decide_eq_true h0, Bool.true_and]
    exact this
  simp only [texts_eq] at p8 p16
  unfold bitmap_Read.f readL
  simp only [bs_size, texts_eq, texts_nil, cut, bt_bs, Bool.true_and]
  have f8 : (bif decide ((s.length : Int) < 8) then some (([] : List Int), (0 : Int), (3 : Int)) else (bif decide ((8 : Int) ≤ (s.length : Int)) then ((bitmap_Read.li0 (1, bs (s.take 8), [])).bind fun (x1 : ByteArray × List Int) => match x1.2 with
      | [] => (bitmap_Map.f []).bind fun (x2 : ByteArray × Int) => bif x2.2 != 0 then some (([] : List Int), (0 : Int), (4 : Int)) else (bif decide ((8 : Int) ≤ (s.length : Int)) then (bif !decide (x2.1 = bs (s.take 8)) then some ([], 0, 4) else some ([], 8, 0)) else none)
      | x2 :: x3 => (bitmap_Map.f (x2 :: x3)).bind fun (x4 : ByteArray × Int) => bif x4.2 != 0 then some ([], 0, 4) else (bif decide ((8 : Int) ≤ (s.length : Int)) then (bif !decide (x4.1 = bs (s.take 8)) then some ([], 0, 4) else some (x2 :: x3, 8, 0)) else none)) else none)) = some (readN s 8) := by
    by_cases hlt : s.length < 8
    · rw [decide_eq_true (show (s.length : Int) < 8 by omega), short 8 hlt]; rfl
    · rw [decide_eq_false (show ¬ (s.length : Int) < 8 by omega)]
      simp only [decide_eq_true (show (8 : Int) ≤ (s.length : Int) by omega), cond_false, cond_true]
      refine (congrArg (Option.bind _) (funext fun x1 => ?_)).trans (p8 hlt)
      obtain ⟨x, l⟩ := x1
      cases l <;> rfl
  have f16 : (bif decide ((s.length : Int) < 16) then some (([] : List Int), (0 : Int), (3 : Int)) else (bif decide ((16 : Int) ≤ (s.length : Int)) then ((bitmap_Read.li0 (1, bs (s.take 16), [])).bind fun (x1 : ByteArray × List Int) => match x1.2 with
      | [] => (bitmap_Map.f []).bind fun (x2 : ByteArray × Int) => bif x2.2 != 0 then some (([] : List Int), (0 : Int), (4 : Int)) else (bif decide ((16 : Int) ≤ (s.length : Int)) then (bif !decide (x2.1 = bs (s.take 16)) then some ([], 0, 4) else some ([], 16, 0)) else none)
      | x2 :: x3 => (bitmap_Map.f (x2 :: x3)).bind fun (x4 : ByteArray × Int) => bif x4.2 != 0 then some ([], 0, 4) else (bif decide ((16 : Int) ≤ (s.length : Int)) then (bif !decide (x4.1 = bs (s.take 16)) then some ([], 0, 4) else some (x2 :: x3, 16, 0)) else none)) else none)) = some (readN s 16) := by
    by_cases hlt : s.length < 16
    · rw [decide_eq_true (show (s.length : Int) < 16 by omega), short 16 hlt]; rfl
    · rw [decide_eq_false (show ¬ (s.length : Int) < 16 by omega)]
      simp only [decide_eq_true (show (16 : Int) ≤ (s.length : Int) by omega), cond_false, cond_true]
      refine (congrArg (Option.bind _) (funext fun x1 => ?_)).trans (p16 hlt)
      obtain ⟨x, l⟩ := x1
      cases l <;> rfl
  by_cases h0 : 0 < s.length
  · have hne : ¬ bs s = bs [] := fun h => by have := bs_inj.1 h; subst this; simp at h0
    rw [decide_eq_false hne]
    simp only [Bool.not_false, cond_true, decide_eq_true (show (0 : Int) < (s.length : Int) by omega), hwide h0]
    cases wideS s
    · exact f8
    · exact f16
  · have : s = [] := List.eq_nil_of_length_eq_zero (by omega)
    subst this
    rw [decide_eq_true rfl]
    exact f8
end Go.Proofs.YtkgnhjmbnmaboaaGreatDoor
end
section
/- A set's map is read as it was: plain laws. By this session. -/
set_option linter.unusedVariables false
set_option linter.unusedSimpArgs false
namespace Go.Proofs.YtkgnhjmbnmaboaaGreatDoor
open Go Go.Fw
/-- a rising list is what it has, in order -/
theorem rise_filter : ∀ (k : Nat) (l : List Nat), l.Pairwise (· < ·) → (∀ n ∈ l, n < k) → (List.range k).filter (fun n => decide (n ∈ l)) = l
  | 0, l, hp, h => by
    cases l with
    | nil => rfl
    | cons a l => exact absurd (h a List.mem_cons_self) (by omega)
  | k + 1, l, hp, h => by
    rw [List.range_succ, List.filter_append]
    by_cases hk : k ∈ l
    · obtain ⟨l1, l2, rfl⟩ := List.append_of_mem hk
      have hp' := List.pairwise_append.1 hp
      have h2 : l2 = [] := by
        cases l2 with
        | nil => rfl
        | cons b l2 =>
          have h1 := (List.pairwise_cons.1 hp'.2.1).1 b List.mem_cons_self
          have h2 := h b (by simp)
          omega
      subst h2
      have hlt : ∀ n ∈ l1, n < k := fun n hn => hp'.2.2 n hn k List.mem_cons_self
      have ih := rise_filter k l1 hp'.1 hlt
      have e : (List.range k).filter (fun n => decide (n ∈ l1 ++ [k])) = (List.range k).filter (fun n => decide (n ∈ l1)) := by
        refine List.filter_congr fun n hn => ?_
        have := List.mem_range.1 hn
        rw [decide_eq_decide]
        simp only [List.mem_append, List.mem_singleton]
        constructor
        · rintro (h | h)
          · exact h
          · omega
        · exact .inl
      rw [e, ih]
      congr 1
      simp
    · have ih := rise_filter k l hp fun n hn => by
        have := h n hn
        have : n ≠ k := fun e => hk (e ▸ hn)
        omega
      rw [ih]
      simp [hk]
theorem mayL_pair {l : List Int} (h : mayL l = true) : (l.map Int.toNat).Pairwise (· < ·) := by
  rw [List.pairwise_iff_getElem]
  intro i j hi hj hij
  have hi' : i < l.length := by simpa using hi
  have hj' : j < l.length := by simpa using hj
  have hr := mayL_rise h hij hj'
  rw [getD_at hi', getD_at hj'] at hr
  have := mayL_mem h (List.getElem_mem hi')
  simp only [List.getElem_map]
  omega
theorem toNat_back {l : List Int} (h : ∀ n ∈ l, 0 ≤ n) : (l.map Int.toNat).map (fun (n : Nat) => (n : Int)) = l := by
  rw [List.map_map]
  conv => rhs; rw [← List.map_id l]
  refine List.map_congr_left fun n hn => ?_
  have := h n hn
  simp only [Function.comp, id]
  omega
theorem octs_getD (b : List Nat) (h : okB b) (j : Nat) : ((octs8 b).getD j 0).toNat = b.getD j 0 := by
  have hv := okB_getD h j
  have : (octs8 b).getD j 0 = UInt8.ofNat (b.getD j 0) := by
    unfold octs8
    simp only [List.getD_eq_getElem?_getD, List.getElem?_map]
    cases b[j]? <;> rfl
  rw [this, UInt8.toNat_ofNat']
  omega
theorem bitS_octs (b : List Nat) (h : okB b) (n : Nat) : bitS (octs8 b) n = bitB b n := by
  unfold bitS bitB
  rw [octs_getD b h]
/-- what is read of a set's map is the set -/
theorem bitsL_map {l : List Int} (h : mayL l = true) : bitsL (octs8 (mapL l)) (8 * (mapL l).length) = l := by
  have hk : ∀ n ∈ l, 2 ≤ n ∧ n ≤ 8 * ((mapL l).length : Int) := fun n hn => by
    have h1 := mayL_mem h hn
    have h2 := start_in h n hn
    rw [mapL_len]
    rw [start_len] at h2
    omega
  have h128 : 8 * (mapL l).length ≤ 128 := by rw [mapL_len]; cases wide l <;> simp
  unfold bitsL
  have e : ((List.range (8 * (mapL l).length)).map (· + 1)).filter (fun n => decide (1 < n) && bitS (octs8 (mapL l)) n) = l.map Int.toNat := by
    have r := rise_filter (8 * (mapL l).length + 1) (l.map Int.toNat) (mayL_pair h) fun n hn => by
      obtain ⟨x, hx, rfl⟩ := List.mem_map.1 hn
      have := hk x hx
      omega
    rw [List.range_succ_eq_map, List.filter_cons, if_neg (by
      simp only [decide_eq_true_eq, List.mem_map, not_exists, not_and]
      intro x hx e
      have := hk x hx
      omega)] at r
    rw [← r]
    refine List.filter_congr fun n hn => ?_
    obtain ⟨m, hm, rfl⟩ := List.mem_map.1 hn
    have hm := List.mem_range.1 hm
    rw [bitS_octs _ (mapL_ok l), mapL_bit h (by omega) (by omega), Bool.eq_iff_iff]
    simp only [Bool.and_eq_true, Bool.or_eq_true, decide_eq_true_eq, List.mem_map]
    constructor
    · rintro ⟨h1, h2 | ⟨_, h2⟩⟩
      · exact ⟨_, h2, by simp⟩
      · omega
    · rintro ⟨x, hx, e⟩
      have := hk x hx
      have hx' : x = ((m + 1 : Nat) : Int) := by
        have : x.toNat = m + 1 := e
        omega
      subst hx'
      exact ⟨by omega, .inl hx⟩
  rw [e, toNat_back fun n hn => by have := hk n hn; omega]
theorem octs_len (b : List Nat) : (octs8 b).length = b.length := List.length_map ..
theorem octs_inj {l m : List Int} (hl : mayL l = true) (hm : mayL m = true) : octs8 (mapL l) = octs8 (mapL m) ↔ l = m := by
  constructor
  · intro h
    have h1 := bitsL_map hl
    have h2 := bitsL_map hm
    have e : (mapL l).length = (mapL m).length := by rw [← octs_len, ← octs_len, h]
    rw [← h1, ← h2, h, e]
  · intro h; rw [h]
theorem wideS_map {l : List Int} (h : mayL l = true) (b : List UInt8) : wideS (octs8 (mapL l) ++ b) = wide l := by
  have hpos : 0 < (octs8 (mapL l)).length := by rw [octs_len, mapL_len]; cases wide l <;> simp
  have hb := mapL_bit h (n := 1) (by omega) (by omega)
  have h1 : decide (((1 : Nat) : Int) ∈ l) = false := decide_eq_false fun hn => by have := mayL_mem h hn; omega
  rw [h1, Bool.false_or, decide_eq_true rfl, Bool.and_true] at hb
  unfold wideS
  rw [decide_eq_true (by rw [List.length_append]; omega), Bool.true_and]
  have : (octs8 (mapL l) ++ b).getD 0 0 = (octs8 (mapL l)).getD 0 0 := by
    rw [List.getD_eq_getElem?_getD, List.getElem?_append_left hpos, ← List.getD_eq_getElem?_getD]
  rw [this, octs_getD _ (mapL_ok l), ← hb]
  rfl
theorem read_map {l : List Int} (h : mayL l = true) (b : List UInt8) : readL (octs8 (mapL l) ++ b) = (l, ((octs8 (mapL l)).length : Int), 0) := by
  have hl : (octs8 (mapL l)).length = bif wide l then 16 else 8 := by rw [octs_len, mapL_len]
  have hl2 : (mapL l).length = bif wide l then 16 else 8 := mapL_len l
  unfold readL
  rw [wideS_map h b, ← hl]
  unfold readN
  rw [decide_eq_false (by rw [List.length_append]; omega), cond_false, List.take_left, octs_len, bitsL_map h, h, decide_eq_true rfl]
  rfl
theorem aw1 : mayL [2, 4] = true ∧ octs8 (mapL [2, 4]) = [80, 0, 0, 0, 0, 0, 0, 0] := ⟨by kernel_rfl, by kernel_rfl⟩
theorem aw2 : mayL [2, 70] = true ∧ octs8 (mapL [2, 70]) = [192, 0, 0, 0, 0, 0, 0, 0, 4, 0, 0, 0, 0, 0, 0, 0] := ⟨by kernel_rfl, by kernel_rfl⟩
theorem aw3 : (readL [255, 255, 255, 255, 255, 255, 255, 255, 255, 255, 255, 255, 255, 255, 255, 255]).2.2 = 4 := by kernel_rfl
end Go.Proofs.YtkgnhjmbnmaboaaGreatDoor
end
section
/- Maps of sets: no two sets have the same, none is the beginning of another; each is the document's, and is read as it was. By this session. -/
set_option linter.unusedVariables false
set_option linter.unusedSimpArgs false
namespace Go.Proofs.YtkgnhjmbnmaboaaGreatDoor
open Go Go.Fw
theorem octs_size {l : List Int} : (octs8 (mapL l)).length = bif wide l then 16 else 8 := by rw [octs_len, mapL_len]
/-- no map is the beginning of another one -/
theorem map_apart {l m : List Int} (hl : mayL l = true) (hm : mayL m = true) (hne : l ≠ m) : (octs8 (mapL m)).take (octs8 (mapL l)).length ≠ octs8 (mapL l) := by
  intro h
  have hb := congrArg wideS h
  have w1 := wideS_map hl []
  have w2 := wideS_map hm []
  rw [List.append_nil] at w1 w2
  have e : wideS ((octs8 (mapL m)).take (octs8 (mapL l)).length) = wideS (octs8 (mapL m)) := by
    have p1 : 0 < (octs8 (mapL l)).length := by rw [octs_size]; cases wide l <;> simp
    have p2 : 0 < (octs8 (mapL m)).length := by rw [octs_size]; cases wide m <;> simp
    unfold wideS
    rw [List.length_take, decide_eq_true (by omega), decide_eq_true p2, List.getD_eq_getElem?_getD, List.getElem?_take, if_pos p1, ← List.getD_eq_getElem?_getD]
  rw [e, w1, w2] at hb
  have hlen : (octs8 (mapL l)).length = (octs8 (mapL m)).length := by rw [octs_size, octs_size, hb]
  rw [hlen, List.take_of_length_le (Nat.le_refl _)] at h
  exact hne ((octs_inj hl hm).1 h.symm)
end Go.Proofs.YtkgnhjmbnmaboaaGreatDoor
end
section
/- The Go function mti.May, as a Lean function, and that it is this one. Written by a program of this session. -/
set_option linter.unusedVariables false
set_option maxRecDepth 100000
namespace Go.Proofs.YtkgnhjmbnmaboaaGreatDoor
open Go Go.Fw
abbrev mti_May.As : Shs := (.cons (.x T_api_Mti) .nil)
abbrev mti_May.m : Back := [(false, .b)]
noncomputable abbrev mti_May.H : HK := hk P G0 E0 J0 [] noLoops 4
theorem mti_May.rows : TabOK P G0 (tabF []) := rows_ok (ws := []) trivial
theorem mti_May.hok : HKOK P mti_May.H := hk_ok e0_ok j0_ok mti_May.rows (fun g n => noLoops_ok g n) 4
noncomputable def mti_May.f (a : (Int × (Bool × (Bool × Bool)))) : Option Bool := (bif (a.1 == (1 : Int)) then (bif (a.1 == (1 : Int)) then (bif (!a.2.2.1) then (some true) else (some (!a.2.2.2))) else (bif (a.1 == (6 : Int)) then (bif (a.1 == (6 : Int)) then (bif a.2.1 then (some false) else (bif (!a.2.2.1) then (some true) else (some (!a.2.2.2)))) else (some false)) else (bif (a.1 == (8 : Int)) then (bif a.2.1 then (some false) else (bif (!a.2.2.1) then (some true) else (some (!a.2.2.2)))) else (some false)))) else (bif (a.1 == (2 : Int)) then (bif (a.1 == (2 : Int)) then (bif (!a.2.2.1) then (some true) else (some (!a.2.2.2))) else (bif (a.1 == (6 : Int)) then (bif (a.1 == (6 : Int)) then (bif a.2.1 then (some false) else (bif (!a.2.2.1) then (some true) else (some (!a.2.2.2)))) else (some false)) else (bif (a.1 == (8 : Int)) then (bif a.2.1 then (some false) else (bif (!a.2.2.1) then (some true) else (some (!a.2.2.2)))) else (some false)))) else (bif (a.1 == (4 : Int)) then (bif (a.1 == (4 : Int)) then (bif (!a.2.2.1) then (some true) else (some (!a.2.2.2))) else (bif (a.1 == (6 : Int)) then (bif (a.1 == (6 : Int)) then (bif a.2.1 then (some false) else (bif (!a.2.2.1) then (some true) else (some (!a.2.2.2)))) else (some false)) else (bif (a.1 == (8 : Int)) then (bif a.2.1 then (some false) else (bif (!a.2.2.1) then (some true) else (some (!a.2.2.2)))) else (some false)))) else (bif (a.1 == (5 : Int)) then (bif (!a.2.2.1) then (some true) else (some (!a.2.2.2))) else (bif (a.1 == (6 : Int)) then (bif (a.1 == (6 : Int)) then (bif a.2.1 then (some false) else (bif (!a.2.2.1) then (some true) else (some (!a.2.2.2)))) else (some false)) else (bif (a.1 == (8 : Int)) then (bif a.2.1 then (some false) else (bif (!a.2.2.1) then (some true) else (some (!a.2.2.2)))) else (some false)))))))
theorem mti_May.ok : ∀ a : Vals mti_May.As.tys, fnK P mti_May.H (lp []) 92 mti_May.As mti_May.m a some = mti_May.f a := fun a => by kernel_rfl
noncomputable abbrev mti_May.row : Row := fnRow 92 mti_May.As mti_May.m mti_May.f
theorem mti_May.row_ok : RowOK P G0 mti_May.row := row_told mti_May.hok (lp_of (l := []) trivial) (fun _ => rfl) mti_May.ok
end Go.Proofs.YtkgnhjmbnmaboaaGreatDoor
end
section
/- The Go function mti.bits, as a Lean function, and that it is this one. Written by a program of this session. -/
set_option linter.unusedVariables false
set_option maxRecDepth 100000
namespace Go.Proofs.YtkgnhjmbnmaboaaGreatDoor
open Go Go.Fw
abbrev mti_bits.As : Shs := (.cons (.x (.l .b)) .nil)
abbrev mti_bits.m : Back := [(false, (.i .i64))]
noncomputable abbrev mti_bits.H : HK := hk P G0 E0 J0 [] noLoops 4
theorem mti_bits.rows : TabOK P G0 (tabF []) := rows_ok (ws := []) trivial
theorem mti_bits.hok : HKOK P mti_bits.H := hk_ok e0_ok j0_ok mti_bits.rows (fun g n => noLoops_ok g n) 4
noncomputable abbrev mti_bits.sh4 : SSh := ⟨[(3, (.x (.i .i64))), (6, (.x (.l .b))), (7, (.x (.i .i64))), (8, (.x (.i .i64)))], []⟩
noncomputable abbrev mti_bits.os4 : PEnds := [((.exit 0), ⟨[(3, (.x (.i .i64)))], []⟩)]
noncomputable def mti_bits.t4 (s : (Int × ((List Bool) × (Int × Int)))) : Option ((Int × ((List Bool) × (Int × Int))) ⊕ (Int)) := (bif (decide ((s.2.2.2 < s.2.2.1))) then (bif ((decide (((0 : Int) ≤ s.2.2.2))) && (decide ((s.2.2.2 < ((List.length s.2.1) : Int))))) then (bif (List.getD s.2.1 (Int.toNat s.2.2.2) false) then (bif (decide ((s.2.2.2 < (0 : Int)))) then none else (some (.inl ((bitsOp Go.BinOp.or Go.IntKind.i64 s.1 (IntKind.wrap .i64 ((1 : Int) * ((2 : Int) ^ (Min.min (Int.toNat s.2.2.2) 64))))), (s.2.1, (s.2.2.1, (IntKind.wrap .i64 (s.2.2.2 + (1 : Int))))))))) else (some (.inl (s.1, (s.2.1, (s.2.2.1, (IntKind.wrap .i64 (s.2.2.2 + (1 : Int))))))))) else none) else (some (.inr s.1)))
theorem mti_bits.t4_ok : ∀ s : Vals mti_bits.sh4.tys, turnK P mti_bits.H (lp []) (bodyAt (codeOf P 140) 4) 0 mti_bits.sh4 mti_bits.os4 s some = mti_bits.t4 s := fun s => by kernel_rfl
noncomputable def mti_bits.l4 : (Int × ((List Bool) × (Int × Int))) → Option (Int) := rounds mti_bits.t4
noncomputable def mti_bits.f (a : (List Bool)) : Option Int := (((mti_bits.l4 ((0 : Int), (a, (((List.length a) : Int), (0 : Int)))))).bind fun (x1 : Int) => (some x1))
theorem mti_bits.ok : ∀ a : Vals mti_bits.As.tys, fnK P mti_bits.H (lp [(4, (NodeT.summ ⟨mti_bits.sh4, mti_bits.os4, mti_bits.l4⟩ 0))]) 140 mti_bits.As mti_bits.m a some = mti_bits.f a := fun a => by kernel_rfl
noncomputable abbrev mti_bits.row : Row := fnRow 140 mti_bits.As mti_bits.m mti_bits.f
theorem mti_bits.row_ok : RowOK P G0 mti_bits.row := row_told mti_bits.hok (lp_of (l := [(4, (NodeT.summ ⟨mti_bits.sh4, mti_bits.os4, mti_bits.l4⟩ 0))]) ⟨(loop_sum mti_bits.hok (by kernel_rfl) (by kernel_rfl) (l := []) trivial mti_bits.sh4 mti_bits.os4 (by kernel_rfl) mti_bits.t4 mti_bits.t4_ok), trivial⟩) (fun _ => rfl) mti_bits.ok
end Go.Proofs.YtkgnhjmbnmaboaaGreatDoor
end
section
/- The Go function mti.text, as a Lean function, and that it is this one. Written by a program of this session. -/
set_option linter.unusedVariables false
set_option maxRecDepth 100000
namespace Go.Proofs.YtkgnhjmbnmaboaaGreatDoor
open Go Go.Fw
abbrev mti_text.As : Shs := (.cons (.x T_api_Mti) .nil)
abbrev mti_text.m : Back := [(false, .s)]
noncomputable abbrev mti_text.H : HK := hk P G0 E0 J0 [mti_bits.row] noLoops 4
theorem mti_text.rows : TabOK P G0 (tabF [mti_bits.row]) := rows_ok (ws := [mti_bits.row]) ⟨mti_bits.row_ok, trivial⟩
theorem mti_text.hok : HKOK P mti_text.H := hk_ok e0_ok j0_ok mti_text.rows (fun g n => noLoops_ok g n) 4
noncomputable def mti_text.f (a : (Int × (Bool × (Bool × Bool)))) : Option ByteArray := (((mti_bits.f (a.2.2.1 :: (a.2.1 :: [])))).bind fun (x1 : Int) => (((mti_bits.f (a.2.2.2 :: []))).bind fun (x2 : Int) => (some (ByteArray.mk (List.toArray (List.map (fun y3 => (UInt8.ofNat (Int.toNat y3))) ((48 : Int) :: ((IntKind.wrap .u8 (IntKind.wrap .i64 ((48 : Int) + a.1))) :: ((IntKind.wrap .u8 (IntKind.wrap .i64 ((48 : Int) + x1))) :: ((IntKind.wrap .u8 (IntKind.wrap .i64 ((48 : Int) + x2))) :: []))))))))))
theorem mti_text.ok : ∀ a : Vals mti_text.As.tys, fnK P mti_text.H (lp []) 93 mti_text.As mti_text.m a some = mti_text.f a := fun a => by kernel_rfl
noncomputable abbrev mti_text.row : Row := fnRow 93 mti_text.As mti_text.m mti_text.f
theorem mti_text.row_ok : RowOK P G0 mti_text.row := row_told mti_text.hok (lp_of (l := []) trivial) (fun _ => rfl) mti_text.ok
end Go.Proofs.YtkgnhjmbnmaboaaGreatDoor
end
section
/- The Go function mti.Text, as a Lean function, and that it is this one. Written by a program of this session. -/
set_option linter.unusedVariables false
set_option maxRecDepth 100000
namespace Go.Proofs.YtkgnhjmbnmaboaaGreatDoor
open Go Go.Fw
abbrev mti_Text.As : Shs := (.cons (.x T_api_Mti) .nil)
abbrev mti_Text.m : Back := [(false, .s), (false, (.i .i64))]
noncomputable abbrev mti_Text.H : HK := hk P G0 E0 J0 [mti_May.row, mti_text.row] noLoops 4
theorem mti_Text.rows : TabOK P G0 (tabF [mti_May.row, mti_text.row]) := rows_ok (ws := [mti_May.row, mti_text.row]) ⟨mti_May.row_ok, ⟨mti_text.row_ok, trivial⟩⟩
theorem mti_Text.hok : HKOK P mti_Text.H := hk_ok e0_ok j0_ok mti_Text.rows (fun g n => noLoops_ok g n) 4
noncomputable def mti_Text.f (a : (Int × (Bool × (Bool × Bool)))) : Option (ByteArray × Int) := (((mti_May.f a)).bind fun (x1 : Bool) => (bif (!x1) then (some ((bs []), (1 : Int))) else (((mti_text.f a)).bind fun (x2 : ByteArray) => (some (x2, (0 : Int))))))
theorem mti_Text.ok : ∀ a : Vals mti_Text.As.tys, fnK P mti_Text.H (lp []) 56 mti_Text.As mti_Text.m a some = mti_Text.f a := fun a => by kernel_rfl
noncomputable abbrev mti_Text.row : Row := fnRow 56 mti_Text.As mti_Text.m mti_Text.f
theorem mti_Text.row_ok : RowOK P G0 mti_Text.row := row_told mti_Text.hok (lp_of (l := []) trivial) (fun _ => rfl) mti_Text.ok
end Go.Proofs.YtkgnhjmbnmaboaaGreatDoor
end
section
/- The Go function mti.Parse, as a Lean function, and that it is this one. Written by a program of this session. -/
set_option linter.unusedVariables false
set_option maxRecDepth 100000
namespace Go.Proofs.YtkgnhjmbnmaboaaGreatDoor
open Go Go.Fw
abbrev mti_Parse.As : Shs := (.cons (.x .s) .nil)
abbrev mti_Parse.m : Back := [(false, T_api_Mti), (false, (.i .i64))]
noncomputable abbrev mti_Parse.H : HK := hk P G0 E0 J0 [mti_May.row, mti_text.row] noLoops 4
theorem mti_Parse.rows : TabOK P G0 (tabF [mti_May.row, mti_text.row]) := rows_ok (ws := [mti_May.row, mti_text.row]) ⟨mti_May.row_ok, ⟨mti_text.row_ok, trivial⟩⟩
theorem mti_Parse.hok : HKOK P mti_Parse.H := hk_ok e0_ok j0_ok mti_Parse.rows (fun g n => noLoops_ok g n) 4
noncomputable def mti_Parse.f (a : ByteArray) : Option ((Int × (Bool × (Bool × Bool))) × Int) := (bif ((a.size : Int) != (4 : Int)) then (some (((0 : Int), (false, (false, false))), (17 : Int))) else (bif (true && (decide (((2 : Int) < (a.size : Int))))) then (bif (true && (decide (((1 : Int) < (a.size : Int))))) then (bif (true && (decide (((3 : Int) < (a.size : Int))))) then (((mti_May.f ((IntKind.wrap .i64 (IntKind.wrap .u8 ((bt a 1) - (48 : Int)))), (((bitsOp Go.BinOp.and Go.IntKind.u8 (IntKind.wrap .u8 ((bt a 2) - (48 : Int))) (2 : Int)) != (0 : Int)), (((bitsOp Go.BinOp.and Go.IntKind.u8 (IntKind.wrap .u8 ((bt a 2) - (48 : Int))) (1 : Int)) != (0 : Int)), ((bt a 3) == (49 : Int))))))).bind fun (x1 : Bool) => (bif (!x1) then (some (((0 : Int), (false, (false, false))), (17 : Int))) else (((mti_text.f ((IntKind.wrap .i64 (IntKind.wrap .u8 ((bt a 1) - (48 : Int)))), (((bitsOp Go.BinOp.and Go.IntKind.u8 (IntKind.wrap .u8 ((bt a 2) - (48 : Int))) (2 : Int)) != (0 : Int)), (((bitsOp Go.BinOp.and Go.IntKind.u8 (IntKind.wrap .u8 ((bt a 2) - (48 : Int))) (1 : Int)) != (0 : Int)), ((bt a 3) == (49 : Int))))))).bind fun (x2 : ByteArray) => (bif (!((ByteArray.toList x2) == (ByteArray.toList a))) then (some (((0 : Int), (false, (false, false))), (17 : Int))) else (some (((IntKind.wrap .i64 (IntKind.wrap .u8 ((bt a 1) - (48 : Int)))), (((bitsOp Go.BinOp.and Go.IntKind.u8 (IntKind.wrap .u8 ((bt a 2) - (48 : Int))) (2 : Int)) != (0 : Int)), (((bitsOp Go.BinOp.and Go.IntKind.u8 (IntKind.wrap .u8 ((bt a 2) - (48 : Int))) (1 : Int)) != (0 : Int)), ((bt a 3) == (49 : Int))))), (0 : Int))))))) else none) else none) else none))
theorem mti_Parse.ok : ∀ a : Vals mti_Parse.As.tys, fnK P mti_Parse.H (lp []) 45 mti_Parse.As mti_Parse.m a some = mti_Parse.f a := fun a => by kernel_rfl
noncomputable abbrev mti_Parse.row : Row := fnRow 45 mti_Parse.As mti_Parse.m mti_Parse.f
theorem mti_Parse.row_ok : RowOK P G0 mti_Parse.row := row_told mti_Parse.hok (lp_of (l := []) trivial) (fun _ => rfl) mti_Parse.ok
end Go.Proofs.YtkgnhjmbnmaboaaGreatDoor
end
section
/- The Go function bursarref18.All, as a Lean function, and that it is this one. Written by a program of this session. -/
set_option linter.unusedVariables false
set_option maxRecDepth 100000
namespace Go.Proofs.YtkgnhjmbnmaboaaGreatDoor
open Go Go.Fw
abbrev bursarref18_All.As : Shs := .nil
abbrev bursarref18_All.m : Back := [(false, (.l .s))]
noncomputable abbrev bursarref18_All.H : HK := hk P G0 E0 J0 [] noLoops 4
theorem bursarref18_All.rows : TabOK P G0 (tabF []) := rows_ok (ws := []) trivial
theorem bursarref18_All.hok : HKOK P bursarref18_All.H := hk_ok e0_ok j0_ok bursarref18_All.rows (fun g n => noLoops_ok g n) 4
noncomputable def bursarref18_All.f (a : Unit) : Option (List ByteArray) := (some [(bs [48, 49, 48, 48]), (bs [48, 49, 48, 49]), (bs [48, 49, 49, 48]), (bs [48, 49, 50, 48]), (bs [48, 49, 50, 49]), (bs [48, 49, 51, 48]), (bs [48, 50, 48, 48]), (bs [48, 50, 48, 49]), (bs [48, 50, 49, 48]), (bs [48, 50, 50, 48]), (bs [48, 50, 50, 49]), (bs [48, 50, 51, 48]), (bs [48, 52, 48, 48]), (bs [48, 52, 48, 49]), (bs [48, 52, 49, 48]), (bs [48, 52, 50, 48]), (bs [48, 52, 50, 49]), (bs [48, 52, 51, 48]), (bs [48, 53, 48, 48]), (bs [48, 53, 48, 49]), (bs [48, 53, 49, 48]), (bs [48, 53, 50, 48]), (bs [48, 53, 50, 49]), (bs [48, 53, 51, 48]), (bs [48, 54, 48, 48]), (bs [48, 54, 48, 49]), (bs [48, 54, 49, 48]), (bs [48, 56, 48, 48]), (bs [48, 56, 48, 49]), (bs [48, 56, 49, 48])])
theorem bursarref18_All.ok : ∀ a : Vals bursarref18_All.As.tys, fnK P bursarref18_All.H (lp []) 88 bursarref18_All.As bursarref18_All.m a some = bursarref18_All.f a := fun a => by kernel_rfl
noncomputable abbrev bursarref18_All.row : Row := fnRow 88 bursarref18_All.As bursarref18_All.m bursarref18_All.f
theorem bursarref18_All.row_ok : RowOK P G0 bursarref18_All.row := row_told bursarref18_All.hok (lp_of (l := []) trivial) (fun _ => rfl) bursarref18_All.ok
end Go.Proofs.YtkgnhjmbnmaboaaGreatDoor
end
section
/- The Go function bursarref18.Parse, as a Lean function, and that it is this one. Written by a program of this session. -/
set_option linter.unusedVariables false
set_option maxRecDepth 100000
namespace Go.Proofs.YtkgnhjmbnmaboaaGreatDoor
open Go Go.Fw
abbrev bursarref18_Parse.As : Shs := (.cons (.x .s) .nil)
abbrev bursarref18_Parse.m : Back := [(false, T_api_Mti), (false, .b)]
noncomputable abbrev bursarref18_Parse.H : HK := hk P G0 E0 J0 [bursarref18_All.row] noLoops 4
theorem bursarref18_Parse.rows : TabOK P G0 (tabF [bursarref18_All.row]) := rows_ok (ws := [bursarref18_All.row]) ⟨bursarref18_All.row_ok, trivial⟩
theorem bursarref18_Parse.hok : HKOK P bursarref18_Parse.H := hk_ok e0_ok j0_ok bursarref18_Parse.rows (fun g n => noLoops_ok g n) 4
noncomputable abbrev bursarref18_Parse.sh4 : SSh := ⟨[(0, (.x .s)), (2, (.pt 0 0)), (4, (.x (.l .s))), (5, (.x (.i .i64)))], [.box (.cons (.x (.i .i64)) (.cons (.x .b) (.cons (.x .b) (.cons (.x .b) .nil))))]⟩
noncomputable abbrev bursarref18_Parse.os4 : PEnds := [(.ret, ⟨[(2, (.pt 0 0)), (3, (.x .b))], [.box (.cons (.x (.i .i64)) (.cons (.x .b) (.cons (.x .b) (.cons (.x .b) .nil))))]⟩), ((.exit 0), ⟨[(2, (.pt 0 0))], [.box (.cons (.x (.i .i64)) (.cons (.x .b) (.cons (.x .b) (.cons (.x .b) .nil))))]⟩)]
noncomputable def bursarref18_Parse.t4 (s : (ByteArray × ((List ByteArray) × (Int × (Int × (Bool × (Bool × Bool))))))) : Option ((ByteArray × ((List ByteArray) × (Int × (Int × (Bool × (Bool × Bool)))))) ⊕ ((Bool × (Int × (Bool × (Bool × Bool)))) ⊕ (Int × (Bool × (Bool × Bool))))) := (bif (decide ((s.2.2.1 < ((List.length s.2.1) : Int)))) then (bif ((decide (((0 : Int) ≤ s.2.2.1))) && (decide ((s.2.2.1 < ((List.length s.2.1) : Int))))) then (bif ((ByteArray.toList (List.getD s.2.1 (Int.toNat s.2.2.1) (bs []))) == (ByteArray.toList s.1)) then (bif (true && (decide (((2 : Int) < (s.1.size : Int))))) then (bif (true && (decide (((1 : Int) < (s.1.size : Int))))) then (bif ((IntKind.wrap .u8 ((bt s.1 2) - (48 : Int))) == (1 : Int)) then (bif (true && (decide (((3 : Int) < (s.1.size : Int))))) then (some (.inr (.inl (true, ((IntKind.wrap .i64 ((IntKind.wrap .i64 (bt s.1 1)) - (48 : Int))), ((decide (((IntKind.wrap .u8 ((bt s.1 2) - (48 : Int))) ≥ (2 : Int)))), (true, ((bt s.1 3) == (49 : Int))))))))) else none) else (bif (true && (decide (((3 : Int) < (s.1.size : Int))))) then (some (.inr (.inl (true, ((IntKind.wrap .i64 ((IntKind.wrap .i64 (bt s.1 1)) - (48 : Int))), ((decide (((IntKind.wrap .u8 ((bt s.1 2) - (48 : Int))) ≥ (2 : Int)))), (((IntKind.wrap .u8 ((bt s.1 2) - (48 : Int))) == (3 : Int)), ((bt s.1 3) == (49 : Int))))))))) else none)) else none) else none) else (some (.inl (s.1, (s.2.1, ((IntKind.wrap .i64 (s.2.2.1 + (1 : Int))), s.2.2.2)))))) else none) else (some (.inr (.inr s.2.2.2))))
theorem bursarref18_Parse.t4_ok : ∀ s : Vals bursarref18_Parse.sh4.tys, turnK P bursarref18_Parse.H (lp []) (bodyAt (codeOf P 41) 4) 0 bursarref18_Parse.sh4 bursarref18_Parse.os4 s some = bursarref18_Parse.t4 s := fun s => by kernel_rfl
noncomputable def bursarref18_Parse.l4 : (ByteArray × ((List ByteArray) × (Int × (Int × (Bool × (Bool × Bool)))))) → Option ((Bool × (Int × (Bool × (Bool × Bool)))) ⊕ (Int × (Bool × (Bool × Bool)))) := rounds bursarref18_Parse.t4
noncomputable def bursarref18_Parse.f (a : ByteArray) : Option ((Int × (Bool × (Bool × Bool))) × Bool) := (((bursarref18_Parse.l4 (a, ([(bs [48, 49, 48, 48]), (bs [48, 49, 48, 49]), (bs [48, 49, 49, 48]), (bs [48, 49, 50, 48]), (bs [48, 49, 50, 49]), (bs [48, 49, 51, 48]), (bs [48, 50, 48, 48]), (bs [48, 50, 48, 49]), (bs [48, 50, 49, 48]), (bs [48, 50, 50, 48]), (bs [48, 50, 50, 49]), (bs [48, 50, 51, 48]), (bs [48, 52, 48, 48]), (bs [48, 52, 48, 49]), (bs [48, 52, 49, 48]), (bs [48, 52, 50, 48]), (bs [48, 52, 50, 49]), (bs [48, 52, 51, 48]), (bs [48, 53, 48, 48]), (bs [48, 53, 48, 49]), (bs [48, 53, 49, 48]), (bs [48, 53, 50, 48]), (bs [48, 53, 50, 49]), (bs [48, 53, 51, 48]), (bs [48, 54, 48, 48]), (bs [48, 54, 48, 49]), (bs [48, 54, 49, 48]), (bs [48, 56, 48, 48]), (bs [48, 56, 48, 49]), (bs [48, 56, 49, 48])], ((0 : Int), ((0 : Int), (false, (false, false)))))))).bind fun (x1 : ((Bool × (Int × (Bool × (Bool × Bool)))) ⊕ (Int × (Bool × (Bool × Bool))))) => (match x1 with | .inl x2 => (some (x2.2, x2.1)) | .inr x2 => (some (((0 : Int), (false, (false, false))), false))))
theorem bursarref18_Parse.ok : ∀ a : Vals bursarref18_Parse.As.tys, fnK P bursarref18_Parse.H (lp [(4, (NodeT.summ ⟨bursarref18_Parse.sh4, bursarref18_Parse.os4, bursarref18_Parse.l4⟩ 0))]) 41 bursarref18_Parse.As bursarref18_Parse.m a some = bursarref18_Parse.f a := fun a => by kernel_rfl
noncomputable abbrev bursarref18_Parse.row : Row := fnRow 41 bursarref18_Parse.As bursarref18_Parse.m bursarref18_Parse.f
theorem bursarref18_Parse.row_ok : RowOK P G0 bursarref18_Parse.row := row_told bursarref18_Parse.hok (lp_of (l := [(4, (NodeT.summ ⟨bursarref18_Parse.sh4, bursarref18_Parse.os4, bursarref18_Parse.l4⟩ 0))]) ⟨(loop_sum bursarref18_Parse.hok (by kernel_rfl) (by kernel_rfl) (l := []) trivial bursarref18_Parse.sh4 bursarref18_Parse.os4 (by kernel_rfl) bursarref18_Parse.t4 bursarref18_Parse.t4_ok), trivial⟩) (fun _ => rfl) bursarref18_Parse.ok
end Go.Proofs.YtkgnhjmbnmaboaaGreatDoor
end
section
/- Messages' types: what the code and the document's answer compute. By this session. -/
set_option linter.unusedVariables false
set_option linter.unusedSimpArgs false
namespace Go.Proofs.YtkgnhjmbnmaboaaGreatDoor
open Go Go.Fw
/-- a type of messages as the code has it: class, advice, answers, again -/
abbrev M := Int × (Bool × (Bool × Bool))
def mayM (m : M) : Bool := ((m.1 == 1 || m.1 == 2 || m.1 == 4 || m.1 == 5) || ((m.1 == 6 || m.1 == 8) && !m.2.1)) && (!m.2.2.1 || !m.2.2.2)
theorem May_is (m : M) : mti_May.f m = some (mayM m) := by
  obtain ⟨c, a, b, d⟩ := m
  simp only [mti_May.f, mayM]
  by_cases h1 : c = 1
  · subst h1; cases a <;> cases b <;> cases d <;> rfl
  by_cases h2 : c = 2
  · subst h2; cases a <;> cases b <;> cases d <;> rfl
  by_cases h4 : c = 4
  · subst h4; cases a <;> cases b <;> cases d <;> rfl
  by_cases h5 : c = 5
  · subst h5; cases a <;> cases b <;> cases d <;> rfl
  by_cases h6 : c = 6
  · subst h6; cases a <;> cases b <;> cases d <;> rfl
  by_cases h8 : c = 8
  · subst h8; cases a <;> cases b <;> cases d <;> rfl
  have e1 : (c == 1) = false := by simp [h1]
  have e2 : (c == 2) = false := by simp [h2]
  have e4 : (c == 4) = false := by simp [h4]
  have e5 : (c == 5) = false := by simp [h5]
  have e6 : (c == 6) = false := by simp [h6]
  have e8 : (c == 8) = false := by simp [h8]
  simp only [e1, e2, e4, e5, e6, e8]
  rfl
def bI (b : Bool) : Int := bif b then 1 else 0
theorem bits1 (a : Bool) : mti_bits.f [a] = some (bI a) := by
  unfold mti_bits.f mti_bits.l4
  have h1 : mti_bits.t4 (0, ([a], (((List.length [a] : Nat) : Int), 0))) = some (.inl (bI a, ([a], (((List.length [a] : Nat) : Int), 1)))) := by cases a <;> decide +kernel
  have h2 : mti_bits.t4 (bI a, ([a], (((List.length [a] : Nat) : Int), 1))) = some (.inr (bI a)) := by cases a <;> decide +kernel
  rw [rounds_next h1, rounds_end h2]; rfl
theorem bits2 (a b : Bool) : mti_bits.f [a, b] = some (bI a + 2 * bI b) := by
  unfold mti_bits.f mti_bits.l4
  have h1 : mti_bits.t4 (0, ([a, b], (((List.length [a, b] : Nat) : Int), 0))) = some (.inl (bI a, ([a, b], (((List.length [a, b] : Nat) : Int), 1)))) := by cases a <;> cases b <;> decide +kernel
  have h2 : mti_bits.t4 (bI a, ([a, b], (((List.length [a, b] : Nat) : Int), 1))) = some (.inl (bI a + 2 * bI b, ([a, b], (((List.length [a, b] : Nat) : Int), 2)))) := by cases a <;> cases b <;> decide +kernel
  have h3 : mti_bits.t4 (bI a + 2 * bI b, ([a, b], (((List.length [a, b] : Nat) : Int), 2))) = some (.inr (bI a + 2 * bI b)) := by cases a <;> cases b <;> decide +kernel
  rw [rounds_next h1, rounds_next h2, rounds_end h3]; rfl
/-- the digits of a type -/
def textM (m : M) : ByteArray := ByteArray.mk (List.toArray (List.map (fun y => UInt8.ofNat (Int.toNat y)) [48, IntKind.wrap .u8 (IntKind.wrap .i64 (48 + m.1)), IntKind.wrap .u8 (IntKind.wrap .i64 (48 + (bI m.2.2.1 + 2 * bI m.2.1))), IntKind.wrap .u8 (IntKind.wrap .i64 (48 + bI m.2.2.2))]))
theorem text_M (m : M) : mti_text.f m = some (textM m) := by
  unfold mti_text.f
  rw [bits2, bits1]; rfl
theorem mtiText_is (m : M) : mti_Text.f m = some (bif mayM m then (textM m, 0) else (bs [], 1)) := by
  unfold mti_Text.f
  rw [May_is]
  cases mayM m with
  | false => rfl
  | true => simp only [Option.bind_some, Bool.not_true, cond_false, text_M]; rfl
end Go.Proofs.YtkgnhjmbnmaboaaGreatDoor
end
section
/- All types of messages, and whose digits any text is: what the code and the document's answer compute. By this session. -/
set_option linter.unusedVariables false
set_option linter.unusedSimpArgs false
namespace Go.Proofs.YtkgnhjmbnmaboaaGreatDoor
open Go Go.Fw
def allT : List ByteArray := [bs [48, 49, 48, 48], bs [48, 49, 48, 49], bs [48, 49, 49, 48], bs [48, 49, 50, 48], bs [48, 49, 50, 49], bs [48, 49, 51, 48], bs [48, 50, 48, 48], bs [48, 50, 48, 49], bs [48, 50, 49, 48], bs [48, 50, 50, 48], bs [48, 50, 50, 49], bs [48, 50, 51, 48], bs [48, 52, 48, 48], bs [48, 52, 48, 49], bs [48, 52, 49, 48], bs [48, 52, 50, 48], bs [48, 52, 50, 49], bs [48, 52, 51, 48], bs [48, 53, 48, 48], bs [48, 53, 48, 49], bs [48, 53, 49, 48], bs [48, 53, 50, 48], bs [48, 53, 50, 49], bs [48, 53, 51, 48], bs [48, 54, 48, 48], bs [48, 54, 48, 49], bs [48, 54, 49, 48], bs [48, 56, 48, 48], bs [48, 56, 48, 49], bs [48, 56, 49, 48]]
def allM : List M := [(1, (false, (false, false))), (1, (false, (false, true))), (1, (false, (true, false))), (1, (true, (false, false))), (1, (true, (false, true))), (1, (true, (true, false))), (2, (false, (false, false))), (2, (false, (false, true))), (2, (false, (true, false))), (2, (true, (false, false))), (2, (true, (false, true))), (2, (true, (true, false))), (4, (false, (false, false))), (4, (false, (false, true))), (4, (false, (true, false))), (4, (true, (false, false))), (4, (true, (false, true))), (4, (true, (true, false))), (5, (false, (false, false))), (5, (false, (false, true))), (5, (false, (true, false))), (5, (true, (false, false))), (5, (true, (false, true))), (5, (true, (true, false))), (6, (false, (false, false))), (6, (false, (false, true))), (6, (false, (true, false))), (8, (false, (false, false))), (8, (false, (false, true))), (8, (false, (true, false)))]
def m0 : M := (0, (false, (false, false)))
def tAt (i : Nat) : ByteArray := allT.getD i (bs [])
def mAt (i : Nat) : M := allM.getD i m0
/-- the first of them -/
def firstI (p : Nat → Bool) : Option Nat := (List.range 30).find? p
theorem firstI_some {p : Nat → Bool} {i : Nat} (h : firstI p = some i) : i < 30 ∧ p i = true := by
  unfold firstI at h
  exact ⟨List.mem_range.1 (List.mem_of_find?_eq_some h), List.find?_some h⟩
theorem firstI_none {p : Nat → Bool} (h : firstI p = none) : ∀ i, i < 30 → p i = false := by
  unfold firstI at h
  intro i hi
  have := List.find?_eq_none.1 h i (List.mem_range.2 hi)
  simpa using this
theorem rounds_find {S R : Type} {t : S → Option (S ⊕ R)} (st : Nat → S) (p : Nat → Bool) (out : Nat → R) (fin : R) (h : ∀ i, i < 30 → p i = false → t (st i) = some (.inl (st (i + 1)))) (hp : ∀ i, i < 30 → p i = true → t (st i) = some (.inr (out i))) (hf : t (st 30) = some (.inr fin)) :
    rounds t (st 0) = some (match firstI p with | some i => out i | none => fin) := by
  have go : ∀ k, k ≤ 30 → rounds t (st 0) = match (List.range k).find? p with | some i => some (out i) | none => rounds t (st k) := by
    intro k
    induction k with
    | zero => intro _; rfl
    | succ k ih =>
      intro hk
      rw [ih (by omega), List.range_succ, List.find?_append]
      cases (List.range k).find? p with
      | some i => rfl
      | none =>
        cases hx : p k with
        | false => simp [hx, rounds_next (h k (by omega) hx)]
        | true => simp [hx, rounds_end (hp k (by omega) hx)]
  rw [go 30 (Nat.le_refl _), rounds_end hf]
  unfold firstI
  cases (List.range 30).find? p <;> rfl
theorem text_at : ∀ i, i < 30 → textM (mAt i) = tAt i := by decide +kernel
theorem may_at : ∀ i, i < 30 → mayM (mAt i) = true := by decide +kernel
theorem may_in (m : M) (h : mayM m = true) : ∃ i, i < 30 ∧ mAt i = m := by
  obtain ⟨c, a, b, d⟩ := m
  have hc : c = 1 ∨ c = 2 ∨ c = 4 ∨ c = 5 ∨ c = 6 ∨ c = 8 := by
    simp only [mayM, Bool.and_eq_true, Bool.or_eq_true, beq_iff_eq] at h
    omega
  rcases hc with rfl | rfl | rfl | rfl | rfl | rfl <;> cases a <;> cases b <;> cases d <;> first | (cases h; done) | decide +kernel
/-! ### the document's answer -/
theorem ref_hit : ∀ i, i < 30 → bursarref18_Parse.t4 (tAt i, (allT, ((i : Int), m0))) = some (.inr (.inl (true, mAt i))) := by
  have h : ∀ i, i < 30 → (match bursarref18_Parse.t4 (tAt i, (allT, ((i : Int), m0))) with
    | some (.inr (.inl x)) => decide (x = (true, mAt i))
    | _ => false) = true := by decide +kernel
  intro i hi
  have h := h i hi
  split at h
  · rename_i x hx
    rw [hx, of_decide_eq_true h]
  · cases h
def whose (s : ByteArray) : Option Nat := firstI fun i => decide (tAt i = s)
theorem mtiRefParse_is (s : ByteArray) : bursarref18_Parse.f s = some (match whose s with | some i => (mAt i, true) | none => (m0, false)) := by
  have h := rounds_find (t := bursarref18_Parse.t4) (fun i => (s, (allT, ((i : Int), m0)))) (fun i => decide (tAt i = s)) (fun i => .inl (true, mAt i)) (.inr m0) (fun i hi hp => by
    have d1 : decide ((i : Int) < ((List.length allT : Nat) : Int)) = true := decide_eq_true (by show (i : Int) < 30; omega)
    have d2 : decide ((0 : Int) ≤ (i : Int)) = true := decide_eq_true (by omega)
    have w := wrap_up (n := i) (by omega)
    have e : (ByteArray.toList (List.getD allT i (bs [])) == ByteArray.toList s) = false := by rw [texts_eq]; exact hp
    simp only [bursarref18_Parse.t4, d1, d2, Int.toNat_natCast, e, w, Bool.and_self, cond_true, cond_false]) (fun i hi hp => by
    have e : tAt i = s := of_decide_eq_true hp
    subst e
    exact ref_hit i hi) (by rfl)
  unfold bursarref18_Parse.f bursarref18_Parse.l4
  refine (congrArg (fun x => Option.bind x _) h).trans ?_
  unfold whose
  cases firstI fun i => decide (tAt i = s) <;> rfl
theorem whose_at : ∀ i, i < 30 → whose (tAt i) = some i := by decide +kernel
def index (m : M) : Option Nat := firstI fun i => decide (mAt i = m)
/-! ### the code -/
def decM (s : ByteArray) : M := (IntKind.wrap .i64 (IntKind.wrap .u8 (bt s 1 - 48)), ((bitsOp .and .u8 (IntKind.wrap .u8 (bt s 2 - 48)) 2 != 0), ((bitsOp .and .u8 (IntKind.wrap .u8 (bt s 2 - 48)) 1 != 0), (bt s 3 == 49))))
theorem dec_at : ∀ i, i < 30 → (tAt i).size = 4 ∧ decM (tAt i) = mAt i := by decide +kernel
theorem mtiParse_is (s : ByteArray) : mti_Parse.f s = some (match whose s with | some i => (mAt i, 0) | none => (m0, 17)) := by
  have key : mti_Parse.f s = bif decide (s.size = 4) then (bif mayM (decM s) && decide (textM (decM s) = s) then some (decM s, 0) else some (m0, 17)) else some (m0, 17) := by
    unfold mti_Parse.f
    by_cases h4 : s.size = 4
    · have d0 : ((s.size : Int) != 4) = false := by simp; omega
      have d1 : decide ((1 : Int) < (s.size : Int)) = true := decide_eq_true (by omega)
      have d2 : decide ((2 : Int) < (s.size : Int)) = true := decide_eq_true (by omega)
      have d3 : decide ((3 : Int) < (s.size : Int)) = true := decide_eq_true (by omega)
      have em : mti_May.f (decM s) = some (mayM (decM s)) := May_is _
      have et : mti_text.f (decM s) = some (textM (decM s)) := text_M _
      unfold decM at em et
      simp only [d0, d1, d2, d3, em, et, decide_eq_true h4, texts_eq, Bool.and_self, cond_true, cond_false, Option.bind_some]
      unfold decM m0
      cases mayM _ with
      | false => rfl
      | true =>
        simp only [Bool.not_true, cond_false, Bool.true_and]
        cases decide (textM _ = s) <;> rfl
    · have d0 : ((s.size : Int) != 4) = true := by simp; omega
      rw [d0, decide_eq_false h4]; rfl
  rw [key]
  cases hx : whose s with
  | some i =>
    obtain ⟨hi, hp⟩ := firstI_some hx
    have e : tAt i = s := of_decide_eq_true hp
    subst e
    obtain ⟨h4, hd⟩ := dec_at i hi
    rw [decide_eq_true h4, hd, may_at i hi, text_at i hi, decide_eq_true rfl]; rfl
  | none =>
    have hn := firstI_none hx
    cases decide (s.size = 4) with
    | false => rfl
    | true =>
      cases hm : mayM (decM s) with
      | false => rfl
      | true =>
        obtain ⟨i, hi, e⟩ := may_in _ hm
        have ht := text_at i hi
        have h1 := hn i hi
        have : decide (textM (decM s) = s) = false := by
          rw [← e, ht]; exact h1
        rw [this]; rfl
end Go.Proofs.YtkgnhjmbnmaboaaGreatDoor
end
section
/- The Go function iso.numbers, as a Lean function, and that it is this one. Written by a program of this session. -/
set_option linter.unusedVariables false
set_option maxRecDepth 100000
namespace Go.Proofs.YtkgnhjmbnmaboaaGreatDoor
open Go Go.Fw
abbrev iso_numbers.As : Shs := (.cons (.x (.l (.g (.p (.i .i64) .s)))) .nil)
abbrev iso_numbers.m : Back := [(false, (.l (.i .i64)))]
noncomputable abbrev iso_numbers.H : HK := hk P G0 E0 J0 [] noLoops 4
theorem iso_numbers.rows : TabOK P G0 (tabF []) := rows_ok (ws := []) trivial
theorem iso_numbers.hok : HKOK P iso_numbers.H := hk_ok e0_ok j0_ok iso_numbers.rows (fun g n => noLoops_ok g n) 4
noncomputable abbrev iso_numbers.sh4 : SSh := ⟨[(3, (.own 0 1)), (6, (.x (.l (.g (.p (.i .i64) .s))))), (7, (.x (.i .i64))), (8, (.x (.i .i64)))], [.arrN (.i .i64)]⟩
noncomputable abbrev iso_numbers.os4 : PEnds := [((.exit 0), ⟨[(3, (.x (.l (.i .i64))))], []⟩)]
noncomputable def iso_numbers.t4 (s : ((List (Int × ByteArray)) × (Int × (Int × (List Int))))) : Option (((List (Int × ByteArray)) × (Int × (Int × (List Int)))) ⊕ ((List Int))) := (bif (decide ((s.2.2.1 < s.2.1))) then (bif ((decide (((0 : Int) ≤ s.2.2.1))) && (decide ((s.2.2.1 < ((List.length s.1) : Int))))) then (bif ((true && (Nat.ble (((List.length s.2.2.2) + (List.length ((List.getD s.1 (Int.toNat s.2.2.1) (Ty.dflt T_api_Field)).1 :: []))) * 8) 140737488355328)) && (Nat.ble ((List.length s.2.2.2) + (List.length ((List.getD s.1 (Int.toNat s.2.2.1) (Ty.dflt T_api_Field)).1 :: []))) 140737488355328)) then (some (.inl (s.1, (s.2.1, ((IntKind.wrap .i64 (s.2.2.1 + (1 : Int))), (s.2.2.2 ++ ((List.getD s.1 (Int.toNat s.2.2.1) (Ty.dflt T_api_Field)).1 :: []))))))) else none) else none) else (some (.inr s.2.2.2)))
theorem iso_numbers.t4_ok : ∀ s : Vals iso_numbers.sh4.tys, turnK P iso_numbers.H (lp []) (bodyAt (codeOf P 86) 4) 0 iso_numbers.sh4 iso_numbers.os4 s some = iso_numbers.t4 s := by rintro ⟨s0, s1, s2, s3⟩; cases s3 <;> kernel_rfl
noncomputable def iso_numbers.l4 : ((List (Int × ByteArray)) × (Int × (Int × (List Int)))) → Option ((List Int)) := rounds iso_numbers.t4
noncomputable def iso_numbers.f (a : (List (Int × ByteArray))) : Option (List Int) := (((iso_numbers.l4 (a, (((List.length a) : Int), ((0 : Int), []))))).bind fun (x1 : (List Int)) => (some x1))
theorem iso_numbers.ok : ∀ a : Vals iso_numbers.As.tys, fnK P iso_numbers.H (lp [(4, (NodeT.summ ⟨iso_numbers.sh4, iso_numbers.os4, iso_numbers.l4⟩ 0))]) 86 iso_numbers.As iso_numbers.m a some = iso_numbers.f a := fun a => by kernel_rfl
noncomputable abbrev iso_numbers.row : Row := fnRow 86 iso_numbers.As iso_numbers.m iso_numbers.f
theorem iso_numbers.row_ok : RowOK P G0 iso_numbers.row := row_told iso_numbers.hok (lp_of (l := [(4, (NodeT.summ ⟨iso_numbers.sh4, iso_numbers.os4, iso_numbers.l4⟩ 0))]) ⟨(loop_sum iso_numbers.hok (by kernel_rfl) (by kernel_rfl) (l := []) trivial iso_numbers.sh4 iso_numbers.os4 (by kernel_rfl) iso_numbers.t4 iso_numbers.t4_ok), trivial⟩) (fun _ => rfl) iso_numbers.ok
end Go.Proofs.YtkgnhjmbnmaboaaGreatDoor
end
section
/- The Go function iso.pack, as a Lean function, and that it is this one. Written by a program of this session. -/
set_option linter.unusedVariables false
set_option maxRecDepth 100000
namespace Go.Proofs.YtkgnhjmbnmaboaaGreatDoor
open Go Go.Fw
abbrev iso_pack.As : Shs := (.cons (.x T_api_Message) .nil)
abbrev iso_pack.m : Back := [(false, .s), (false, (.i .i64))]
noncomputable abbrev iso_pack.H : HK := hk P G1 E0 J0 [mti_Parse.row, bitmap_Map.row, iso_numbers.row, spec_Pack.row] noLoops 4
theorem iso_pack.rows : TabOK P G1 (tabF [mti_Parse.row, bitmap_Map.row, iso_numbers.row, spec_Pack.row]) := rows_ok (ws := [mti_Parse.row, bitmap_Map.row, iso_numbers.row, spec_Pack.row]) ⟨(mti_Parse.row_ok.more g01), ⟨bitmap_Map.row_ok, ⟨(iso_numbers.row_ok.more g01), ⟨spec_Pack.row_ok, trivial⟩⟩⟩⟩
theorem iso_pack.hok : HKOK P iso_pack.H := hk_ok e0_ok j0_ok iso_pack.rows (fun g n => noLoops_ok g n) 4
noncomputable abbrev iso_pack.sh12 : SSh := ⟨[(8, (.x .s)), (36, (.x (.l (.g (.p (.i .i64) .s))))), (37, (.x (.i .i64))), (38, (.x (.i .i64)))], []⟩
noncomputable abbrev iso_pack.os12 : PEnds := [(.ret, ⟨[(2, (.x .s)), (3, (.x (.i .i64)))], []⟩), ((.exit 0), ⟨[(8, (.x .s))], []⟩)]
noncomputable def iso_pack.t12 (s : (ByteArray × ((List (Int × ByteArray)) × (Int × Int)))) : Option ((ByteArray × ((List (Int × ByteArray)) × (Int × Int))) ⊕ ((ByteArray × Int) ⊕ ByteArray)) := (bif (decide ((s.2.2.2 < s.2.2.1))) then (bif ((decide (((0 : Int) ≤ s.2.2.2))) && (decide ((s.2.2.2 < ((List.length s.2.1) : Int))))) then (((spec_Pack.f (List.getD s.2.1 (Int.toNat s.2.2.2) (Ty.dflt T_api_Field)))).bind fun (x4 : (ByteArray × Int)) => (bif (x4.2 != (0 : Int)) then (some (.inr (.inl ((bs []), (16 : Int))))) else (bif (Nat.ble (s.1.size + x4.1.size) 9223372036854775807) then (some (.inl ((s.1 ++ x4.1), (s.2.1, (s.2.2.1, (IntKind.wrap .i64 (s.2.2.2 + (1 : Int)))))))) else none))) else none) else (some (.inr (.inr s.1))))
theorem iso_pack.t12_ok : ∀ s : Vals iso_pack.sh12.tys, turnK P iso_pack.H (lp []) (bodyAt (codeOf P 40) 12) 0 iso_pack.sh12 iso_pack.os12 s some = iso_pack.t12 s := fun s => by kernel_rfl
noncomputable def iso_pack.l12 : (ByteArray × ((List (Int × ByteArray)) × (Int × Int))) → Option ((ByteArray × Int) ⊕ ByteArray) := rounds iso_pack.t12
noncomputable def iso_pack.f (a : (ByteArray × (List (Int × ByteArray)))) : Option (ByteArray × Int) := (((mti_Parse.f a.1)).bind fun (x1 : ((Int × (Bool × (Bool × Bool))) × Int)) => (bif (x1.2 != (0 : Int)) then (some ((bs []), x1.2)) else (((iso_numbers.f a.2)).bind fun (x2 : (List Int)) => (((bitmap_Map.f x2)).bind fun (x3 : (ByteArray × Int)) => (bif (x3.2 != (0 : Int)) then (some ((bs []), (16 : Int))) else (bif (Nat.ble (a.1.size + x3.1.size) 9223372036854775807) then (((iso_pack.l12 ((a.1 ++ x3.1), (a.2, (((List.length a.2) : Int), (0 : Int)))))).bind fun (x4 : ((ByteArray × Int) ⊕ ByteArray)) => (match x4 with | .inl x5 => (some x5) | .inr x5 => (some (x5, (0 : Int))))) else none))))))
theorem iso_pack.ok : ∀ a : Vals iso_pack.As.tys, fnK P iso_pack.H (lp [(12, (NodeT.summ ⟨iso_pack.sh12, iso_pack.os12, iso_pack.l12⟩ 0))]) 40 iso_pack.As iso_pack.m a some = iso_pack.f a := fun a => by kernel_rfl
noncomputable abbrev iso_pack.row : Row := fnRow 40 iso_pack.As iso_pack.m iso_pack.f
theorem iso_pack.row_ok : RowOK P G1 iso_pack.row := row_told iso_pack.hok (lp_of (l := [(12, (NodeT.summ ⟨iso_pack.sh12, iso_pack.os12, iso_pack.l12⟩ 0))]) ⟨(loop_sum iso_pack.hok (by kernel_rfl) (by kernel_rfl) (l := []) trivial iso_pack.sh12 iso_pack.os12 (by kernel_rfl) iso_pack.t12 iso_pack.t12_ok), trivial⟩) (fun _ => rfl) iso_pack.ok
end Go.Proofs.YtkgnhjmbnmaboaaGreatDoor
end
section
/- The Go function iso.Pack, as a Lean function, and that it is this one. Written by a program of this session. -/
set_option linter.unusedVariables false
set_option maxRecDepth 100000
namespace Go.Proofs.YtkgnhjmbnmaboaaGreatDoor
open Go Go.Fw
abbrev iso_Pack.As : Shs := (.cons (.x T_api_Message) .nil)
abbrev iso_Pack.m : Back := [(false, .s), (false, (.i .i64))]
noncomputable abbrev iso_Pack.H : HK := hk P G1 E0 J0 [iso_pack.row] noLoops 4
theorem iso_Pack.rows : TabOK P G1 (tabF [iso_pack.row]) := rows_ok (ws := [iso_pack.row]) ⟨iso_pack.row_ok, trivial⟩
theorem iso_Pack.hok : HKOK P iso_Pack.H := hk_ok e0_ok j0_ok iso_Pack.rows (fun g n => noLoops_ok g n) 4
noncomputable def iso_Pack.f (a : (ByteArray × (List (Int × ByteArray)))) : Option (ByteArray × Int) := (((iso_pack.f a)).bind fun (x1 : (ByteArray × Int)) => (bif (x1.2 == (0 : Int)) then (bif (decide (((x1.1.size : Int) > (4000 : Int)))) then (some ((bs []), (9 : Int))) else (some x1)) else (some x1)))
theorem iso_Pack.ok : ∀ a : Vals iso_Pack.As.tys, fnK P iso_Pack.H (lp []) 11 iso_Pack.As iso_Pack.m a some = iso_Pack.f a := fun a => by kernel_rfl
noncomputable abbrev iso_Pack.row : Row := fnRow 11 iso_Pack.As iso_Pack.m iso_Pack.f
theorem iso_Pack.row_ok : RowOK P G1 iso_Pack.row := row_told iso_Pack.hok (lp_of (l := []) trivial) (fun _ => rfl) iso_Pack.ok
end Go.Proofs.YtkgnhjmbnmaboaaGreatDoor
end
section
/- The Go function iso.Parse, as a Lean function, and that it is this one. Written by a program of this session. -/
set_option linter.unusedVariables false
set_option maxRecDepth 100000
namespace Go.Proofs.YtkgnhjmbnmaboaaGreatDoor
open Go Go.Fw
abbrev iso_Parse.As : Shs := (.cons (.x .s) .nil)
abbrev iso_Parse.m : Back := [(false, T_api_Message), (false, (.i .i64))]
noncomputable abbrev iso_Parse.H : HK := hk P G1 E0 J0 [mti_Parse.row, bitmap_Read.row, spec_Take.row] noLoops 4
theorem iso_Parse.rows : TabOK P G1 (tabF [mti_Parse.row, bitmap_Read.row, spec_Take.row]) := rows_ok (ws := [mti_Parse.row, bitmap_Read.row, spec_Take.row]) ⟨(mti_Parse.row_ok.more g01), ⟨bitmap_Read.row_ok, ⟨spec_Take.row_ok, trivial⟩⟩⟩
theorem iso_Parse.hok : HKOK P iso_Parse.H := hk_ok e0_ok j0_ok iso_Parse.rows (fun g n => noLoops_ok g n) 4
noncomputable abbrev iso_Parse.sh20 : SSh := ⟨[(2, (.pt 0 0)), (4, (.pt 1 0)), (10, (.x .s)), (54, (.x (.l (.i .i64)))), (55, (.x (.i .i64))), (56, (.x (.i .i64)))], [.box (.cons (.x .s) (.cons (.own 2 2) .nil)), .box (.cons (.x .s) (.cons (.own 3 2) .nil)), .arrN T_api_Field, .arrN T_api_Field]⟩
noncomputable abbrev iso_Parse.os20 : PEnds := [(.ret, ⟨[(2, (.pt 0 0)), (3, (.x (.i .i64)))], [.box (.cons (.x .s) (.cons (.own 1 2) .nil)), .arrN T_api_Field]⟩), ((.exit 1), ⟨[(2, (.pt 0 0)), (4, (.pt 1 0)), (10, (.x .s))], [.box (.cons (.x .s) (.cons (.own 2 2) .nil)), .box (.cons (.x .s) (.cons (.own 3 2) .nil)), .arrN T_api_Field, .arrN T_api_Field]⟩)]
noncomputable def iso_Parse.t20 (s : (ByteArray × ((List Int) × (Int × (Int × (ByteArray × (ByteArray × ((List (Int × ByteArray)) × (List (Int × ByteArray)))))))))) : Option ((ByteArray × ((List Int) × (Int × (Int × (ByteArray × (ByteArray × ((List (Int × ByteArray)) × (List (Int × ByteArray))))))))) ⊕ ((Int × (ByteArray × (List (Int × ByteArray)))) ⊕ (ByteArray × (ByteArray × (ByteArray × ((List (Int × ByteArray)) × (List (Int × ByteArray)))))))) := (bif (decide ((s.2.2.2.1 < s.2.2.1))) then (bif ((decide (((0 : Int) ≤ s.2.2.2.1))) && (decide ((s.2.2.2.1 < ((List.length s.2.1) : Int))))) then (((spec_Take.f ((List.getD s.2.1 (Int.toNat s.2.2.2.1) (0 : Int)), s.1))).bind fun (x10 : (ByteArray × (Int × Int))) => (bif (x10.2.2 != (0 : Int)) then (some (.inr (.inl (x10.2.2, ((bs []), []))))) else (bif ((true && (Nat.ble (((List.length s.2.2.2.2.2.2.2) + (List.length (((List.getD s.2.1 (Int.toNat s.2.2.2.1) (0 : Int)), x10.1) :: []))) * 24) 140737488355328)) && (Nat.ble ((List.length s.2.2.2.2.2.2.2) + (List.length (((List.getD s.2.1 (Int.toNat s.2.2.2.1) (0 : Int)), x10.1) :: []))) 140737488355328)) then (bif ((decide (((0 : Int) ≤ x10.2.1))) && (decide ((x10.2.1 ≤ (s.1.size : Int))))) then (some (.inl ((ByteArray.extract s.1 (Int.toNat x10.2.1) s.1.size), (s.2.1, (s.2.2.1, ((IntKind.wrap .i64 (s.2.2.2.1 + (1 : Int))), (s.2.2.2.2.1, (s.2.2.2.2.2.1, (s.2.2.2.2.2.2.1, (s.2.2.2.2.2.2.2 ++ (((List.getD s.2.1 (Int.toNat s.2.2.2.1) (0 : Int)), x10.1) :: []))))))))))) else none) else none))) else none) else (some (.inr (.inr (s.1, s.2.2.2.2)))))
theorem iso_Parse.t20_ok : ∀ s : Vals iso_Parse.sh20.tys, turnK P iso_Parse.H (lp []) (bodyAt (codeOf P 15) 20) 0 iso_Parse.sh20 iso_Parse.os20 s some = iso_Parse.t20 s := by rintro ⟨s0, s1, s2, s3, s4, s5, s6, s7⟩; cases s6 <;> cases s7 <;> kernel_rfl
noncomputable def iso_Parse.l20 : (ByteArray × ((List Int) × (Int × (Int × (ByteArray × (ByteArray × ((List (Int × ByteArray)) × (List (Int × ByteArray))))))))) → Option ((Int × (ByteArray × (List (Int × ByteArray)))) ⊕ (ByteArray × (ByteArray × (ByteArray × ((List (Int × ByteArray)) × (List (Int × ByteArray))))))) := rounds iso_Parse.t20
noncomputable def iso_Parse.f (a : ByteArray) : Option ((ByteArray × (List (Int × ByteArray))) × Int) := (bif (decide (((a.size : Int) > (4000 : Int)))) then (some (((bs []), []), (9 : Int))) else (bif (decide (((a.size : Int) < (4 : Int)))) then (some (((bs []), []), (3 : Int))) else (bif (true && (decide (((4 : Int) ≤ (a.size : Int))))) then (((mti_Parse.f (ByteArray.extract a 0 4))).bind fun (x1 : ((Int × (Bool × (Bool × Bool))) × Int)) => (bif (x1.2 != (0 : Int)) then (some (((bs []), []), x1.2)) else (bif (true && (decide (((4 : Int) ≤ (a.size : Int))))) then (((bitmap_Read.f (ByteArray.extract a 4 a.size))).bind fun (x2 : ((List Int) × (Int × Int))) => (bif (x2.2.2 != (0 : Int)) then (some (((bs []), []), x2.2.2)) else (bif ((decide (((0 : Int) ≤ (IntKind.wrap .i64 ((4 : Int) + x2.2.1))))) && (decide (((IntKind.wrap .i64 ((4 : Int) + x2.2.1)) ≤ (a.size : Int))))) then (((iso_Parse.l20 ((ByteArray.extract a (Int.toNat (IntKind.wrap .i64 ((4 : Int) + x2.2.1))) a.size), (x2.1, (((List.length x2.1) : Int), ((0 : Int), ((bs []), ((ByteArray.extract a 0 4), ([], []))))))))).bind fun (x3 : ((Int × (ByteArray × (List (Int × ByteArray)))) ⊕ (ByteArray × (ByteArray × (ByteArray × ((List (Int × ByteArray)) × (List (Int × ByteArray)))))))) => (match x3 with | .inl x4 => (match x4.2.2 with | [] => (some ((x4.2.1, []), x4.1)) | x5 :: x6 => (some ((x4.2.1, (x5 :: x6)), x4.1))) | .inr x4 => (match x4.2.2.2.1 with | [] => (match x4.2.2.2.2 with | [] => (bif (!((ByteArray.toList x4.1) == [])) then (some (((bs []), []), (4 : Int))) else (some ((x4.2.2.1, []), (0 : Int)))) | x5 :: x6 => (bif (!((ByteArray.toList x4.1) == [])) then (some (((bs []), []), (4 : Int))) else (some ((x4.2.2.1, (x5 :: x6)), (0 : Int))))) | x5 :: x6 => (match x4.2.2.2.2 with | [] => (bif (!((ByteArray.toList x4.1) == [])) then (some (((bs []), []), (4 : Int))) else (some ((x4.2.2.1, []), (0 : Int)))) | x7 :: x8 => (bif (!((ByteArray.toList x4.1) == [])) then (some (((bs []), []), (4 : Int))) else (some ((x4.2.2.1, (x7 :: x8)), (0 : Int)))))))) else none))) else none))) else none)))
theorem iso_Parse.ok : ∀ a : Vals iso_Parse.As.tys, fnK P iso_Parse.H (lp [(20, (NodeT.summ ⟨iso_Parse.sh20, iso_Parse.os20, iso_Parse.l20⟩ 0))]) 15 iso_Parse.As iso_Parse.m a some = iso_Parse.f a := fun a => by kernel_rfl
noncomputable abbrev iso_Parse.row : Row := fnRow 15 iso_Parse.As iso_Parse.m iso_Parse.f
theorem iso_Parse.row_ok : RowOK P G1 iso_Parse.row := row_told iso_Parse.hok (lp_of (l := [(20, (NodeT.summ ⟨iso_Parse.sh20, iso_Parse.os20, iso_Parse.l20⟩ 0))]) ⟨(loop_sum iso_Parse.hok (by kernel_rfl) (by kernel_rfl) (l := []) trivial iso_Parse.sh20 iso_Parse.os20 (by kernel_rfl) iso_Parse.t20 iso_Parse.t20_ok), trivial⟩) (fun _ => rfl) iso_Parse.ok
end Go.Proofs.YtkgnhjmbnmaboaaGreatDoor
end
section
/- The Go function bursarref19.Same, as a Lean function, and that it is this one. Written by a program of this session. -/
set_option linter.unusedVariables false
set_option maxRecDepth 100000
namespace Go.Proofs.YtkgnhjmbnmaboaaGreatDoor
open Go Go.Fw
abbrev bursarref19_Same.As : Shs := (.cons (.x T_api_Message) (.cons (.x T_api_Message) .nil))
abbrev bursarref19_Same.m : Back := [(false, .b)]
noncomputable abbrev bursarref19_Same.H : HK := hk P G0 E0 J0 [] noLoops 4
theorem bursarref19_Same.rows : TabOK P G0 (tabF []) := rows_ok (ws := []) trivial
theorem bursarref19_Same.hok : HKOK P bursarref19_Same.H := hk_ok e0_ok j0_ok bursarref19_Same.rows (fun g n => noLoops_ok g n) 4
noncomputable abbrev bursarref19_Same.sh6 : SSh := ⟨[(2, (.pt 0 0)), (3, (.pt 1 0)), (5, (.x (.i .i64)))], [.box (.cons (.x .s) (.cons (.x (.l (.g (.p (.i .i64) .s)))) .nil)), .box (.cons (.x .s) (.cons (.x (.l (.g (.p (.i .i64) .s)))) .nil))]⟩
noncomputable abbrev bursarref19_Same.os6 : PEnds := [(.ret, ⟨[(4, (.x .b))], []⟩), ((.exit 0), ⟨[], []⟩)]
noncomputable def bursarref19_Same.t6 (s : (Int × (ByteArray × ((List (Int × ByteArray)) × (ByteArray × (List (Int × ByteArray))))))) : Option ((Int × (ByteArray × ((List (Int × ByteArray)) × (ByteArray × (List (Int × ByteArray)))))) ⊕ (Bool ⊕ Unit)) := (bif (decide ((s.1 < ((List.length s.2.2.1) : Int)))) then (bif ((decide (((0 : Int) ≤ s.1))) && (decide ((s.1 < ((List.length s.2.2.1) : Int))))) then (bif ((decide (((0 : Int) ≤ s.1))) && (decide ((s.1 < ((List.length s.2.2.2.2) : Int))))) then (bif (!(((List.getD s.2.2.1 (Int.toNat s.1) (Ty.dflt T_api_Field)).1 == (List.getD s.2.2.2.2 (Int.toNat s.1) (Ty.dflt T_api_Field)).1) && (((ByteArray.toList (List.getD s.2.2.1 (Int.toNat s.1) (Ty.dflt T_api_Field)).2) == (ByteArray.toList (List.getD s.2.2.2.2 (Int.toNat s.1) (Ty.dflt T_api_Field)).2)) && true))) then (some (.inr (.inl false))) else (some (.inl ((IntKind.wrap .i64 (s.1 + (1 : Int))), s.2)))) else none) else none) else (some (.inr (.inr ()))))
theorem bursarref19_Same.t6_ok : ∀ s : Vals bursarref19_Same.sh6.tys, turnK P bursarref19_Same.H (lp []) (bodyAt (codeOf P 16) 6) 0 bursarref19_Same.sh6 bursarref19_Same.os6 s some = bursarref19_Same.t6 s := fun s => by kernel_rfl
noncomputable def bursarref19_Same.l6 : (Int × (ByteArray × ((List (Int × ByteArray)) × (ByteArray × (List (Int × ByteArray)))))) → Option (Bool ⊕ Unit) := rounds bursarref19_Same.t6
noncomputable def bursarref19_Same.f (a : ((ByteArray × (List (Int × ByteArray))) × (ByteArray × (List (Int × ByteArray))))) : Option Bool := (bif (!((ByteArray.toList a.1.1) == (ByteArray.toList a.2.1))) then (some false) else (bif (((List.length a.1.2) : Int) != ((List.length a.2.2) : Int)) then (some false) else (((bursarref19_Same.l6 ((0 : Int), (a.1.1, (a.1.2, a.2))))).bind fun (x2 : (Bool ⊕ PUnit)) => (match x2 with | .inl x3 => (some x3) | .inr x3 => (some true)))))
theorem bursarref19_Same.ok : ∀ a : Vals bursarref19_Same.As.tys, fnK P bursarref19_Same.H (lp [(6, (NodeT.summ ⟨bursarref19_Same.sh6, bursarref19_Same.os6, bursarref19_Same.l6⟩ 0))]) 16 bursarref19_Same.As bursarref19_Same.m a some = bursarref19_Same.f a := fun a => by kernel_rfl
noncomputable abbrev bursarref19_Same.row : Row := fnRow 16 bursarref19_Same.As bursarref19_Same.m bursarref19_Same.f
theorem bursarref19_Same.row_ok : RowOK P G0 bursarref19_Same.row := row_told bursarref19_Same.hok (lp_of (l := [(6, (NodeT.summ ⟨bursarref19_Same.sh6, bursarref19_Same.os6, bursarref19_Same.l6⟩ 0))]) ⟨(loop_sum bursarref19_Same.hok (by kernel_rfl) (by kernel_rfl) (l := []) trivial bursarref19_Same.sh6 bursarref19_Same.os6 (by kernel_rfl) bursarref19_Same.t6 bursarref19_Same.t6_ok), trivial⟩) (fun _ => rfl) bursarref19_Same.ok
end Go.Proofs.YtkgnhjmbnmaboaaGreatDoor
end
section
/- The Go function bursarlaw19.Few, as a Lean function, and that it is this one. Written by a program of this session. -/
set_option linter.unusedVariables false
set_option maxRecDepth 100000
namespace Go.Proofs.YtkgnhjmbnmaboaaGreatDoor
open Go Go.Fw
abbrev bursarlaw19_Few.As : Shs := (.cons (.x T_api_Message) .nil)
abbrev bursarlaw19_Few.m : Back := [(false, T_api_Message)]
noncomputable abbrev bursarlaw19_Few.H : HK := hk P G0 E0 J0 [] noLoops 4
theorem bursarlaw19_Few.rows : TabOK P G0 (tabF []) := rows_ok (ws := []) trivial
theorem bursarlaw19_Few.hok : HKOK P bursarlaw19_Few.H := hk_ok e0_ok j0_ok bursarlaw19_Few.rows (fun g n => noLoops_ok g n) 4
noncomputable abbrev bursarlaw19_Few.sh10 : SSh := ⟨[(1, (.pt 0 0)), (2, (.pt 1 0)), (3, (.own 2 2)), (4, (.x (.i .i64)))], [.box (.cons (.x .s) (.cons (.x (.l (.g (.p (.i .i64) .s)))) .nil)), .box (.cons (.x .s) (.cons (.own 3 2) .nil)), .arrN T_api_Field, .arrN T_api_Field]⟩
noncomputable abbrev bursarlaw19_Few.os10 : PEnds := [((.exit 0), ⟨[(1, (.pt 0 0)), (2, (.pt 1 0)), (3, (.x (.l (.g (.p (.i .i64) .s)))))], [.box (.cons (.x .s) (.cons (.x (.l (.g (.p (.i .i64) .s)))) .nil)), .box (.cons (.x .s) (.cons (.own 2 2) .nil)), .arrN T_api_Field]⟩)]
noncomputable def bursarlaw19_Few.t10 (s : (Int × (ByteArray × ((List (Int × ByteArray)) × (ByteArray × ((List (Int × ByteArray)) × (List (Int × ByteArray)))))))) : Option ((Int × (ByteArray × ((List (Int × ByteArray)) × (ByteArray × ((List (Int × ByteArray)) × (List (Int × ByteArray))))))) ⊕ (((List (Int × ByteArray)) × (ByteArray × ((List (Int × ByteArray)) × (ByteArray × (List (Int × ByteArray)))))))) := (bif (decide ((s.1 < ((List.length s.2.2.1) : Int)))) then (bif ((decide (((0 : Int) ≤ s.1))) && (decide ((s.1 < ((List.length s.2.2.1) : Int))))) then (bif (decide ((((List.getD s.2.2.1 (Int.toNat s.1) (Ty.dflt T_api_Field)).2.size : Int) > (1001 : Int)))) then (bif (true && (decide (((1001 : Int) ≤ ((List.getD s.2.2.1 (Int.toNat s.1) (Ty.dflt T_api_Field)).2.size : Int))))) then (bif ((true && (Nat.ble (((List.length s.2.2.2.2.1) + (List.length (((List.getD s.2.2.1 (Int.toNat s.1) (Ty.dflt T_api_Field)).1, (ByteArray.extract (List.getD s.2.2.1 (Int.toNat s.1) (Ty.dflt T_api_Field)).2 0 1001)) :: []))) * 24) 140737488355328)) && (Nat.ble ((List.length s.2.2.2.2.1) + (List.length (((List.getD s.2.2.1 (Int.toNat s.1) (Ty.dflt T_api_Field)).1, (ByteArray.extract (List.getD s.2.2.1 (Int.toNat s.1) (Ty.dflt T_api_Field)).2 0 1001)) :: []))) 140737488355328)) then (some (.inl ((IntKind.wrap .i64 (s.1 + (1 : Int))), (s.2.1, (s.2.2.1, (s.2.2.2.1, ((s.2.2.2.2.1 ++ (((List.getD s.2.2.1 (Int.toNat s.1) (Ty.dflt T_api_Field)).1, (ByteArray.extract (List.getD s.2.2.1 (Int.toNat s.1) (Ty.dflt T_api_Field)).2 0 1001)) :: [])), s.2.2.2.2.2))))))) else none) else none) else (bif ((true && (Nat.ble (((List.length s.2.2.2.2.1) + (List.length ((List.getD s.2.2.1 (Int.toNat s.1) (Ty.dflt T_api_Field)) :: []))) * 24) 140737488355328)) && (Nat.ble ((List.length s.2.2.2.2.1) + (List.length ((List.getD s.2.2.1 (Int.toNat s.1) (Ty.dflt T_api_Field)) :: []))) 140737488355328)) then (some (.inl ((IntKind.wrap .i64 (s.1 + (1 : Int))), (s.2.1, (s.2.2.1, (s.2.2.2.1, ((s.2.2.2.2.1 ++ ((List.getD s.2.2.1 (Int.toNat s.1) (Ty.dflt T_api_Field)) :: [])), s.2.2.2.2.2))))))) else none)) else none) else (some (.inr (s.2.2.2.2.1, (s.2.1, (s.2.2.1, (s.2.2.2.1, s.2.2.2.2.2)))))))
theorem bursarlaw19_Few.t10_ok : ∀ s : Vals bursarlaw19_Few.sh10.tys, turnK P bursarlaw19_Few.H (lp []) (bodyAt (codeOf P 10) 10) 0 bursarlaw19_Few.sh10 bursarlaw19_Few.os10 s some = bursarlaw19_Few.t10 s := by rintro ⟨s0, s1, s2, s3, s4, s5⟩; cases s4 <;> cases s5 <;> kernel_rfl
noncomputable def bursarlaw19_Few.l10 : (Int × (ByteArray × ((List (Int × ByteArray)) × (ByteArray × ((List (Int × ByteArray)) × (List (Int × ByteArray))))))) → Option (((List (Int × ByteArray)) × (ByteArray × ((List (Int × ByteArray)) × (ByteArray × (List (Int × ByteArray))))))) := rounds bursarlaw19_Few.t10
noncomputable def bursarlaw19_Few.f (a : (ByteArray × (List (Int × ByteArray)))) : Option (ByteArray × (List (Int × ByteArray))) := (bif (decide ((((List.length a.2) : Int) > (130 : Int)))) then (bif (true && (decide (((130 : Int) ≤ ((List.length a.2) : Int))))) then (bif (decide (((a.1.size : Int) > (8 : Int)))) then (bif (true && (decide (((8 : Int) ≤ (a.1.size : Int))))) then (((bursarlaw19_Few.l10 ((0 : Int), ((ByteArray.extract a.1 0 8), ((List.take 130 (List.drop 0 a.2)), ((bs []), ([], []))))))).bind fun (x1 : ((List (Int × ByteArray)) × (ByteArray × ((List (Int × ByteArray)) × (ByteArray × (List (Int × ByteArray))))))) => (match x1.2.2.2.2 with | [] => (some (x1.2.1, x1.1)) | x2 :: x3 => (some (x1.2.1, x1.1)))) else none) else (((bursarlaw19_Few.l10 ((0 : Int), (a.1, ((List.take 130 (List.drop 0 a.2)), ((bs []), ([], []))))))).bind fun (x1 : ((List (Int × ByteArray)) × (ByteArray × ((List (Int × ByteArray)) × (ByteArray × (List (Int × ByteArray))))))) => (match x1.2.2.2.2 with | [] => (some (x1.2.1, x1.1)) | x2 :: x3 => (some (x1.2.1, x1.1))))) else none) else (bif (decide (((a.1.size : Int) > (8 : Int)))) then (bif (true && (decide (((8 : Int) ≤ (a.1.size : Int))))) then (((bursarlaw19_Few.l10 ((0 : Int), ((ByteArray.extract a.1 0 8), (a.2, ((bs []), ([], []))))))).bind fun (x1 : ((List (Int × ByteArray)) × (ByteArray × ((List (Int × ByteArray)) × (ByteArray × (List (Int × ByteArray))))))) => (match x1.2.2.2.2 with | [] => (some (x1.2.1, x1.1)) | x2 :: x3 => (some (x1.2.1, x1.1)))) else none) else (((bursarlaw19_Few.l10 ((0 : Int), (a.1, (a.2, ((bs []), ([], []))))))).bind fun (x1 : ((List (Int × ByteArray)) × (ByteArray × ((List (Int × ByteArray)) × (ByteArray × (List (Int × ByteArray))))))) => (match x1.2.2.2.2 with | [] => (some (x1.2.1, x1.1)) | x2 :: x3 => (some (x1.2.1, x1.1))))))
theorem bursarlaw19_Few.ok : ∀ a : Vals bursarlaw19_Few.As.tys, fnK P bursarlaw19_Few.H (lp [(10, (NodeT.summ ⟨bursarlaw19_Few.sh10, bursarlaw19_Few.os10, bursarlaw19_Few.l10⟩ 0))]) 10 bursarlaw19_Few.As bursarlaw19_Few.m a some = bursarlaw19_Few.f a := fun a => by kernel_rfl
noncomputable abbrev bursarlaw19_Few.row : Row := fnRow 10 bursarlaw19_Few.As bursarlaw19_Few.m bursarlaw19_Few.f
theorem bursarlaw19_Few.row_ok : RowOK P G0 bursarlaw19_Few.row := row_told bursarlaw19_Few.hok (lp_of (l := [(10, (NodeT.summ ⟨bursarlaw19_Few.sh10, bursarlaw19_Few.os10, bursarlaw19_Few.l10⟩ 0))]) ⟨(loop_sum bursarlaw19_Few.hok (by kernel_rfl) (by kernel_rfl) (l := []) trivial bursarlaw19_Few.sh10 bursarlaw19_Few.os10 (by kernel_rfl) bursarlaw19_Few.t10 bursarlaw19_Few.t10_ok), trivial⟩) (fun _ => rfl) bursarlaw19_Few.ok
end Go.Proofs.YtkgnhjmbnmaboaaGreatDoor
end
section
/- Messages are packed as the document says, and parsed as they were. By this session. -/
set_option linter.unusedVariables false
set_option linter.unusedSimpArgs false
namespace Go.Proofs.YtkgnhjmbnmaboaaGreatDoor
open Go Go.Fw
abbrev Fld := Int × ByteArray
abbrev Msg := ByteArray × List Fld
theorem dflt_fld : (Ty.dflt (.g (.p (.i .i64) .s)) : Int × ByteArray) = (0, bs []) := rfl
noncomputable def pkE (f : Fld) : ByteArray × Int := (spec_Pack.f f).getD (bs [], 1)
noncomputable def pkL (f : Fld) : List UInt8 := (pkE f).1.data.toList
theorem pkE_is {f : Fld} (hs : f.2.size ≤ 5000) : spec_Pack.f f = some (pkE f) ∧ (pkL f).length ≤ 1002 ∧
    ((pkE f).2 = 0 → ∀ b : List UInt8, (pkL f ++ b).length ≤ 5000 → spec_Take.f (f.1, bs (pkL f ++ b)) = some (f.2, ((pkL f).length : Int), 0)) ∧ pkE f = (bs (pkL f), (pkE f).2) := by
  obtain ⟨n, s0⟩ := f
  obtain ⟨s, rfl⟩ : ∃ s : List UInt8, s0 = bs s := ⟨_, eq_bs s0⟩
  have hs : s.length ≤ 5000 := by simpa [bs_size] using hs
  obtain ⟨k, v, l, hR, hO, hk⟩ := of_is n
  have hp := pack_is hO hk hs
  have he : pkE (n, bs s) = (bif decide (k = 0) then (bs [], 7) else bif mayF k v l s then (bs (digs v s.length ++ s), 0) else (bs [], 16)) := by unfold pkE; rw [hp]; rfl
  refine ⟨by rw [he, hp], ?_⟩
  unfold pkL
  rw [he]
  by_cases h0 : k = 0
  · rw [decide_eq_true h0]
    exact ⟨by simp [bs_size], fun h => by simp at h, rfl⟩
  · rw [decide_eq_false h0]
    simp only [cond_false]
    cases hm : mayF k v l s
    · exact ⟨by simp [bs_size], fun h => by simp at h, rfl⟩
    · obtain ⟨h1, h2, h3, h4, h5, h6, h7, h8⟩ := mayF_len hk hm
      have hl := digs_len h3 s.length
      have e : (bs (digs v s.length ++ s)).data.toList = digs v s.length ++ s := bs_list _
      refine ⟨by simp only [cond_true, e, List.length_append]; omega, fun _ b hb => ?_, by simp only [cond_true, e]⟩
      simp only [cond_true, e] at hb ⊢
      rw [take16_is hO hk hb, decide_eq_false h0, cond_false, takeF_digs hk hm]
theorem refPkE_is {f : Fld} (hs : f.2.size ≤ 5000) : bursarref16_Pack.f f = some (pkE f) := by
  obtain ⟨n, s0⟩ := f
  obtain ⟨s, rfl⟩ : ∃ s : List UInt8, s0 = bs s := ⟨_, eq_bs s0⟩
  have hs : s.length ≤ 5000 := by simpa [bs_size] using hs
  obtain ⟨k, v, l, hR, hO, hk⟩ := of_is n
  rw [refPack_is hR hk hs]
  unfold pkE
  rw [pack_is hO hk hs]
  rfl
noncomputable def okP (l : List Fld) : Bool := (List.range l.length).all fun i => (pkE (l.getD i (0, bs []))).2 == 0
noncomputable def bodyM (l : List Fld) : List UInt8 := (l.map pkL).flatten
theorem bodyM_up (l : List Fld) {i : Nat} (h : i < l.length) : bodyM (l.take (i + 1)) = bodyM (l.take i) ++ pkL (l.getD i (0, bs [])) := by
  unfold bodyM
  rw [take_up (0, bs []) h, List.map_append, List.flatten_append]
  simp
def goodM (m : Msg) : Prop := m.2.length ≤ 130 ∧ ∀ f ∈ m.2, f.2.size ≤ 1001
theorem goodM.at {m : Msg} (h : goodM m) {i : Nat} (hi : i < m.2.length) : (m.2.getD i (0, bs [])).2.size ≤ 5000 := by
  have := h.2 (m.2.getD i (0, bs [])) (by rw [getD_at hi]; exact List.getElem_mem hi)
  omega
theorem bodyM_len {l : List Fld} (h : ∀ f ∈ l, f.2.size ≤ 1001) : (bodyM l).length ≤ 1002 * l.length := by
  unfold bodyM
  induction l with
  | nil => simp
  | cons f l ih =>
    have := (pkE_is (f := f) (by have := h f List.mem_cons_self; omega)).2.1
    have := ih fun x hx => h x (List.mem_cons_of_mem _ hx)
    simp only [List.map_cons, List.flatten_cons, List.length_append, List.length_cons]
    omega
theorem numbers_is {l : List Fld} (hl : l.length ≤ 1000) : iso_numbers.f l = some (l.map (·.1)) := by
  have h := rounds_map (t := iso_numbers.t4) l (0, bs []) (fun f : Fld => f.1) (fun acc i => (l, (l.length : Int), ((i : Nat) : Int), acc)) (fun acc => acc) (fun i hi => by
    have hm : ((l.take i).map (fun f : Fld => f.1)).length ≤ 1000 := by simp; omega
    simp only [iso_numbers.t4, inb hi, cond_true, ge0' i, Bool.and_self, Int.toNat_natCast, wrap_up (show i < 9223372036854775807 by omega), List.length_cons, List.length_nil]
    rw [Nat.ble_eq_true_of_le (by omega), Nat.ble_eq_true_of_le (by omega)]
    rfl) (fun _ _ => by simp only [iso_numbers.t4, outb, cond_false])
  have h0 : iso_numbers.l4 (l, (l.length : Int), 0, []) = some (l.map (·.1)) := h
  unfold iso_numbers.f
  rw [h0]
  rfl
theorem whose_len {s : ByteArray} {i : Nat} (h : whose s = some i) : s.size = 4 := by
  obtain ⟨h1, h2⟩ := firstI_some h
  rw [← of_decide_eq_true h2]
  exact (dec_at i h1).1
def headM (l : List Fld) : List UInt8 := octs8 (mapL (l.map (·.1)))
theorem headM_len (l : List Fld) : (headM l).length = bif wide (l.map (·.1)) then 16 else 8 := octs_size
/-- a message's octets, and the error -/
noncomputable def packF (m : Msg) : ByteArray × Int := match whose m.1 with
  | none => (bs [], 17)
  | some _ => bif mayL (m.2.map (·.1)) && okP m.2 then (bif decide (4000 < 4 + (headM m.2).length + (bodyM m.2).length) then (bs [], 9) else (bs (m.1.data.toList ++ headM m.2 ++ bodyM m.2), 0)) else (bs [], 16)
theorem pack_rounds {m : Msg} (hg : goodM m) {h : List UInt8} (hh : h.length ≤ 100) : iso_pack.l12 (bs h, m.2, (m.2.length : Int), 0) = some (bif okP m.2 then .inr (bs (h ++ bodyM m.2)) else .inl (bs [], 16)) := by
  obtain ⟨mt, l⟩ := m
  have hl : l.length ≤ 130 := hg.1
  have hf := rounds_first (t := iso_pack.t12) (fun i => (bs (h ++ bodyM (l.take i)), l, (l.length : Int), ((i : Nat) : Int))) (fun i => bif (pkE (l.getD i (0, bs []))).2 == 0 then none else some (.inl (bs [], (16 : Int)))) (.inr (bs (h ++ bodyM l))) l.length (fun i hi _ => by
    obtain ⟨p1, p2, _, p4⟩ := pkE_is (f := l.getD i (0, bs [])) (hg.at hi)
    have hb : (bodyM (l.take i)).length ≤ 1002 * (l.take i).length := bodyM_len fun f hf => hg.2 f (List.mem_of_mem_take hf)
    have hb' : (l.take i).length ≤ 130 := by simp; omega
    have hbt : (h ++ bodyM (l.take i)).length ≤ 131000 := by simp only [List.length_append]; omega
    simp only [iso_pack.t12, inb hi, cond_true, ge0' i, Bool.and_self, Int.toNat_natCast, dflt_fld, p1, Option.bind_some, bne]
    rw [bodyM_up l hi, p4]
    cases (pkE (l.getD i (0, bs []))).2 == 0
    · rfl
    · simp only [Bool.not_true, cond_false, cond_true, bs_append, bs_size, wrap_up (show i < 9223372036854775807 by omega)]
      rw [Nat.ble_eq_true_of_le (by omega), List.append_assoc]
      rfl) (fun _ => by simp only [iso_pack.t12, outb, cond_false, List.take_length])
  have hf' : iso_pack.l12 (bs (h ++ bodyM (l.take 0)), l, (l.length : Int), 0) = _ := hf
  have e0 : h ++ bodyM (l.take 0) = h := by unfold bodyM; simp
  rw [e0] at hf'
  show iso_pack.l12 (bs h, l, (l.length : Int), 0) = _
  rw [hf']
  unfold okP
  rcases find_not (n := l.length) (p := fun i => (pkE (l.getD i (0, bs []))).2 == 0) (g := fun i => Sum.inl (β := ByteArray) (bs [], (16 : Int))) with ⟨i, _, h1, h2⟩ | ⟨h1, h2⟩ <;> rw [h1, h2] <;> rfl
theorem isoPack_is {m : Msg} (hg : goodM m) : iso_Pack.f m = some (packF m) := by
  have hl := hg.1
  unfold iso_Pack.f iso_pack.f packF
  rw [mtiParse_is]
  cases hw : whose m.1 with
  | none => rfl
  | some i =>
    have h4 : m.1.data.toList.length = 4 := by have := whose_len hw; simpa using this
    have hn : (m.2.map (fun f : Fld => f.1)).length ≤ 1000 := by simp; omega
    have hh := headM_len m.2
    have hh' : (headM m.2).length ≤ 16 := by rw [hh]; cases wide (m.2.map (·.1)) <;> simp
    simp only [Option.bind_some, bne_self_eq_false, cond_false, numbers_is (show m.2.length ≤ 1000 by omega), map_is hn]
    cases mayL (m.2.map (·.1))
    · rfl
    · have ha : m.1 ++ bs (octs8 (mapL (m.2.map (·.1)))) = bs (m.1.data.toList ++ headM m.2) := by
        conv => lhs; lhs; rw [eq_bs m.1]
        rw [bs_append]; rfl
      simp only [cond_true, bne_self_eq_false, cond_false, ha]
      rw [Nat.ble_eq_true_of_le (by rw [bs_size]; have := whose_len hw; unfold headM at hh'; omega), cond_true, pack_rounds hg (by simp only [List.length_append]; omega)]
      cases okP m.2
      · rfl
      · simp only [cond_true, Option.bind_some, bs_size, Bool.and_self, BEq.rfl]
        by_cases c : 4000 < 4 + (headM m.2).length + (bodyM m.2).length
        · rw [decide_eq_true c, decide_eq_true (by simp only [List.length_append]; omega)]; rfl
        · rw [decide_eq_false c, decide_eq_false (by simp only [List.length_append]; omega)]; rfl
/-! ### parsed as it was -/
theorem parse_rounds {m : Msg} (hg : goodM m) (hok : okP m.2 = true) (hb : (bodyM m.2).length ≤ 4000) :
    iso_Parse.l20 (bs (bodyM m.2), m.2.map (·.1), ((m.2.map (·.1)).length : Int), 0, bs [], m.1, [], []) = some (.inr (bs [], bs [], m.1, [], m.2)) := by
  obtain ⟨mt, l⟩ := m
  have hl : l.length ≤ 130 := hg.1
  have drop_up : ∀ i, i < l.length → bodyM (l.drop i) = pkL (l.getD i (0, bs [])) ++ bodyM (l.drop (i + 1)) := fun i hi => by
    have hd : l.drop i = l.getD i (0, bs []) :: l.drop (i + 1) := by rw [getD_at hi, List.drop_eq_getElem_cons hi]
    rw [hd]; rfl
  have hle : ∀ i, i ≤ l.length → (bodyM (l.drop i)).length ≤ 4000 := fun i => by
    induction i with
    | zero => intro _; exact hb
    | succ i ih =>
      intro hi
      have h1 := ih (by omega)
      rw [drop_up i (by omega), List.length_append] at h1
      omega
  have hf := rounds_to (t := iso_Parse.t20) (fun i => (bs (bodyM (l.drop i)), l.map (·.1), ((l.map (·.1)).length : Int), ((i : Nat) : Int), bs [], mt, ([] : List Fld), l.take i)) l.length (fun i hi => by
    have hn : ((l.map (fun f : Fld => f.1)).length) = l.length := by simp
    have hok1 : (pkE (l.getD i (0, bs []))).2 = 0 := eq_of_beq (List.all_eq_true.1 hok i (List.mem_range.2 hi))
    obtain ⟨_, p2, p3, _⟩ := pkE_is (f := l.getD i (0, bs [])) (hg.at hi)
    have hb1 := hle i (by omega)
    rw [drop_up i hi] at hb1
    have htake := p3 hok1 (bodyM (l.drop (i + 1))) (by omega)
    have hget : (l.map (fun f : Fld => f.1)).getD i 0 = (l.getD i (0, bs [])).1 := by
      rw [getD_at hi, getD_at (by rw [hn]; exact hi), List.getElem_map]
    have hlt : (l.take i).length ≤ 130 := by simp; omega
    have hlen : (pkL (l.getD i (0, bs []))).length ≤ (pkL (l.getD i (0, bs [])) ++ bodyM (l.drop (i + 1))).length := by simp
    have hcut : ((pkL (l.getD i (0, bs [])) ++ bodyM (l.drop (i + 1))).take (pkL (l.getD i (0, bs [])) ++ bodyM (l.drop (i + 1))).length).drop (pkL (l.getD i (0, bs []))).length = bodyM (l.drop (i + 1)) := by
      rw [List.take_length, List.drop_left]
    rw [drop_up i hi]
    simp only [iso_Parse.t20, hn, inb hi, cond_true, ge0' i, Bool.and_self, Int.toNat_natCast, hget, htake, Option.bind_some, bne_self_eq_false, cond_false, bs_size, List.length_cons, List.length_nil, ge0', decide_eq_true (show (((pkL (l.getD i (0, bs []))).length : Nat) : Int) ≤ (((pkL (l.getD i (0, bs [])) ++ bodyM (l.drop (i + 1))).length : Nat) : Int) by omega), bs_extract, hcut, wrap_up (show i < 9223372036854775807 by omega)]
    rw [Nat.ble_eq_true_of_le (by omega), Nat.ble_eq_true_of_le (by omega), take_up (0, bs []) hi]
    rfl)
  have hf' : iso_Parse.l20 (bs (bodyM l), l.map (·.1), ((l.map (·.1)).length : Int), 0, bs [], mt, [], []) = rounds iso_Parse.t20 (bs (bodyM (l.drop l.length)), l.map (·.1), ((l.map (·.1)).length : Int), ((l.length : Nat) : Int), bs [], mt, ([] : List Fld), l.take l.length) := hf
  show iso_Parse.l20 (bs (bodyM l), l.map (·.1), ((l.map (·.1)).length : Int), 0, bs [], mt, [], []) = _
  rw [hf', List.take_length, List.drop_length, rounds_end (r := .inr (bs [], bs [], mt, [], l)) (by
    have hn : ((l.map (fun f : Fld => f.1)).length) = l.length := by simp
    simp only [iso_Parse.t20, hn, outb, cond_false]
    rfl)]
theorem packF_zero {m : Msg} (h : (packF m).2 = 0) : ∃ i, whose m.1 = some i ∧ mayL (m.2.map (·.1)) = true ∧ okP m.2 = true ∧ 4 + (headM m.2).length + (bodyM m.2).length ≤ 4000 ∧ (packF m).1 = bs (m.1.data.toList ++ headM m.2 ++ bodyM m.2) := by
  unfold packF at h ⊢
  cases hw : whose m.1 with
  | none => rw [hw] at h; cases h
  | some i =>
    rw [hw] at h
    simp only at h ⊢
    cases h1 : mayL (m.2.map (·.1))
    · rw [h1] at h; cases h
    · cases h2 : okP m.2
      · rw [h1, h2] at h; cases h
      · rw [h1, h2] at h
        simp only [Bool.and_self, cond_true] at h ⊢
        by_cases c : 4000 < 4 + (headM m.2).length + (bodyM m.2).length
        · rw [decide_eq_true c] at h; cases h
        · rw [decide_eq_false c]
          simp only [cond_false, and_true, true_and]
          exact ⟨i, rfl, by omega⟩
theorem isoParse_is {m : Msg} (hg : goodM m) (h : (packF m).2 = 0) : iso_Parse.f (packF m).1 = some (m, 0) := by
  obtain ⟨i, hw, hmay, hok, hle, hp⟩ := packF_zero h
  have h4 : m.1.data.toList.length = 4 := by have := whose_len hw; simpa using this
  rw [hp]
  unfold iso_Parse.f
  have hlen : (m.1.data.toList ++ headM m.2 ++ bodyM m.2).length = 4 + (headM m.2).length + (bodyM m.2).length := by simp only [List.length_append]; omega
  have c1 : ((m.1.data.toList ++ headM m.2 ++ bodyM m.2).take 4).drop 0 = m.1.data.toList := by
    rw [List.drop_zero, List.append_assoc, List.take_append_of_le_length (by omega), List.take_of_length_le (by omega)]
  have c2 : ((m.1.data.toList ++ headM m.2 ++ bodyM m.2).take (m.1.data.toList ++ headM m.2 ++ bodyM m.2).length).drop 4 = headM m.2 ++ bodyM m.2 := by
    rw [List.take_length, List.append_assoc, List.drop_append_of_le_length (by omega), List.drop_of_length_le (by omega), List.nil_append]
  have c3 : ((m.1.data.toList ++ headM m.2 ++ bodyM m.2).take (m.1.data.toList ++ headM m.2 ++ bodyM m.2).length).drop (4 + (headM m.2).length) = bodyM m.2 := by
    rw [List.take_length, show 4 + (headM m.2).length = (m.1.data.toList ++ headM m.2).length by simp only [List.length_append]; omega, List.drop_left]
  have hread : readL (headM m.2 ++ bodyM m.2) = (m.2.map (·.1), ((headM m.2).length : Int), 0) := read_map hmay _
  have hw4 : IntKind.wrap .i64 (4 + ((headM m.2).length : Int)) = ((4 + (headM m.2).length : Nat) : Int) := by rw [wrap_i64 (by omega) (by omega)]; omega
  simp only [bs_size, bs_extract, c1, c2, ← eq_bs, decide_eq_false (show ¬ ((m.1.data.toList ++ headM m.2 ++ bodyM m.2).length : Int) > 4000 by omega), decide_eq_false (show ¬ ((m.1.data.toList ++ headM m.2 ++ bodyM m.2).length : Int) < 4 by omega), decide_eq_true (show (4 : Int) ≤ ((m.1.data.toList ++ headM m.2 ++ bodyM m.2).length : Int) by omega), cond_false, cond_true, Bool.and_self, mtiParse_is, hw, Option.bind_some, bne_self_eq_false,
    read_is (s := headM m.2 ++ bodyM m.2) (by simp only [List.length_append]; omega), hread, hw4, ge0', decide_eq_true (show ((4 + (headM m.2).length : Nat) : Int) ≤ ((m.1.data.toList ++ headM m.2 ++ bodyM m.2).length : Int) by omega), Int.toNat_natCast, c3, parse_rounds hg hok (by omega)]
  obtain ⟨mt, l⟩ := m
  cases l <;> simp only [texts_nil, decide_true, Bool.not_true, cond_false]
theorem same19_is (a b : Msg) (ha : a.2.length ≤ 1000) : bursarref19_Same.f (a, b) = some (decide (a = b)) := by
  obtain ⟨t, l⟩ := a
  obtain ⟨t', l'⟩ := b
  have ha : l.length ≤ 1000 := ha
  unfold bursarref19_Same.f
  simp only [texts_eq]
  by_cases ht : t = t'
  · subst ht
    simp only [decide_true, Bool.not_true, cond_false]
    by_cases he : l.length = l'.length
    · have e : (((l.length : Nat) : Int) != ((l'.length : Nat) : Int)) = false := by rw [he]; simp
      have fld_beq : ∀ x y : Fld, ((x.1 == y.1) && ((ByteArray.toList x.2 == ByteArray.toList y.2) && true)) = decide (x = y) := fun x y => by
        obtain ⟨k, s⟩ := x
        obtain ⟨k', s'⟩ := y
        rw [texts_eq, Bool.and_true, Bool.eq_iff_iff]
        simp
      have hf := rounds_first (t := bursarref19_Same.t6) (fun i => (((i : Nat) : Int), t, l, t, l')) (fun i => bif decide (l.getD i (0, bs []) = l'.getD i (0, bs [])) then none else some (.inl false)) (.inr ()) l.length (fun i hi _ => by
        simp only [bursarref19_Same.t6, inb hi, inb (show i < l'.length by omega), cond_true, ge0' i, Bool.and_self, Int.toNat_natCast, dflt_fld, fld_beq, wrap_up (show i < 9223372036854775807 by omega)]
        cases decide (l.getD i (0, bs []) = l'.getD i (0, bs [])) <;> rfl) (fun _ => by simp only [bursarref19_Same.t6, outb, cond_false])
      have hf' : bursarref19_Same.l6 (0, t, l, t, l') = _ := hf
      simp only [e, cond_false, hf', Option.bind_some]
      have hall : (List.range l.length).all (fun i => decide (l.getD i (0, bs []) = l'.getD i (0, bs []))) = decide (l = l') := by
        rw [Bool.eq_iff_iff, List.all_eq_true, decide_eq_true_eq]
        constructor
        · intro h
          refine List.ext_getElem he fun i h1 h2 => ?_
          have := of_decide_eq_true (h i (List.mem_range.2 h1))
          rwa [getD_at h1, getD_at h2] at this
        · rintro rfl i _; exact decide_eq_true rfl
      rcases find_not (n := l.length) (p := fun i => decide (l.getD i (0, bs []) = l'.getD i (0, bs []))) (g := fun i => Sum.inl (β := Unit) false) with ⟨i, _, h1, h2⟩ | ⟨h1, h2⟩
      · rw [h1]
        rw [hall] at h2
        rw [decide_eq_false (fun h => (of_decide_eq_false h2) (congrArg Prod.snd h))]
        rfl
      · rw [h1]
        rw [hall] at h2
        rw [of_decide_eq_true h2, decide_eq_true rfl]
        rfl
    · have e : (((l.length : Nat) : Int) != ((l'.length : Nat) : Int)) = true := by simp only [bne_iff_ne, ne_eq]; omega
      have hne : ¬ ((t, l) = (t, l')) := fun h => he (congrArg (fun x : Msg => x.2.length) h)
      rw [e, decide_eq_false hne]
      rfl
  · have hne : ¬ ((t, l) = (t', l')) := fun h => ht (congrArg Prod.fst h)
    rw [decide_eq_false ht, decide_eq_false hne]
    rfl
/-! ### a message of which no more is looked at than may be -/
def cutV (f : Fld) : Fld := bif decide ((f.2.size : Int) > 1001) then (f.1, f.2.extract 0 1001) else f
theorem cutV_size (f : Fld) : (cutV f).2.size ≤ 1001 := by
  unfold cutV
  by_cases c : (f.2.size : Int) > 1001
  · rw [decide_eq_true c, cond_true, ByteArray.size_extract]; omega
  · rw [decide_eq_false c, cond_false]; omega
theorem few19_rounds {l : List Fld} (hl : l.length ≤ 130) (t : ByteArray) (z : ByteArray × List Fld × List Fld) (hz : z = (bs [], [], [])) :
    bursarlaw19_Few.l10 (0, t, l, z) = some (l.map cutV, t, l, bs [], []) := by
  subst hz
  have h := rounds_map (t := bursarlaw19_Few.t10) l (0, bs []) cutV (fun acc i => (((i : Nat) : Int), t, l, bs [], acc, ([] : List Fld))) (fun acc => (acc, t, l, bs [], ([] : List Fld))) (fun i hi => by
    have hm : ((l.take i).map cutV).length ≤ 1000 := by simp; omega
    unfold bursarlaw19_Few.t10
    rw [dflt_fld]
    simp only [inb hi, cond_true, ge0' i, Bool.and_self, Int.toNat_natCast, wrap_up (show i < 9223372036854775807 by omega), List.length_cons, List.length_nil]
    rw [Nat.ble_eq_true_of_le (by omega), Nat.ble_eq_true_of_le (by omega)]
    unfold cutV
    by_cases c : ((l.getD i (0, bs [])).2.size : Int) > 1001
    · rw [decide_eq_true c, decide_eq_true (show (1001 : Int) ≤ ((l.getD i (0, bs [])).2.size : Int) by omega)]
      rfl
    · rw [decide_eq_false c]
      rfl) (fun _ _ => by simp only [bursarlaw19_Few.t10, outb, cond_false])
  exact h
theorem few19_is (m : Msg) : ∃ x, bursarlaw19_Few.f m = some x ∧ goodM x := by
  obtain ⟨t, l⟩ := m
  have good : ∀ (t : ByteArray) (l : List Fld), l.length ≤ 130 → goodM (t, l.map cutV) := fun t l h => ⟨by simpa using h, fun f hf => by
    obtain ⟨g, _, rfl⟩ := List.mem_map.1 hf
    exact cutV_size g⟩
  have hc : (List.take 130 (List.drop 0 l)).length ≤ 130 := by simp; omega
  unfold bursarlaw19_Few.f
  by_cases c1 : (l.length : Int) > 130
  · by_cases c2 : (t.size : Int) > 8
    · simp only [decide_eq_true c1, decide_eq_true (show (130 : Int) ≤ (l.length : Int) by omega), decide_eq_true c2, decide_eq_true (show (8 : Int) ≤ (t.size : Int) by omega), Bool.and_self, cond_true, few19_rounds hc _ _ rfl, Option.bind_some]
      exact ⟨_, rfl, good _ _ hc⟩
    · simp only [decide_eq_true c1, decide_eq_true (show (130 : Int) ≤ (l.length : Int) by omega), decide_eq_false c2, Bool.and_self, cond_true, cond_false, few19_rounds hc _ _ rfl, Option.bind_some]
      exact ⟨_, rfl, good _ _ hc⟩
  · by_cases c2 : (t.size : Int) > 8
    · simp only [decide_eq_false c1, decide_eq_true c2, decide_eq_true (show (8 : Int) ≤ (t.size : Int) by omega), Bool.and_self, cond_true, cond_false, few19_rounds (show l.length ≤ 130 by omega) _ _ rfl, Option.bind_some]
      exact ⟨_, rfl, good _ _ (by omega)⟩
    · simp only [decide_eq_false c1, decide_eq_false c2, Bool.and_self, cond_true, cond_false, few19_rounds (show l.length ≤ 130 by omega) _ _ rfl, Option.bind_some]
      exact ⟨_, rfl, good _ _ (by omega)⟩
end Go.Proofs.YtkgnhjmbnmaboaaGreatDoor
end
section
/- The Go function iso.Check, as a Lean function, and that it is this one. Written by a program of this session. -/
set_option linter.unusedVariables false
set_option maxRecDepth 100000
namespace Go.Proofs.YtkgnhjmbnmaboaaGreatDoor
open Go Go.Fw
abbrev iso_Check.As : Shs := (.cons (.x T_api_Message) .nil)
abbrev iso_Check.m : Back := [(false, (.i .i64))]
noncomputable abbrev iso_Check.H : HK := hk P G1 E0 J0 [iso_Pack.row] noLoops 4
theorem iso_Check.rows : TabOK P G1 (tabF [iso_Pack.row]) := rows_ok (ws := [iso_Pack.row]) ⟨iso_Pack.row_ok, trivial⟩
theorem iso_Check.hok : HKOK P iso_Check.H := hk_ok e0_ok j0_ok iso_Check.rows (fun g n => noLoops_ok g n) 4
noncomputable def iso_Check.f (a : (ByteArray × (List (Int × ByteArray)))) : Option Int := (((iso_Pack.f a)).bind fun (x1 : (ByteArray × Int)) => (some x1.2))
theorem iso_Check.ok : ∀ a : Vals iso_Check.As.tys, fnK P iso_Check.H (lp []) 13 iso_Check.As iso_Check.m a some = iso_Check.f a := fun a => by kernel_rfl
noncomputable abbrev iso_Check.row : Row := fnRow 13 iso_Check.As iso_Check.m iso_Check.f
theorem iso_Check.row_ok : RowOK P G1 iso_Check.row := row_told iso_Check.hok (lp_of (l := []) trivial) (fun _ => rfl) iso_Check.ok
end Go.Proofs.YtkgnhjmbnmaboaaGreatDoor
end
section
/- The Go function bursarref19.Pack, as a Lean function, and that it is this one. Written by a program of this session. -/
set_option linter.unusedVariables false
set_option maxRecDepth 100000
namespace Go.Proofs.YtkgnhjmbnmaboaaGreatDoor
open Go Go.Fw
abbrev bursarref19_Pack.As : Shs := (.cons (.x T_api_Message) .nil)
abbrev bursarref19_Pack.m : Back := [(false, .s), (false, (.i .i64))]
noncomputable abbrev bursarref19_Pack.H : HK := hk P G0 E0 J0 [bursarref18_Parse.row, bursarref16_Pack.row, bursarref17_May.row, bursarref17_Map.row] noLoops 4
theorem bursarref19_Pack.rows : TabOK P G0 (tabF [bursarref18_Parse.row, bursarref16_Pack.row, bursarref17_May.row, bursarref17_Map.row]) := rows_ok (ws := [bursarref18_Parse.row, bursarref16_Pack.row, bursarref17_May.row, bursarref17_Map.row]) ⟨bursarref18_Parse.row_ok, ⟨bursarref16_Pack.row_ok, ⟨bursarref17_May.row_ok, ⟨bursarref17_Map.row_ok, trivial⟩⟩⟩⟩
theorem bursarref19_Pack.hok : HKOK P bursarref19_Pack.H := hk_ok e0_ok j0_ok bursarref19_Pack.rows (fun g n => noLoops_ok g n) 4
noncomputable abbrev bursarref19_Pack.sh9 : SSh := ⟨[(1, (.pt 0 0)), (6, (.own 1 1)), (7, (.x .s)), (8, (.x (.i .i64)))], [.box (.cons (.x .s) (.cons (.x (.l (.g (.p (.i .i64) .s)))) .nil)), .arrN (.i .i64)]⟩
noncomputable abbrev bursarref19_Pack.os9 : PEnds := [(.ret, ⟨[(2, (.x .s)), (3, (.x (.i .i64)))], []⟩), ((.exit 0), ⟨[(1, (.pt 0 0)), (6, (.x (.l (.i .i64)))), (7, (.x .s))], [.box (.cons (.x .s) (.cons (.x (.l (.g (.p (.i .i64) .s)))) .nil))]⟩)]
noncomputable def bursarref19_Pack.t9 (s : (ByteArray × (Int × (ByteArray × ((List (Int × ByteArray)) × (List Int)))))) : Option ((ByteArray × (Int × (ByteArray × ((List (Int × ByteArray)) × (List Int))))) ⊕ ((ByteArray × Int) ⊕ ((List Int) × (ByteArray × (ByteArray × (List (Int × ByteArray))))))) := (bif (decide ((s.2.1 < ((List.length s.2.2.2.1) : Int)))) then (bif ((decide (((0 : Int) ≤ s.2.1))) && (decide ((s.2.1 < ((List.length s.2.2.2.1) : Int))))) then (bif ((decide (((0 : Int) ≤ s.2.1))) && (decide ((s.2.1 < ((List.length s.2.2.2.1) : Int))))) then (((bursarref16_Pack.f (List.getD s.2.2.2.1 (Int.toNat s.2.1) (Ty.dflt T_api_Field)))).bind fun (x6 : (ByteArray × Int)) => (bif (x6.2 != (0 : Int)) then (some (.inr (.inl ((bs []), (16 : Int))))) else (bif ((decide (((0 : Int) ≤ s.2.1))) && (decide ((s.2.1 < ((List.length s.2.2.2.1) : Int))))) then (bif ((true && (Nat.ble (((List.length s.2.2.2.2) + (List.length ((List.getD s.2.2.2.1 (Int.toNat s.2.1) (Ty.dflt T_api_Field)).1 :: []))) * 8) 140737488355328)) && (Nat.ble ((List.length s.2.2.2.2) + (List.length ((List.getD s.2.2.2.1 (Int.toNat s.2.1) (Ty.dflt T_api_Field)).1 :: []))) 140737488355328)) then (bif (Nat.ble (s.1.size + x6.1.size) 9223372036854775807) then (some (.inl ((s.1 ++ x6.1), ((IntKind.wrap .i64 (s.2.1 + (1 : Int))), (s.2.2.1, (s.2.2.2.1, (s.2.2.2.2 ++ ((List.getD s.2.2.2.1 (Int.toNat s.2.1) (Ty.dflt T_api_Field)).1 :: [])))))))) else none) else none) else none))) else none) else none) else (some (.inr (.inr (s.2.2.2.2, (s.1, (s.2.2.1, s.2.2.2.1)))))))
theorem bursarref19_Pack.t9_ok : ∀ s : Vals bursarref19_Pack.sh9.tys, turnK P bursarref19_Pack.H (lp []) (bodyAt (codeOf P 12) 9) 0 bursarref19_Pack.sh9 bursarref19_Pack.os9 s some = bursarref19_Pack.t9 s := by rintro ⟨s0, s1, s2, s3, s4⟩; cases s4 <;> kernel_rfl
noncomputable def bursarref19_Pack.l9 : (ByteArray × (Int × (ByteArray × ((List (Int × ByteArray)) × (List Int))))) → Option ((ByteArray × Int) ⊕ ((List Int) × (ByteArray × (ByteArray × (List (Int × ByteArray)))))) := rounds bursarref19_Pack.t9
noncomputable def bursarref19_Pack.f (a : (ByteArray × (List (Int × ByteArray)))) : Option (ByteArray × Int) := (((bursarref18_Parse.f a.1)).bind fun (x1 : ((Int × (Bool × (Bool × Bool))) × Bool)) => (bif (!x1.2) then (some ((bs []), (17 : Int))) else (((bursarref19_Pack.l9 ((bs []), ((0 : Int), (a.1, (a.2, [])))))).bind fun (x2 : ((ByteArray × Int) ⊕ ((List Int) × (ByteArray × (ByteArray × (List (Int × ByteArray))))))) => (match x2 with | .inl x3 => (some x3) | .inr x3 => (((bursarref17_May.f x3.1)).bind fun (x4 : Bool) => (bif (!x4) then (some ((bs []), (16 : Int))) else (((bursarref17_Map.f x3.1)).bind fun (x5 : ByteArray) => (bif (Nat.ble (x3.2.2.1.size + x5.size) 9223372036854775807) then (bif (Nat.ble ((x3.2.2.1 ++ x5).size + x3.2.1.size) 9223372036854775807) then (bif (decide (((((x3.2.2.1 ++ x5) ++ x3.2.1).size : Int) > (4000 : Int)))) then (some ((bs []), (9 : Int))) else (some (((x3.2.2.1 ++ x5) ++ x3.2.1), (0 : Int)))) else none) else none))))))))
theorem bursarref19_Pack.ok : ∀ a : Vals bursarref19_Pack.As.tys, fnK P bursarref19_Pack.H (lp [(9, (NodeT.summ ⟨bursarref19_Pack.sh9, bursarref19_Pack.os9, bursarref19_Pack.l9⟩ 0))]) 12 bursarref19_Pack.As bursarref19_Pack.m a some = bursarref19_Pack.f a := fun a => by kernel_rfl
noncomputable abbrev bursarref19_Pack.row : Row := fnRow 12 bursarref19_Pack.As bursarref19_Pack.m bursarref19_Pack.f
theorem bursarref19_Pack.row_ok : RowOK P G0 bursarref19_Pack.row := row_told bursarref19_Pack.hok (lp_of (l := [(9, (NodeT.summ ⟨bursarref19_Pack.sh9, bursarref19_Pack.os9, bursarref19_Pack.l9⟩ 0))]) ⟨(loop_sum bursarref19_Pack.hok (by kernel_rfl) (by kernel_rfl) (l := []) trivial bursarref19_Pack.sh9 bursarref19_Pack.os9 (by kernel_rfl) bursarref19_Pack.t9 bursarref19_Pack.t9_ok), trivial⟩) (fun _ => rfl) bursarref19_Pack.ok
end Go.Proofs.YtkgnhjmbnmaboaaGreatDoor
end
section
/- The Go function bursarlaw19.awake, as a Lean function, and that it is this one. Written by a program of this session. -/
set_option linter.unusedVariables false
set_option maxRecDepth 100000
namespace Go.Proofs.YtkgnhjmbnmaboaaGreatDoor
open Go Go.Fw
abbrev bursarlaw19_awake.As : Shs := .nil
abbrev bursarlaw19_awake.m : Back := [(false, .b)]
noncomputable abbrev bursarlaw19_awake.H : HK := hk P G1 E0 J0 [iso_Pack.row, iso_Parse.row, bursarref19_Same.row] noLoops 4
theorem bursarlaw19_awake.rows : TabOK P G1 (tabF [iso_Pack.row, iso_Parse.row, bursarref19_Same.row]) := rows_ok (ws := [iso_Pack.row, iso_Parse.row, bursarref19_Same.row]) ⟨iso_Pack.row_ok, ⟨iso_Parse.row_ok, ⟨(bursarref19_Same.row_ok.more g01), trivial⟩⟩⟩
theorem bursarlaw19_awake.hok : HKOK P bursarlaw19_awake.H := hk_ok e0_ok j0_ok bursarlaw19_awake.rows (fun g n => noLoops_ok g n) 4
noncomputable def bursarlaw19_awake.f (a : Unit) : Option Bool := (((iso_Pack.f ((bs [48, 56, 48, 48]), [((70 : Int), (bs [51, 48, 49]))]))).bind fun (x0 : (ByteArray × Int)) => (((iso_Parse.f x0.1)).bind fun (x1 : ((ByteArray × (List (Int × ByteArray))) × Int)) => (((iso_Parse.f (bs [48, 56, 48, 48]))).bind fun (x2 : ((ByteArray × (List (Int × ByteArray))) × Int)) => (bif ((x0.1.size : Int) == (23 : Int)) then (bif (true && (decide (((4 : Int) ≤ (x0.1.size : Int))))) then (bif ((ByteArray.toList (ByteArray.extract x0.1 0 4)) == [(48 : UInt8), (56 : UInt8), (48 : UInt8), (48 : UInt8)]) then (bif (true && (decide (((20 : Int) ≤ (x0.1.size : Int))))) then (bif ((ByteArray.toList (ByteArray.extract x0.1 20 x0.1.size)) == [(51 : UInt8), (48 : UInt8), (49 : UInt8)]) then (bif (x0.2 == (0 : Int)) then (((bursarref19_Same.f (x1.1, ((bs [48, 56, 48, 48]), [((70 : Int), (bs [51, 48, 49]))])))).bind fun (x3 : Bool) => (bif x3 then (bif (x1.2 == (0 : Int)) then (bif (x2.2 == (3 : Int)) then (some true) else (some false)) else (some false)) else (some false))) else (some false)) else (some false)) else none) else (some false)) else none) else (some false)))))
theorem bursarlaw19_awake.ok : ∀ a : Vals bursarlaw19_awake.As.tys, fnK P bursarlaw19_awake.H (lp []) 14 bursarlaw19_awake.As bursarlaw19_awake.m a some = bursarlaw19_awake.f a := fun a => by kernel_rfl
noncomputable abbrev bursarlaw19_awake.row : Row := fnRow 14 bursarlaw19_awake.As bursarlaw19_awake.m bursarlaw19_awake.f
theorem bursarlaw19_awake.row_ok : RowOK P G1 bursarlaw19_awake.row := row_told bursarlaw19_awake.hok (lp_of (l := []) trivial) (fun _ => rfl) bursarlaw19_awake.ok
end Go.Proofs.YtkgnhjmbnmaboaaGreatDoor
end
section
/- The Go function bursarlaw19.IsoPacks, as a Lean function, and that it is this one. Written by a program of this session. -/
set_option linter.unusedVariables false
set_option maxRecDepth 100000
namespace Go.Proofs.YtkgnhjmbnmaboaaGreatDoor
open Go Go.Fw
abbrev bursarlaw19_IsoPacks.As : Shs := (.cons (.x T_api_Message) .nil)
abbrev bursarlaw19_IsoPacks.m : Back := [(false, .b)]
noncomputable abbrev bursarlaw19_IsoPacks.H : HK := hk P G1 E0 J0 [bursarlaw19_Few.row, iso_Pack.row, bursarref19_Pack.row, iso_Check.row, bursarlaw19_awake.row, iso_Parse.row, bursarref19_Same.row] noLoops 4
theorem bursarlaw19_IsoPacks.rows : TabOK P G1 (tabF [bursarlaw19_Few.row, iso_Pack.row, bursarref19_Pack.row, iso_Check.row, bursarlaw19_awake.row, iso_Parse.row, bursarref19_Same.row]) := rows_ok (ws := [bursarlaw19_Few.row, iso_Pack.row, bursarref19_Pack.row, iso_Check.row, bursarlaw19_awake.row, iso_Parse.row, bursarref19_Same.row]) ⟨(bursarlaw19_Few.row_ok.more g01), ⟨iso_Pack.row_ok, ⟨(bursarref19_Pack.row_ok.more g01), ⟨iso_Check.row_ok, ⟨bursarlaw19_awake.row_ok, ⟨iso_Parse.row_ok, ⟨(bursarref19_Same.row_ok.more g01), trivial⟩⟩⟩⟩⟩⟩⟩
theorem bursarlaw19_IsoPacks.hok : HKOK P bursarlaw19_IsoPacks.H := hk_ok e0_ok j0_ok bursarlaw19_IsoPacks.rows (fun g n => noLoops_ok g n) 4
noncomputable def bursarlaw19_IsoPacks.f (a : (ByteArray × (List (Int × ByteArray)))) : Option Bool := (((bursarlaw19_Few.f a)).bind fun (x1 : (ByteArray × (List (Int × ByteArray)))) => (((iso_Pack.f x1)).bind fun (x2 : (ByteArray × Int)) => (((bursarref19_Pack.f x1)).bind fun (x3 : (ByteArray × Int)) => (bif (!((ByteArray.toList x2.1) == (ByteArray.toList x3.1))) then (some false) else (bif (x2.2 != x3.2) then (some false) else (((iso_Check.f x1)).bind fun (x4 : Int) => (bif (x4 != x3.2) then (some false) else (bif (x3.2 != (0 : Int)) then (((bursarlaw19_awake.f ())).bind fun (x5 : Bool) => (some x5)) else (((iso_Parse.f x2.1)).bind fun (x5 : ((ByteArray × (List (Int × ByteArray))) × Int)) => (((bursarref19_Same.f (x5.1, x1))).bind fun (x6 : Bool) => (bif x6 then (bif (x5.2 == (0 : Int)) then (((bursarlaw19_awake.f ())).bind fun (x7 : Bool) => (some x7)) else (some false)) else (some false))))))))))))
theorem bursarlaw19_IsoPacks.ok : ∀ a : Vals bursarlaw19_IsoPacks.As.tys, fnK P bursarlaw19_IsoPacks.H (lp []) 3 bursarlaw19_IsoPacks.As bursarlaw19_IsoPacks.m a some = bursarlaw19_IsoPacks.f a := fun a => by kernel_rfl
noncomputable abbrev bursarlaw19_IsoPacks.row : Row := fnRow 3 bursarlaw19_IsoPacks.As bursarlaw19_IsoPacks.m bursarlaw19_IsoPacks.f
theorem bursarlaw19_IsoPacks.row_ok : RowOK P G1 bursarlaw19_IsoPacks.row := row_told bursarlaw19_IsoPacks.hok (lp_of (l := []) trivial) (fun _ => rfl) bursarlaw19_IsoPacks.ok
end Go.Proofs.YtkgnhjmbnmaboaaGreatDoor
end
section
/- IsoPacks: plain law. By this session. -/
set_option linter.unusedVariables false
set_option linter.unusedSimpArgs false
namespace Go.Proofs.YtkgnhjmbnmaboaaGreatDoor
open Go Go.Fw
theorem refPack_rounds {m : Msg} (hg : goodM m) : bursarref19_Pack.l9 (bs [], 0, m.1, m.2, []) = some (bif okP m.2 then .inr (m.2.map (·.1), bs (bodyM m.2), m.1, m.2) else .inl (bs [], 16)) := by
  obtain ⟨mt, l⟩ := m
  have hl : l.length ≤ 130 := hg.1
  have hf := rounds_first (t := bursarref19_Pack.t9) (fun i => (bs (bodyM (l.take i)), ((i : Nat) : Int), mt, l, (l.take i).map (·.1))) (fun i => bif (pkE (l.getD i (0, bs []))).2 == 0 then none else some (.inl (bs [], (16 : Int)))) (.inr (l.map (·.1), bs (bodyM l), mt, l)) l.length (fun i hi _ => by
    have p1 := refPkE_is (f := l.getD i (0, bs [])) (hg.at hi)
    obtain ⟨_, p2, _, p4⟩ := pkE_is (f := l.getD i (0, bs [])) (hg.at hi)
    have hb : (bodyM (l.take i)).length ≤ 1002 * (l.take i).length := bodyM_len fun f hf => hg.2 f (List.mem_of_mem_take hf)
    have hb' : (l.take i).length ≤ 130 := by simp; omega
    have hm : ((l.take i).map (fun f : Fld => f.1)).length ≤ 130 := by simp; omega
    have hup : (l.take (i + 1)).map (fun f : Fld => f.1) = (l.take i).map (fun f : Fld => f.1) ++ [(l.getD i (0, bs [])).1] := by rw [take_up (0, bs []) hi, List.map_append]; rfl
    simp only [bursarref19_Pack.t9, inb hi, cond_true, ge0' i, Bool.and_self, Int.toNat_natCast, dflt_fld, p1, Option.bind_some, bne]
    rw [bodyM_up l hi, hup, p4]
    cases (pkE (l.getD i (0, bs []))).2 == 0
    · rfl
    · simp only [Bool.not_true, cond_false, cond_true, bs_append, bs_size, wrap_up (show i < 9223372036854775807 by omega), List.length_cons, List.length_nil]
      rw [Nat.ble_eq_true_of_le (by omega), Nat.ble_eq_true_of_le (by omega), Nat.ble_eq_true_of_le (by omega)]
      rfl) (fun _ => by simp only [bursarref19_Pack.t9, outb, cond_false, List.take_length])
  have hf' : bursarref19_Pack.l9 (bs [], 0, mt, l, []) = _ := hf
  show bursarref19_Pack.l9 (bs [], 0, mt, l, []) = _
  rw [hf']
  unfold okP
  rcases find_not (n := l.length) (p := fun i => (pkE (l.getD i (0, bs []))).2 == 0) (g := fun i => Sum.inl (β := List Int × ByteArray × ByteArray × List Fld) (bs [], (16 : Int))) with ⟨i, _, h1, h2⟩ | ⟨h1, h2⟩ <;> rw [h1, h2] <;> rfl
theorem refIsoPack_is {m : Msg} (hg : goodM m) : bursarref19_Pack.f m = some (packF m) := by
  have hl := hg.1
  unfold bursarref19_Pack.f packF
  rw [mtiRefParse_is]
  cases hw : whose m.1 with
  | none => rfl
  | some i =>
    have h4 : m.1.data.toList.length = 4 := by have := whose_len hw; simpa using this
    have hn : (m.2.map (fun f : Fld => f.1)).length ≤ 1000 := by simp; omega
    have hh := headM_len m.2
    have hh' : (headM m.2).length ≤ 16 := by rw [hh]; cases wide (m.2.map (·.1)) <;> simp
    have hb : (bodyM m.2).length ≤ 1002 * m.2.length := bodyM_len hg.2
    simp only [Option.bind_some, Bool.not_true, cond_false, refPack_rounds hg]
    cases okP m.2
    · rw [Bool.and_false]; rfl
    · simp only [cond_true, Option.bind_some, refMay_is (show (m.2.map (fun f : Fld => f.1)).length < 9223372036854775807 by omega)]
      cases hmay : mayL (m.2.map (·.1))
      · rfl
      · have ha : m.1 ++ bs (octs8 (mapL (m.2.map (·.1)))) = bs (m.1.data.toList ++ headM m.2) := by
          conv => lhs; lhs; rw [eq_bs m.1]
          rw [bs_append]; rfl
        simp only [Bool.not_true, cond_false, refMap_is hn hmay, Option.bind_some, ha, bs_append, bs_size, Bool.and_self, cond_true]
        have hs4 := whose_len hw
        rw [Nat.ble_eq_true_of_le (by unfold headM at hh'; omega), Nat.ble_eq_true_of_le (by simp only [List.length_append]; omega)]
        simp only [cond_true]
        by_cases c : 4000 < 4 + (headM m.2).length + (bodyM m.2).length
        · rw [decide_eq_true c, decide_eq_true (by simp only [List.length_append]; omega)]; rfl
        · rw [decide_eq_false c, decide_eq_false (by simp only [List.length_append]; omega)]; rfl
theorem aw19a : mayL [70] = true ∧ octs8 (mapL [70]) = [128, 0, 0, 0, 0, 0, 0, 0, 4, 0, 0, 0, 0, 0, 0, 0] := ⟨by kernel_rfl, by kernel_rfl⟩
theorem aw19b : whose (bs [48, 56, 48, 48]) = some 27 := by decide +kernel
theorem aw19c : bursarref16_Of.f 70 = some (1, 0, 3) := by kernel_rfl
theorem aw19d : mayF 1 0 3 [51, 48, 49] = true := by decide +kernel
theorem pk70 : pkE (70, bs [51, 48, 49]) = (bs [51, 48, 49], 0) := by
  obtain ⟨k, v, l, hR, hO, hk⟩ := of_is 70
  have e := hR.symm.trans aw19c
  injection e with e
  injection e with e1 e
  injection e with e2 e3
  subst e1 e2 e3
  unfold pkE
  rw [pack_is hO hk (by simp), aw19d]
  rfl
theorem awM : goodM (bs [48, 56, 48, 48], [((70 : Int), bs [51, 48, 49])]) := ⟨by simp, fun f hf => by
  rcases List.mem_cons.1 hf with rfl | hf
  · simp [bs_size]
  · cases hf⟩
theorem awP : packF (bs [48, 56, 48, 48], [((70 : Int), bs [51, 48, 49])]) = (bs [48, 56, 48, 48, 128, 0, 0, 0, 0, 0, 0, 0, 4, 0, 0, 0, 0, 0, 0, 0, 51, 48, 49], 0) := by
  have hb : bodyM [((70 : Int), bs [51, 48, 49])] = [51, 48, 49] := by
    show pkL (70, bs [51, 48, 49]) ++ [] = _
    unfold pkL
    rw [pk70, bs_list, List.append_nil]
  have hh : headM [((70 : Int), bs [51, 48, 49])] = [128, 0, 0, 0, 0, 0, 0, 0, 4, 0, 0, 0, 0, 0, 0, 0] := aw19a.2
  have ho : okP [((70 : Int), bs [51, 48, 49])] = true := by
    show ((pkE (70, bs [51, 48, 49])).2 == 0 && true) = true
    rw [pk70]; rfl
  have hm : mayL ([((70 : Int), bs [51, 48, 49])].map (·.1)) = true := aw19a.1
  unfold packF
  simp only [aw19b, hm, ho, hb, hh, bs_list]
  rfl
theorem read_nil : readL [] = ([], 0, 3) := by decide +kernel
theorem parse_short : iso_Parse.f (bs [48, 56, 48, 48]) = some ((bs [], []), 3) := by
  have r := read_is (s := []) (by simp)
  rw [read_nil] at r
  unfold iso_Parse.f
  simp only [bs_size, bs_extract, List.length_cons, List.length_nil]
  show (mti_Parse.f (bs [48, 56, 48, 48])).bind _ = _
  rw [mtiParse_is, aw19b]
  show (bitmap_Read.f (bs [])).bind _ = _
  rw [r]
  rfl
theorem awake19 : bursarlaw19_awake.f () = some true := by
  have h1 := isoPack_is awM
  have h2 := isoParse_is awM (by rw [awP])
  rw [awP] at h1 h2
  have h3 := same19_is (bs [48, 56, 48, 48], [((70 : Int), bs [51, 48, 49])]) (bs [48, 56, 48, 48], [((70 : Int), bs [51, 48, 49])]) (by simp)
  rw [decide_eq_true rfl] at h3
  unfold bursarlaw19_awake.f
  simp only [h1, h2, parse_short, Option.bind_some, bs_size, bs_extract, texts_list, h3]
  rfl
theorem IsoPacks_is (a : Msg) : bursarlaw19_IsoPacks.f a = some true := by
  obtain ⟨m, hm, hg⟩ := few19_is a
  unfold bursarlaw19_IsoPacks.f iso_Check.f
  simp only [hm, Option.bind_some, isoPack_is hg, refIsoPack_is hg, texts_eq, decide_true, Bool.not_true, cond_false, bne_self_eq_false, awake19]
  by_cases h0 : (packF m).2 = 0
  · rw [h0]
    simp only [bne_self_eq_false, cond_false, isoParse_is hg h0, Option.bind_some, same19_is m m (by have := hg.1; omega), decide_true, cond_true, BEq.rfl]
  · have e : ((packF m).2 != 0) = true := by simpa using h0
    rw [e]
    rfl
end Go.Proofs.YtkgnhjmbnmaboaaGreatDoor
end
section
/- Small laws for walks by hand. By this session. -/
set_option linter.unusedVariables false
namespace Go.Fw
variable {P : Program}
theorem run_append_nothing (w : World) {t ty e : TypeId} {i : TypeInfo} (ht : P.underlying t = some (.slice e)) (hi : P.info? e = some i) (ad ad' : Option Addr) (len cap c : Nat) (hle : len ≤ cap) :
    (Builtin.append_ #[t, t] ty #[.slice ad len cap, .slice ad' 0 c]).run P w = .ok (.slice ad len cap) w := by
  have hlen : ∀ w : World, (Builtin.lenOf (.slice ad' 0 c)).run P w = .ok 0 w := fun w => by simp [Builtin.lenOf]
  have hfirst : ∀ w : World, (Builtin.firstCells i.size 0 (.slice ad' 0 c)).run P w = .ok #[] w := fun w => by cases ad' <;> simp [Builtin.firstCells, loadCells, loadCellsFrom]
  cases ad with
  | none => simp [Builtin.append_, run_underlying ht, sizeOf, typeInfo, hi, hlen, hle, hfirst]
  | some a => exact run_append_room' (P := P) w t t ty e i _ ht ht (.inr ⟨e, rfl⟩) hi a len cap 0 _ #[] hlen (hfirst _) (by omega) (by simp [storeCells])
theorem wpList_append_nothing {ops : Array Oper} {rest : List Oper} {o : Oper} {a : Act} {w : World} {Q : Exit → Act → World → Prop} (hgd : o.guard = none) (s x : Operand) (t e : TypeId) (i : TypeInfo)
    (ho : o.op = .call { callee := .builtin .append, args := #[s, x], argTypes := #[t, t] }) (ht : P.underlying t = some (.slice e)) (hi : P.info? e = some i)
    (ad ad' : Option Addr) (len cap c : Nat) (hs : a.eval s = .slice ad len cap) (hx : a.eval x = .slice ad' 0 c) (hle : len ≤ cap)
    (h : wpList P ops Q rest (a.put o.dst (.slice ad len cap)) w) : wpList P ops Q (o :: rest) a w := by
  refine wpList_plain hgd fun K hK => ?_
  have hr := run_append_nothing (P := P) w (ty := o.type) ht hi ad ad' len cap c hle
  unfold Oper.wp execOp
  simp only [ho, resolve, invoke, builtin, Sem.run_bind, Sem.run_pure, Result.andThen_ok, List.map_toArray, List.map_cons, List.map_nil, hs, hx, hr]
  exact hK _ _ h
end Go.Fw
end
section
/- slices.Clone of a list, as a row. By this session. -/
set_option linter.unusedVariables false
set_option maxRecDepth 100000
namespace Go.Proofs.YtkgnhjmbnmaboaaGreatDoor
open Go Go.Fw Go.RowKit
set_option maxHeartbeats 1000000 in
theorem slices_Clone_api_Field_api_Field.zero (w : World) (ad : Option Addr) (cap : Nat) (hc : ad = none → cap = 0) : Calls Tryz.prog 51 #[.slice ad 0 cap] w fun e w' => ∃ ad', e = .returned (.slice ad' 0 0) ∧ w.heap.size ≤ w'.heap.size ∧ (∀ b, b < w.heap.size → w'.heap[b]? = w.heap[b]?) ∧ w'.os = w.os ∧ w'.tape = w.tape ∧ w'.output = w.output := by
  have q : ∀ (w : World) (a : Option Addr) (n c n' c' : Nat), (binOp .eql 22 (.slice a n c) (.slice none n' c')).run Tryz.prog w = .ok (.bool a.isNone) w := fun w a n c n' c' => Lib.run_eql_slice_nil w _ _ a n c n' c' Tryz.underlying22
  have u : ∀ w, Sem.run Tryz.prog (underlying 22) w = .ok (TypeDesc.slice 43) w := run_underlying Tryz.underlying22
  have hs : (Tryz.prog.info? 43).isSome = true := by kernel_rfl
  obtain ⟨i0, hi⟩ := Option.isSome_iff_exists.1 hs
  cases ad with
  | none =>
    obtain rfl := hc rfl
    go_enter Tryz.func51, Tryz.ntmps51
    go_wp2
    go_ret
    exact ⟨⟨none, rfl⟩, Nat.le_refl _, fun _ _ => rfl, rfl, rfl, rfl⟩
  | some a =>
    go_enter Tryz.func51, Tryz.ntmps51
    go_wp2_with (at_builtin; refine wpList_append_nothing rfl _ _ 22 43 i0 rfl Tryz.underlying22 hi _ (some a) 0 _ cap rfl rfl (Nat.le_refl _) ?_)
    go_ret
    refine ⟨_, rfl, ?_, fun b hb => ?_, rfl, rfl, rfl⟩
    · show w.heap.size ≤ (w.heap.push _).size; simp
    · show (w.heap.push _)[b]? = _
      rw [Array.getElem?_push, if_neg (by omega)]
noncomputable def slices_Clone_api_Field_api_Field.f (l : List (T_api_Field : Ty).den) : Option (List (T_api_Field : Ty).den) := bif (Nat.ble ((0 + l.length) * 24) 140737488355328 && Nat.ble (0 + l.length) 140737488355328) then some l else none
noncomputable abbrev slices_Clone_api_Field_api_Field.H : HK := hk P G0 E0 J0 [] noLoops 4
theorem slices_Clone_api_Field_api_Field.hok : HKOK P slices_Clone_api_Field_api_Field.H := hk_ok e0_ok j0_ok (rows_ok (ws := []) trivial) (fun g n => noLoops_ok g n) 4
theorem slices_Clone_api_Field_api_Field.cons : ∀ (a : (T_api_Field : Ty).den) (l : List (T_api_Field : Ty).den), fnK P slices_Clone_api_Field_api_Field.H (lp []) 51 (AsL T_api_Field) (mL T_api_Field) (a :: l : List (T_api_Field : Ty).den) some = slices_Clone_api_Field_api_Field.f (a :: l) := fun a l => by kernel_rfl
noncomputable abbrev slices_Clone_api_Field_api_Field.row : Row := cloneRow 51 T_api_Field slices_Clone_api_Field_api_Field.f
theorem slices_Clone_api_Field_api_Field.row_ok : RowOK P G0 slices_Clone_api_Field_api_Field.row := clone_row slices_Clone_api_Field_api_Field.hok rfl slices_Clone_api_Field_api_Field.cons (fun l q h => by
    unfold slices_Clone_api_Field_api_Field.f at h
    obtain ⟨_, h⟩ := cond_some h
    injection h with h
    exact h.symm) slices_Clone_api_Field_api_Field.zero ⟨_, Tryz.func51, by kernel_rfl, by kernel_rfl⟩
end Go.Proofs.YtkgnhjmbnmaboaaGreatDoor
end
section
/- The Go function iso.Put, as a Lean function, and that it is this one. Written by a program of this session. -/
set_option linter.unusedVariables false
set_option maxRecDepth 100000
namespace Go.Proofs.YtkgnhjmbnmaboaaGreatDoor
open Go Go.Fw
abbrev iso_Put.As : Shs := (.cons (.x T_api_Message) (.cons (.x (.i .i64)) (.cons (.x .s) .nil)))
abbrev iso_Put.m : Back := [(false, T_api_Message)]
noncomputable abbrev iso_Put.H : HK := hk P G0 E0 J0 [slices_Clone_api_Field_api_Field.row] noLoops 4
theorem iso_Put.rows : TabOK P G0 (tabF [slices_Clone_api_Field_api_Field.row]) := rows_ok (ws := [slices_Clone_api_Field_api_Field.row]) ⟨slices_Clone_api_Field_api_Field.row_ok, trivial⟩
theorem iso_Put.hok : HKOK P iso_Put.H := hk_ok e0_ok j0_ok iso_Put.rows (fun g n => noLoops_ok g n) 4
noncomputable abbrev iso_Put.shi0 : SSh := ⟨[(0, (.x (.l (.g (.p (.i .i64) .s))))), (1, (.fn 52 (.cons (.pt 1 0) .nil))), (7, (.x (.i .i64))), (8, (.x (.i .i64)))], [.box (.cons (.x .s) (.cons (.x (.l (.g (.p (.i .i64) .s)))) .nil)), .box (.cons (.x (.i .i64)) .nil), .box (.cons (.x .s) (.cons (.c 5) .nil))]⟩
noncomputable abbrev iso_Put.osi0 : PEnds := [(.ret, ⟨[(4, (.x (.i .i64)))], [.box (.cons (.x .s) (.cons (.x (.l (.g (.p (.i .i64) .s)))) .nil)), .box (.cons (.x (.i .i64)) .nil), .box (.cons (.x .s) (.cons (.c 5) .nil))]⟩), ((.exit 0), ⟨[], [.box (.cons (.x .s) (.cons (.x (.l (.g (.p (.i .i64) .s)))) .nil)), .box (.cons (.x (.i .i64)) .nil), .box (.cons (.x .s) (.cons (.c 5) .nil))]⟩)]
noncomputable def iso_Put.ti0 (s : ((List (Int × ByteArray)) × (Int × (Int × (ByteArray × ((List (Int × ByteArray)) × (Int × ByteArray))))))) : Option (((List (Int × ByteArray)) × (Int × (Int × (ByteArray × ((List (Int × ByteArray)) × (Int × ByteArray)))))) ⊕ ((Int × (ByteArray × ((List (Int × ByteArray)) × (Int × ByteArray)))) ⊕ (ByteArray × ((List (Int × ByteArray)) × (Int × ByteArray))))) := (bif (decide ((s.2.2.1 < s.2.1))) then (bif ((decide (((0 : Int) ≤ s.2.2.1))) && (decide ((s.2.2.1 < ((List.length s.1) : Int))))) then (bif ((List.getD s.1 (Int.toNat s.2.2.1) (Ty.dflt T_api_Field)).1 == s.2.2.2.2.2.1) then (some (.inr (.inl s.2.2))) else (some (.inl (s.1, (s.2.1, ((IntKind.wrap .i64 (s.2.2.1 + (1 : Int))), s.2.2.2)))))) else none) else (some (.inr (.inr s.2.2.2))))
theorem iso_Put.ti0_ok : ∀ s : Vals iso_Put.shi0.tys, turnK P iso_Put.H (lp []) (bodyAt (codeOf P 48) 3) 3 iso_Put.shi0 iso_Put.osi0 s some = iso_Put.ti0 s := fun s => by kernel_rfl
noncomputable def iso_Put.li0 : ((List (Int × ByteArray)) × (Int × (Int × (ByteArray × ((List (Int × ByteArray)) × (Int × ByteArray)))))) → Option ((Int × (ByteArray × ((List (Int × ByteArray)) × (Int × ByteArray)))) ⊕ (ByteArray × ((List (Int × ByteArray)) × (Int × ByteArray)))) := rounds iso_Put.ti0
noncomputable abbrev iso_Put.shi1 : SSh := ⟨[(0, (.x (.l (.g (.p (.i .i64) .s))))), (1, (.fn 53 (.cons (.pt 1 0) .nil))), (7, (.x (.i .i64))), (8, (.x (.i .i64)))], [.box (.cons (.x .s) (.cons (.x (.l (.g (.p (.i .i64) .s)))) .nil)), .box (.cons (.x (.i .i64)) .nil), .box (.cons (.x .s) (.cons (.c 5) .nil))]⟩
noncomputable abbrev iso_Put.L1 : ILp := [(48, 3, [(3, (NodeT.summ ⟨iso_Put.shi0, iso_Put.osi0, iso_Put.li0⟩ 3))])]
theorem iso_Put.L1ok : ILpOK P G0 iso_Put.L1 := ⟨⟨(loop_sum iso_Put.hok (by kernel_rfl) (by kernel_rfl) (l := []) trivial iso_Put.shi0 iso_Put.osi0 (by kernel_rfl) iso_Put.ti0 iso_Put.ti0_ok), trivial⟩, trivial⟩
noncomputable abbrev iso_Put.H1 : HK := hk P G0 E0 J0 [slices_Clone_api_Field_api_Field.row] (ilp iso_Put.L1) 4
theorem iso_Put.hok1 : HKOK P iso_Put.H1 := hk_ok e0_ok j0_ok iso_Put.rows (fun g n => ilp_ok iso_Put.L1ok g n) 4
noncomputable abbrev iso_Put.osi1 : PEnds := [(.ret, ⟨[(4, (.x (.i .i64)))], [.box (.cons (.x .s) (.cons (.x (.l (.g (.p (.i .i64) .s)))) .nil)), .box (.cons (.x (.i .i64)) .nil), .box (.cons (.x .s) (.cons (.c 5) .nil))]⟩), ((.exit 0), ⟨[], [.box (.cons (.x .s) (.cons (.x (.l (.g (.p (.i .i64) .s)))) .nil)), .box (.cons (.x (.i .i64)) .nil), .box (.cons (.x .s) (.cons (.c 5) .nil))]⟩)]
noncomputable def iso_Put.ti1 (s : ((List (Int × ByteArray)) × (Int × (Int × (ByteArray × ((List (Int × ByteArray)) × (Int × ByteArray))))))) : Option (((List (Int × ByteArray)) × (Int × (Int × (ByteArray × ((List (Int × ByteArray)) × (Int × ByteArray)))))) ⊕ ((Int × (ByteArray × ((List (Int × ByteArray)) × (Int × ByteArray)))) ⊕ (ByteArray × ((List (Int × ByteArray)) × (Int × ByteArray))))) := (bif (decide ((s.2.2.1 < s.2.1))) then (bif ((decide (((0 : Int) ≤ s.2.2.1))) && (decide ((s.2.2.1 < ((List.length s.1) : Int))))) then (bif (decide (((List.getD s.1 (Int.toNat s.2.2.1) (Ty.dflt T_api_Field)).1 > s.2.2.2.2.2.1))) then (some (.inr (.inl s.2.2))) else (some (.inl (s.1, (s.2.1, ((IntKind.wrap .i64 (s.2.2.1 + (1 : Int))), s.2.2.2)))))) else none) else (some (.inr (.inr s.2.2.2))))
theorem iso_Put.ti1_ok : ∀ s : Vals iso_Put.shi1.tys, turnK P iso_Put.H1 (lp []) (bodyAt (codeOf P 48) 3) 3 iso_Put.shi1 iso_Put.osi1 s some = iso_Put.ti1 s := fun s => by kernel_rfl
noncomputable def iso_Put.li1 : ((List (Int × ByteArray)) × (Int × (Int × (ByteArray × ((List (Int × ByteArray)) × (Int × ByteArray)))))) → Option ((Int × (ByteArray × ((List (Int × ByteArray)) × (Int × ByteArray)))) ⊕ (ByteArray × ((List (Int × ByteArray)) × (Int × ByteArray)))) := rounds iso_Put.ti1
noncomputable abbrev iso_Put.shi2 : SSh := ⟨[(0, (.x (.l (.g (.p (.i .i64) .s))))), (1, (.fn 52 (.cons (.pt 1 0) .nil))), (5, (.x (.i .i64))), (6, (.x (.i .i64)))], [.box (.cons (.x .s) (.cons (.x (.l (.g (.p (.i .i64) .s)))) .nil)), .box (.cons (.x (.i .i64)) .nil), .box (.cons (.x .s) (.cons (.c 5) .nil))]⟩
noncomputable abbrev iso_Put.L2 : ILp := [(48, 3, [(3, (orS 3 iso_Put.shi0 (NodeT.summ ⟨iso_Put.shi0, iso_Put.osi0, iso_Put.li0⟩ 3) (NodeT.summ ⟨iso_Put.shi1, iso_Put.osi1, iso_Put.li1⟩ 3)))])]
theorem iso_Put.L2ok : ILpOK P G0 iso_Put.L2 := ⟨⟨(or_sum (loop_sum iso_Put.hok (by kernel_rfl) (by kernel_rfl) (l := []) trivial iso_Put.shi0 iso_Put.osi0 (by kernel_rfl) iso_Put.ti0 iso_Put.ti0_ok) (loop_sum iso_Put.hok1 (by kernel_rfl) (by kernel_rfl) (l := []) trivial iso_Put.shi1 iso_Put.osi1 (by kernel_rfl) iso_Put.ti1 iso_Put.ti1_ok)), trivial⟩, trivial⟩
noncomputable abbrev iso_Put.H2 : HK := hk P G0 E0 J0 [slices_Clone_api_Field_api_Field.row] (ilp iso_Put.L2) 4
theorem iso_Put.hok2 : HKOK P iso_Put.H2 := hk_ok e0_ok j0_ok iso_Put.rows (fun g n => ilp_ok iso_Put.L2ok g n) 4
noncomputable abbrev iso_Put.osi2 : PEnds := [((.exit 0), ⟨[(0, (.x (.l (.g (.p (.i .i64) .s))))), (5, (.x (.i .i64)))], [.box (.cons (.x .s) (.cons (.x (.l (.g (.p (.i .i64) .s)))) .nil)), .box (.cons (.x (.i .i64)) .nil), .box (.cons (.x .s) (.cons (.c 5) .nil))]⟩)]
noncomputable def iso_Put.ti2 (s : ((List (Int × ByteArray)) × (Int × (Int × (ByteArray × ((List (Int × ByteArray)) × (Int × ByteArray))))))) : Option (((List (Int × ByteArray)) × (Int × (Int × (ByteArray × ((List (Int × ByteArray)) × (Int × ByteArray)))))) ⊕ (((List (Int × ByteArray)) × (Int × (ByteArray × ((List (Int × ByteArray)) × (Int × ByteArray))))))) := (bif (decide ((s.2.2.1 < ((List.length s.1) : Int)))) then (bif ((decide (((0 : Int) ≤ s.2.2.1))) && (decide ((s.2.2.1 < ((List.length s.1) : Int))))) then (bif (!((List.getD s.1 (Int.toNat s.2.2.1) (Ty.dflt T_api_Field)).1 == s.2.2.2.2.2.1)) then (bif ((decide (((0 : Int) ≤ s.2.1))) && (decide ((s.2.1 < ((List.length s.1) : Int))))) then none else none) else (some (.inl (s.1, (s.2.1, ((IntKind.wrap .i64 (s.2.2.1 + (1 : Int))), s.2.2.2)))))) else none) else (some (.inr (s.1, (s.2.1, s.2.2.2)))))
theorem iso_Put.ti2_ok : ∀ s : Vals iso_Put.shi2.tys, turnK P iso_Put.H2 (lp []) (bodyAt (codeOf P 50) 7) 3 iso_Put.shi2 iso_Put.osi2 s some = iso_Put.ti2 s := fun s => by kernel_rfl
noncomputable def iso_Put.li2 : ((List (Int × ByteArray)) × (Int × (Int × (ByteArray × ((List (Int × ByteArray)) × (Int × ByteArray)))))) → Option (((List (Int × ByteArray)) × (Int × (ByteArray × ((List (Int × ByteArray)) × (Int × ByteArray)))))) := rounds iso_Put.ti2
noncomputable abbrev iso_Put.shi3 : SSh := ⟨[(0, (.own 3 2)), (1, (.fn 52 (.cons (.pt 1 0) .nil))), (7, (.x (.i .i64))), (8, (.x (.i .i64)))], [.box (.cons (.x .s) (.cons (.x (.l (.g (.p (.i .i64) .s)))) .nil)), .box (.cons (.x (.i .i64)) .nil), .box (.cons (.x .s) (.cons (.c 5) .nil)), .arr T_api_Field]⟩
noncomputable abbrev iso_Put.L3 : ILp := [(48, 3, [(3, (orS 3 iso_Put.shi0 (NodeT.summ ⟨iso_Put.shi0, iso_Put.osi0, iso_Put.li0⟩ 3) (NodeT.summ ⟨iso_Put.shi1, iso_Put.osi1, iso_Put.li1⟩ 3)))]), (50, 3, [(7, (NodeT.summ ⟨iso_Put.shi2, iso_Put.osi2, iso_Put.li2⟩ 3))])]
theorem iso_Put.L3ok : ILpOK P G0 iso_Put.L3 := ⟨⟨(or_sum (loop_sum iso_Put.hok (by kernel_rfl) (by kernel_rfl) (l := []) trivial iso_Put.shi0 iso_Put.osi0 (by kernel_rfl) iso_Put.ti0 iso_Put.ti0_ok) (loop_sum iso_Put.hok1 (by kernel_rfl) (by kernel_rfl) (l := []) trivial iso_Put.shi1 iso_Put.osi1 (by kernel_rfl) iso_Put.ti1 iso_Put.ti1_ok)), trivial⟩, ⟨⟨(loop_sum iso_Put.hok2 (by kernel_rfl) (by kernel_rfl) (l := []) trivial iso_Put.shi2 iso_Put.osi2 (by kernel_rfl) iso_Put.ti2 iso_Put.ti2_ok), trivial⟩, trivial⟩⟩
noncomputable abbrev iso_Put.H3 : HK := hk P G0 E0 J0 [slices_Clone_api_Field_api_Field.row] (ilp iso_Put.L3) 4
theorem iso_Put.hok3 : HKOK P iso_Put.H3 := hk_ok e0_ok j0_ok iso_Put.rows (fun g n => ilp_ok iso_Put.L3ok g n) 4
noncomputable abbrev iso_Put.osi3 : PEnds := [(.ret, ⟨[(4, (.x (.i .i64)))], [.box (.cons (.x .s) (.cons (.x (.l (.g (.p (.i .i64) .s)))) .nil)), .box (.cons (.x (.i .i64)) .nil), .box (.cons (.x .s) (.cons (.c 5) .nil)), .arr T_api_Field]⟩), ((.exit 0), ⟨[], [.box (.cons (.x .s) (.cons (.x (.l (.g (.p (.i .i64) .s)))) .nil)), .box (.cons (.x (.i .i64)) .nil), .box (.cons (.x .s) (.cons (.c 5) .nil)), .arr T_api_Field]⟩)]
noncomputable def iso_Put.ti3 (s : (Int × (Int × (ByteArray × ((List (Int × ByteArray)) × (Int × (ByteArray × (List (Int × ByteArray))))))))) : Option ((Int × (Int × (ByteArray × ((List (Int × ByteArray)) × (Int × (ByteArray × (List (Int × ByteArray)))))))) ⊕ ((Int × (ByteArray × ((List (Int × ByteArray)) × (Int × (ByteArray × (List (Int × ByteArray))))))) ⊕ (ByteArray × ((List (Int × ByteArray)) × (Int × (ByteArray × (List (Int × ByteArray)))))))) := (bif (decide ((s.2.1 < s.1))) then (bif ((decide (((0 : Int) ≤ s.2.1))) && (decide ((s.2.1 < ((List.length s.2.2.2.2.2.2) : Int))))) then (bif (true && (Nat.blt (0 + (Int.toNat s.2.1)) (List.length s.2.2.2.2.2.2))) then (bif ((List.getD s.2.2.2.2.2.2 (0 + (Int.toNat s.2.1)) (Ty.dflt T_api_Field)).1 == s.2.2.2.2.1) then (some (.inr (.inl s.2))) else (some (.inl (s.1, ((IntKind.wrap .i64 (s.2.1 + (1 : Int))), s.2.2))))) else none) else none) else (some (.inr (.inr s.2.2))))
theorem iso_Put.ti3_ok : ∀ s : Vals iso_Put.shi3.tys, turnK P iso_Put.H3 (lp []) (bodyAt (codeOf P 48) 3) 4 iso_Put.shi3 iso_Put.osi3 s some = iso_Put.ti3 s := fun s => by kernel_rfl
noncomputable def iso_Put.li3 : (Int × (Int × (ByteArray × ((List (Int × ByteArray)) × (Int × (ByteArray × (List (Int × ByteArray)))))))) → Option ((Int × (ByteArray × ((List (Int × ByteArray)) × (Int × (ByteArray × (List (Int × ByteArray))))))) ⊕ (ByteArray × ((List (Int × ByteArray)) × (Int × (ByteArray × (List (Int × ByteArray))))))) := rounds iso_Put.ti3
noncomputable abbrev iso_Put.shi4 : SSh := ⟨[(0, (.own 3 2)), (1, (.fn 53 (.cons (.pt 1 0) .nil))), (7, (.x (.i .i64))), (8, (.x (.i .i64)))], [.box (.cons (.x .s) (.cons (.x (.l (.g (.p (.i .i64) .s)))) .nil)), .box (.cons (.x (.i .i64)) .nil), .box (.cons (.x .s) (.cons (.c 5) .nil)), .arr T_api_Field]⟩
noncomputable abbrev iso_Put.L4 : ILp := [(48, 3, [(3, (orS 3 iso_Put.shi0 (NodeT.summ ⟨iso_Put.shi0, iso_Put.osi0, iso_Put.li0⟩ 3) (NodeT.summ ⟨iso_Put.shi1, iso_Put.osi1, iso_Put.li1⟩ 3)))]), (50, 3, [(7, (NodeT.summ ⟨iso_Put.shi2, iso_Put.osi2, iso_Put.li2⟩ 3))]), (48, 4, [(3, (NodeT.summ ⟨iso_Put.shi3, iso_Put.osi3, iso_Put.li3⟩ 4))])]
theorem iso_Put.L4ok : ILpOK P G0 iso_Put.L4 := ⟨⟨(or_sum (loop_sum iso_Put.hok (by kernel_rfl) (by kernel_rfl) (l := []) trivial iso_Put.shi0 iso_Put.osi0 (by kernel_rfl) iso_Put.ti0 iso_Put.ti0_ok) (loop_sum iso_Put.hok1 (by kernel_rfl) (by kernel_rfl) (l := []) trivial iso_Put.shi1 iso_Put.osi1 (by kernel_rfl) iso_Put.ti1 iso_Put.ti1_ok)), trivial⟩, ⟨⟨(loop_sum iso_Put.hok2 (by kernel_rfl) (by kernel_rfl) (l := []) trivial iso_Put.shi2 iso_Put.osi2 (by kernel_rfl) iso_Put.ti2 iso_Put.ti2_ok), trivial⟩, ⟨⟨(loop_sum iso_Put.hok3 (by kernel_rfl) (by kernel_rfl) (l := []) trivial iso_Put.shi3 iso_Put.osi3 (by kernel_rfl) iso_Put.ti3 iso_Put.ti3_ok), trivial⟩, trivial⟩⟩⟩
noncomputable abbrev iso_Put.H4 : HK := hk P G0 E0 J0 [slices_Clone_api_Field_api_Field.row] (ilp iso_Put.L4) 4
theorem iso_Put.hok4 : HKOK P iso_Put.H4 := hk_ok e0_ok j0_ok iso_Put.rows (fun g n => ilp_ok iso_Put.L4ok g n) 4
noncomputable abbrev iso_Put.osi4 : PEnds := [(.ret, ⟨[(4, (.x (.i .i64)))], [.box (.cons (.x .s) (.cons (.x (.l (.g (.p (.i .i64) .s)))) .nil)), .box (.cons (.x (.i .i64)) .nil), .box (.cons (.x .s) (.cons (.c 5) .nil)), .arr T_api_Field]⟩), ((.exit 0), ⟨[], [.box (.cons (.x .s) (.cons (.x (.l (.g (.p (.i .i64) .s)))) .nil)), .box (.cons (.x (.i .i64)) .nil), .box (.cons (.x .s) (.cons (.c 5) .nil)), .arr T_api_Field]⟩)]
noncomputable def iso_Put.ti4 (s : (Int × (Int × (ByteArray × ((List (Int × ByteArray)) × (Int × (ByteArray × (List (Int × ByteArray))))))))) : Option ((Int × (Int × (ByteArray × ((List (Int × ByteArray)) × (Int × (ByteArray × (List (Int × ByteArray)))))))) ⊕ ((Int × (ByteArray × ((List (Int × ByteArray)) × (Int × (ByteArray × (List (Int × ByteArray))))))) ⊕ (ByteArray × ((List (Int × ByteArray)) × (Int × (ByteArray × (List (Int × ByteArray)))))))) := (bif (decide ((s.2.1 < s.1))) then (bif ((decide (((0 : Int) ≤ s.2.1))) && (decide ((s.2.1 < ((List.length s.2.2.2.2.2.2) : Int))))) then (bif (true && (Nat.blt (0 + (Int.toNat s.2.1)) (List.length s.2.2.2.2.2.2))) then (bif (decide (((List.getD s.2.2.2.2.2.2 (0 + (Int.toNat s.2.1)) (Ty.dflt T_api_Field)).1 > s.2.2.2.2.1))) then (some (.inr (.inl s.2))) else (some (.inl (s.1, ((IntKind.wrap .i64 (s.2.1 + (1 : Int))), s.2.2))))) else none) else none) else (some (.inr (.inr s.2.2))))
theorem iso_Put.ti4_ok : ∀ s : Vals iso_Put.shi4.tys, turnK P iso_Put.H4 (lp []) (bodyAt (codeOf P 48) 3) 4 iso_Put.shi4 iso_Put.osi4 s some = iso_Put.ti4 s := fun s => by kernel_rfl
noncomputable def iso_Put.li4 : (Int × (Int × (ByteArray × ((List (Int × ByteArray)) × (Int × (ByteArray × (List (Int × ByteArray)))))))) → Option ((Int × (ByteArray × ((List (Int × ByteArray)) × (Int × (ByteArray × (List (Int × ByteArray))))))) ⊕ (ByteArray × ((List (Int × ByteArray)) × (Int × (ByteArray × (List (Int × ByteArray))))))) := rounds iso_Put.ti4
noncomputable abbrev iso_Put.shi5 : SSh := ⟨[(0, (.own 3 2)), (1, (.fn 52 (.cons (.pt 1 0) .nil))), (5, (.x (.i .i64))), (6, (.x (.i .i64)))], [.box (.cons (.x .s) (.cons (.x (.l (.g (.p (.i .i64) .s)))) .nil)), .box (.cons (.x (.i .i64)) .nil), .box (.cons (.x .s) (.cons (.c 5) .nil)), .arr T_api_Field]⟩
noncomputable abbrev iso_Put.L5 : ILp := [(48, 3, [(3, (orS 3 iso_Put.shi0 (NodeT.summ ⟨iso_Put.shi0, iso_Put.osi0, iso_Put.li0⟩ 3) (NodeT.summ ⟨iso_Put.shi1, iso_Put.osi1, iso_Put.li1⟩ 3)))]), (50, 3, [(7, (NodeT.summ ⟨iso_Put.shi2, iso_Put.osi2, iso_Put.li2⟩ 3))]), (48, 4, [(3, (orS 4 iso_Put.shi3 (NodeT.summ ⟨iso_Put.shi3, iso_Put.osi3, iso_Put.li3⟩ 4) (NodeT.summ ⟨iso_Put.shi4, iso_Put.osi4, iso_Put.li4⟩ 4)))])]
theorem iso_Put.L5ok : ILpOK P G0 iso_Put.L5 := ⟨⟨(or_sum (loop_sum iso_Put.hok (by kernel_rfl) (by kernel_rfl) (l := []) trivial iso_Put.shi0 iso_Put.osi0 (by kernel_rfl) iso_Put.ti0 iso_Put.ti0_ok) (loop_sum iso_Put.hok1 (by kernel_rfl) (by kernel_rfl) (l := []) trivial iso_Put.shi1 iso_Put.osi1 (by kernel_rfl) iso_Put.ti1 iso_Put.ti1_ok)), trivial⟩, ⟨⟨(loop_sum iso_Put.hok2 (by kernel_rfl) (by kernel_rfl) (l := []) trivial iso_Put.shi2 iso_Put.osi2 (by kernel_rfl) iso_Put.ti2 iso_Put.ti2_ok), trivial⟩, ⟨⟨(or_sum (loop_sum iso_Put.hok3 (by kernel_rfl) (by kernel_rfl) (l := []) trivial iso_Put.shi3 iso_Put.osi3 (by kernel_rfl) iso_Put.ti3 iso_Put.ti3_ok) (loop_sum iso_Put.hok4 (by kernel_rfl) (by kernel_rfl) (l := []) trivial iso_Put.shi4 iso_Put.osi4 (by kernel_rfl) iso_Put.ti4 iso_Put.ti4_ok)), trivial⟩, trivial⟩⟩⟩
noncomputable abbrev iso_Put.H5 : HK := hk P G0 E0 J0 [slices_Clone_api_Field_api_Field.row] (ilp iso_Put.L5) 4
theorem iso_Put.hok5 : HKOK P iso_Put.H5 := hk_ok e0_ok j0_ok iso_Put.rows (fun g n => ilp_ok iso_Put.L5ok g n) 4
noncomputable abbrev iso_Put.osi5 : PEnds := [((.exit 0), ⟨[(0, (.own 3 2)), (5, (.x (.i .i64)))], [.box (.cons (.x .s) (.cons (.x (.l (.g (.p (.i .i64) .s)))) .nil)), .box (.cons (.x (.i .i64)) .nil), .box (.cons (.x .s) (.cons (.c 5) .nil)), .arr T_api_Field]⟩)]
noncomputable def iso_Put.ti5 (s : (Int × (Int × (ByteArray × ((List (Int × ByteArray)) × (Int × (ByteArray × (List (Int × ByteArray))))))))) : Option ((Int × (Int × (ByteArray × ((List (Int × ByteArray)) × (Int × (ByteArray × (List (Int × ByteArray)))))))) ⊕ ((Int × (ByteArray × ((List (Int × ByteArray)) × (Int × (ByteArray × (List (Int × ByteArray))))))))) := (bif (decide ((s.2.1 < ((List.length s.2.2.2.2.2.2) : Int)))) then (bif ((decide (((0 : Int) ≤ s.2.1))) && (decide ((s.2.1 < ((List.length s.2.2.2.2.2.2) : Int))))) then (bif (true && (Nat.blt (0 + (Int.toNat s.2.1)) (List.length s.2.2.2.2.2.2))) then (bif (!((List.getD s.2.2.2.2.2.2 (0 + (Int.toNat s.2.1)) (Ty.dflt T_api_Field)).1 == s.2.2.2.2.1)) then (bif ((decide (((0 : Int) ≤ s.1))) && (decide ((s.1 < ((List.length s.2.2.2.2.2.2) : Int))))) then (bif (true && (Nat.blt (0 + (Int.toNat s.1)) (List.length s.2.2.2.2.2.2))) then (some (.inl ((IntKind.wrap .i64 (s.1 + (1 : Int))), ((IntKind.wrap .i64 (s.2.1 + (1 : Int))), (s.2.2.1, (s.2.2.2.1, (s.2.2.2.2.1, (s.2.2.2.2.2.1, (List.set s.2.2.2.2.2.2 (0 + (Int.toNat s.1)) (List.getD s.2.2.2.2.2.2 (0 + (Int.toNat s.2.1)) (Ty.dflt T_api_Field))))))))))) else none) else none) else (some (.inl (s.1, ((IntKind.wrap .i64 (s.2.1 + (1 : Int))), s.2.2))))) else none) else none) else (some (.inr (s.1, s.2.2))))
theorem iso_Put.ti5_ok : ∀ s : Vals iso_Put.shi5.tys, turnK P iso_Put.H5 (lp []) (bodyAt (codeOf P 50) 7) 4 iso_Put.shi5 iso_Put.osi5 s some = iso_Put.ti5 s := fun s => by kernel_rfl
noncomputable def iso_Put.li5 : (Int × (Int × (ByteArray × ((List (Int × ByteArray)) × (Int × (ByteArray × (List (Int × ByteArray)))))))) → Option ((Int × (ByteArray × ((List (Int × ByteArray)) × (Int × (ByteArray × (List (Int × ByteArray)))))))) := rounds iso_Put.ti5
noncomputable abbrev iso_Put.shi6 : SSh := ⟨[(0, (.own 4 2)), (1, (.fn 53 (.cons (.pt 1 0) .nil))), (7, (.x (.i .i64))), (8, (.x (.i .i64)))], [.box (.cons (.x .s) (.cons (.x (.l (.g (.p (.i .i64) .s)))) .nil)), .box (.cons (.x (.i .i64)) .nil), .box (.cons (.x .s) (.cons (.c 5) .nil)), .dead, .arr T_api_Field]⟩
noncomputable abbrev iso_Put.L6 : ILp := [(48, 3, [(3, (orS 3 iso_Put.shi0 (NodeT.summ ⟨iso_Put.shi0, iso_Put.osi0, iso_Put.li0⟩ 3) (NodeT.summ ⟨iso_Put.shi1, iso_Put.osi1, iso_Put.li1⟩ 3)))]), (50, 3, [(7, (NodeT.summ ⟨iso_Put.shi2, iso_Put.osi2, iso_Put.li2⟩ 3))]), (48, 4, [(3, (orS 4 iso_Put.shi3 (NodeT.summ ⟨iso_Put.shi3, iso_Put.osi3, iso_Put.li3⟩ 4) (NodeT.summ ⟨iso_Put.shi4, iso_Put.osi4, iso_Put.li4⟩ 4)))]), (50, 4, [(7, (NodeT.summ ⟨iso_Put.shi5, iso_Put.osi5, iso_Put.li5⟩ 4))])]
theorem iso_Put.L6ok : ILpOK P G0 iso_Put.L6 := ⟨⟨(or_sum (loop_sum iso_Put.hok (by kernel_rfl) (by kernel_rfl) (l := []) trivial iso_Put.shi0 iso_Put.osi0 (by kernel_rfl) iso_Put.ti0 iso_Put.ti0_ok) (loop_sum iso_Put.hok1 (by kernel_rfl) (by kernel_rfl) (l := []) trivial iso_Put.shi1 iso_Put.osi1 (by kernel_rfl) iso_Put.ti1 iso_Put.ti1_ok)), trivial⟩, ⟨⟨(loop_sum iso_Put.hok2 (by kernel_rfl) (by kernel_rfl) (l := []) trivial iso_Put.shi2 iso_Put.osi2 (by kernel_rfl) iso_Put.ti2 iso_Put.ti2_ok), trivial⟩, ⟨⟨(or_sum (loop_sum iso_Put.hok3 (by kernel_rfl) (by kernel_rfl) (l := []) trivial iso_Put.shi3 iso_Put.osi3 (by kernel_rfl) iso_Put.ti3 iso_Put.ti3_ok) (loop_sum iso_Put.hok4 (by kernel_rfl) (by kernel_rfl) (l := []) trivial iso_Put.shi4 iso_Put.osi4 (by kernel_rfl) iso_Put.ti4 iso_Put.ti4_ok)), trivial⟩, ⟨⟨(loop_sum iso_Put.hok5 (by kernel_rfl) (by kernel_rfl) (l := []) trivial iso_Put.shi5 iso_Put.osi5 (by kernel_rfl) iso_Put.ti5 iso_Put.ti5_ok), trivial⟩, trivial⟩⟩⟩⟩
noncomputable abbrev iso_Put.H6 : HK := hk P G0 E0 J0 [slices_Clone_api_Field_api_Field.row] (ilp iso_Put.L6) 4
theorem iso_Put.hok6 : HKOK P iso_Put.H6 := hk_ok e0_ok j0_ok iso_Put.rows (fun g n => ilp_ok iso_Put.L6ok g n) 4
noncomputable abbrev iso_Put.osi6 : PEnds := [(.ret, ⟨[(4, (.x (.i .i64)))], [.box (.cons (.x .s) (.cons (.x (.l (.g (.p (.i .i64) .s)))) .nil)), .box (.cons (.x (.i .i64)) .nil), .box (.cons (.x .s) (.cons (.c 5) .nil)), .dead, .arr T_api_Field]⟩), ((.exit 0), ⟨[], [.box (.cons (.x .s) (.cons (.x (.l (.g (.p (.i .i64) .s)))) .nil)), .box (.cons (.x (.i .i64)) .nil), .box (.cons (.x .s) (.cons (.c 5) .nil)), .dead, .arr T_api_Field]⟩)]
noncomputable def iso_Put.ti6 (s : (Int × (Int × (ByteArray × ((List (Int × ByteArray)) × (Int × (ByteArray × (List (Int × ByteArray))))))))) : Option ((Int × (Int × (ByteArray × ((List (Int × ByteArray)) × (Int × (ByteArray × (List (Int × ByteArray)))))))) ⊕ ((Int × (ByteArray × ((List (Int × ByteArray)) × (Int × (ByteArray × (List (Int × ByteArray))))))) ⊕ (ByteArray × ((List (Int × ByteArray)) × (Int × (ByteArray × (List (Int × ByteArray)))))))) := (bif (decide ((s.2.1 < s.1))) then (bif ((decide (((0 : Int) ≤ s.2.1))) && (decide ((s.2.1 < ((List.length s.2.2.2.2.2.2) : Int))))) then (bif (true && (Nat.blt (0 + (Int.toNat s.2.1)) (List.length s.2.2.2.2.2.2))) then (bif (decide (((List.getD s.2.2.2.2.2.2 (0 + (Int.toNat s.2.1)) (Ty.dflt T_api_Field)).1 > s.2.2.2.2.1))) then (some (.inr (.inl s.2))) else (some (.inl (s.1, ((IntKind.wrap .i64 (s.2.1 + (1 : Int))), s.2.2))))) else none) else none) else (some (.inr (.inr s.2.2))))
theorem iso_Put.ti6_ok : ∀ s : Vals iso_Put.shi6.tys, turnK P iso_Put.H6 (lp []) (bodyAt (codeOf P 48) 3) 5 iso_Put.shi6 iso_Put.osi6 s some = iso_Put.ti6 s := fun s => by kernel_rfl
noncomputable def iso_Put.li6 : (Int × (Int × (ByteArray × ((List (Int × ByteArray)) × (Int × (ByteArray × (List (Int × ByteArray)))))))) → Option ((Int × (ByteArray × ((List (Int × ByteArray)) × (Int × (ByteArray × (List (Int × ByteArray))))))) ⊕ (ByteArray × ((List (Int × ByteArray)) × (Int × (ByteArray × (List (Int × ByteArray))))))) := rounds iso_Put.ti6
noncomputable abbrev iso_Put.L7 : ILp := [(48, 3, [(3, (orS 3 iso_Put.shi0 (NodeT.summ ⟨iso_Put.shi0, iso_Put.osi0, iso_Put.li0⟩ 3) (NodeT.summ ⟨iso_Put.shi1, iso_Put.osi1, iso_Put.li1⟩ 3)))]), (50, 3, [(7, (NodeT.summ ⟨iso_Put.shi2, iso_Put.osi2, iso_Put.li2⟩ 3))]), (48, 4, [(3, (orS 4 iso_Put.shi3 (NodeT.summ ⟨iso_Put.shi3, iso_Put.osi3, iso_Put.li3⟩ 4) (NodeT.summ ⟨iso_Put.shi4, iso_Put.osi4, iso_Put.li4⟩ 4)))]), (50, 4, [(7, (NodeT.summ ⟨iso_Put.shi5, iso_Put.osi5, iso_Put.li5⟩ 4))]), (48, 5, [(3, (NodeT.summ ⟨iso_Put.shi6, iso_Put.osi6, iso_Put.li6⟩ 5))])]
theorem iso_Put.L7ok : ILpOK P G0 iso_Put.L7 := ⟨⟨(or_sum (loop_sum iso_Put.hok (by kernel_rfl) (by kernel_rfl) (l := []) trivial iso_Put.shi0 iso_Put.osi0 (by kernel_rfl) iso_Put.ti0 iso_Put.ti0_ok) (loop_sum iso_Put.hok1 (by kernel_rfl) (by kernel_rfl) (l := []) trivial iso_Put.shi1 iso_Put.osi1 (by kernel_rfl) iso_Put.ti1 iso_Put.ti1_ok)), trivial⟩, ⟨⟨(loop_sum iso_Put.hok2 (by kernel_rfl) (by kernel_rfl) (l := []) trivial iso_Put.shi2 iso_Put.osi2 (by kernel_rfl) iso_Put.ti2 iso_Put.ti2_ok), trivial⟩, ⟨⟨(or_sum (loop_sum iso_Put.hok3 (by kernel_rfl) (by kernel_rfl) (l := []) trivial iso_Put.shi3 iso_Put.osi3 (by kernel_rfl) iso_Put.ti3 iso_Put.ti3_ok) (loop_sum iso_Put.hok4 (by kernel_rfl) (by kernel_rfl) (l := []) trivial iso_Put.shi4 iso_Put.osi4 (by kernel_rfl) iso_Put.ti4 iso_Put.ti4_ok)), trivial⟩, ⟨⟨(loop_sum iso_Put.hok5 (by kernel_rfl) (by kernel_rfl) (l := []) trivial iso_Put.shi5 iso_Put.osi5 (by kernel_rfl) iso_Put.ti5 iso_Put.ti5_ok), trivial⟩, ⟨⟨(loop_sum iso_Put.hok6 (by kernel_rfl) (by kernel_rfl) (l := []) trivial iso_Put.shi6 iso_Put.osi6 (by kernel_rfl) iso_Put.ti6 iso_Put.ti6_ok), trivial⟩, trivial⟩⟩⟩⟩⟩
noncomputable abbrev iso_Put.H7 : HK := hk P G0 E0 J0 [slices_Clone_api_Field_api_Field.row] (ilp iso_Put.L7) 4
theorem iso_Put.hok7 : HKOK P iso_Put.H7 := hk_ok e0_ok j0_ok iso_Put.rows (fun g n => ilp_ok iso_Put.L7ok g n) 4
noncomputable def iso_Put.f (a : ((ByteArray × (List (Int × ByteArray))) × (Int × ByteArray))) : Option (ByteArray × (List (Int × ByteArray))) := (((slices_Clone_api_Field_api_Field.f a.1.2)).bind fun (x3 : (List (Int × ByteArray))) => (match x3 with | [] => (((iso_Put.li0 ([], ((0 : Int), ((0 : Int), (a.1.1, (a.1.2, (a.2.1, (bs []))))))))).bind fun (x4 : ((Int × (ByteArray × ((List (Int × ByteArray)) × (Int × ByteArray)))) ⊕ (ByteArray × ((List (Int × ByteArray)) × (Int × ByteArray))))) => (match x4 with | .inl x5 => (bif (x5.1 == (-1 : Int)) then (((iso_Put.li1 ([], ((0 : Int), ((0 : Int), x5.2))))).bind fun (x6 : ((Int × (ByteArray × ((List (Int × ByteArray)) × (Int × ByteArray)))) ⊕ (ByteArray × ((List (Int × ByteArray)) × (Int × ByteArray))))) => (match x6 with | .inl x7 => (bif (decide ((x7.1 < (0 : Int)))) then (some (x7.2.1, (([] ++ ((x7.2.2.2.1, a.2.2) :: [])) ++ []))) else (bif (true && ((((decide (((0 : Int) ≤ x7.1))) && (decide ((x7.1 ≤ (0 : Int))))) && true) && true)) then (some (x7.2.1, (((List.take (Int.toNat x7.1) []) ++ ((x7.2.2.2.1, a.2.2) :: [])) ++ (List.drop (Int.toNat x7.1) [])))) else none)) | .inr x7 => (some (x7.1, (([] ++ ((x7.2.2.1, a.2.2) :: [])) ++ []))))) else (((iso_Put.li2 ([], (x5.1, ((IntKind.wrap .i64 (x5.1 + (1 : Int))), x5.2))))).bind fun (x6 : ((List (Int × ByteArray)) × (Int × (ByteArray × ((List (Int × ByteArray)) × (Int × ByteArray)))))) => (bif ((decide (((0 : Int) ≤ x6.2.1))) && (decide ((x6.2.1 ≤ ((List.length x6.1) : Int))))) then none else none))) | .inr x5 => (((iso_Put.li1 ([], ((0 : Int), ((0 : Int), x5))))).bind fun (x6 : ((Int × (ByteArray × ((List (Int × ByteArray)) × (Int × ByteArray)))) ⊕ (ByteArray × ((List (Int × ByteArray)) × (Int × ByteArray))))) => (match x6 with | .inl x7 => (bif (decide ((x7.1 < (0 : Int)))) then (some (x7.2.1, (([] ++ ((x7.2.2.2.1, a.2.2) :: [])) ++ []))) else (bif (true && ((((decide (((0 : Int) ≤ x7.1))) && (decide ((x7.1 ≤ (0 : Int))))) && true) && true)) then (some (x7.2.1, (((List.take (Int.toNat x7.1) []) ++ ((x7.2.2.2.1, a.2.2) :: [])) ++ (List.drop (Int.toNat x7.1) [])))) else none)) | .inr x7 => (some (x7.1, (([] ++ ((x7.2.2.1, a.2.2) :: [])) ++ []))))))) | x4 :: x5 => (((iso_Put.li3 (((List.length (x4 :: x5)) : Int), ((0 : Int), (a.1.1, (a.1.2, (a.2.1, ((bs []), (x4 :: x5))))))))).bind fun (x6 : ((Int × (ByteArray × ((List (Int × ByteArray)) × (Int × (ByteArray × (List (Int × ByteArray))))))) ⊕ (ByteArray × ((List (Int × ByteArray)) × (Int × (ByteArray × (List (Int × ByteArray)))))))) => (match x6 with | .inl x7 => (bif (x7.1 == (-1 : Int)) then (((iso_Put.li4 (((List.length x7.2.2.2.2.2) : Int), ((0 : Int), x7.2)))).bind fun (x8 : ((Int × (ByteArray × ((List (Int × ByteArray)) × (Int × (ByteArray × (List (Int × ByteArray))))))) ⊕ (ByteArray × ((List (Int × ByteArray)) × (Int × (ByteArray × (List (Int × ByteArray)))))))) => (match x8 with | .inl x9 => (bif (decide ((x9.1 < (0 : Int)))) then (bif ((true && (!false)) && ((((decide (((0 : Int) ≤ ((List.length x9.2.2.2.2.2) : Int)))) && (decide ((((List.length x9.2.2.2.2.2) : Int) ≤ ((List.length x9.2.2.2.2.2) : Int))))) && (Nat.ble (((List.length x9.2.2.2.2.2) + 1) * 24) 140737488355328)) && (Nat.ble ((List.length x9.2.2.2.2.2) + 1) 140737488355328))) then (some (x9.2.1, (((List.take (Int.toNat ((List.length x9.2.2.2.2.2) : Int)) x9.2.2.2.2.2) ++ ((x9.2.2.2.1, a.2.2) :: [])) ++ (List.drop (Int.toNat ((List.length x9.2.2.2.2.2) : Int)) x9.2.2.2.2.2)))) else none) else (bif ((true && (!false)) && ((((decide (((0 : Int) ≤ x9.1))) && (decide ((x9.1 ≤ ((List.length x9.2.2.2.2.2) : Int))))) && (Nat.ble (((List.length x9.2.2.2.2.2) + 1) * 24) 140737488355328)) && (Nat.ble ((List.length x9.2.2.2.2.2) + 1) 140737488355328))) then (some (x9.2.1, (((List.take (Int.toNat x9.1) x9.2.2.2.2.2) ++ ((x9.2.2.2.1, a.2.2) :: [])) ++ (List.drop (Int.toNat x9.1) x9.2.2.2.2.2)))) else none)) | .inr x9 => (bif ((true && (!false)) && ((((decide (((0 : Int) ≤ ((List.length x9.2.2.2.2) : Int)))) && (decide ((((List.length x9.2.2.2.2) : Int) ≤ ((List.length x9.2.2.2.2) : Int))))) && (Nat.ble (((List.length x9.2.2.2.2) + 1) * 24) 140737488355328)) && (Nat.ble ((List.length x9.2.2.2.2) + 1) 140737488355328))) then (some (x9.1, (((List.take (Int.toNat ((List.length x9.2.2.2.2) : Int)) x9.2.2.2.2) ++ ((x9.2.2.1, a.2.2) :: [])) ++ (List.drop (Int.toNat ((List.length x9.2.2.2.2) : Int)) x9.2.2.2.2)))) else none))) else (((iso_Put.li5 (x7.1, ((IntKind.wrap .i64 (x7.1 + (1 : Int))), x7.2)))).bind fun (x8 : (Int × (ByteArray × ((List (Int × ByteArray)) × (Int × (ByteArray × (List (Int × ByteArray)))))))) => (bif ((decide (((0 : Int) ≤ x8.1))) && (decide ((x8.1 ≤ ((List.length x8.2.2.2.2.2) : Int))))) then (bif (true && (Nat.ble ((0 + (Int.toNat x8.1)) + ((List.length x8.2.2.2.2.2) - (Int.toNat x8.1))) (List.length x8.2.2.2.2.2))) then (bif ((decide (((0 : Int) ≤ x8.1))) && (decide ((x8.1 ≤ ((List.length (((List.take (0 + (Int.toNat x8.1)) x8.2.2.2.2.2) ++ (List.replicate ((List.length x8.2.2.2.2.2) - (Int.toNat x8.1)) ((0 : Int), (bs [])))) ++ (List.drop ((0 + (Int.toNat x8.1)) + ((List.length x8.2.2.2.2.2) - (Int.toNat x8.1))) x8.2.2.2.2.2))) : Int))))) then (bif (true && (Nat.ble ((Int.toNat x8.1) - 0) (List.length (((List.take (0 + (Int.toNat x8.1)) x8.2.2.2.2.2) ++ (List.replicate ((List.length x8.2.2.2.2.2) - (Int.toNat x8.1)) ((0 : Int), (bs [])))) ++ (List.drop ((0 + (Int.toNat x8.1)) + ((List.length x8.2.2.2.2.2) - (Int.toNat x8.1))) x8.2.2.2.2.2))))) then (((iso_Put.li6 (((List.length (List.take ((Int.toNat x8.1) - 0) (List.drop 0 (((List.take (0 + (Int.toNat x8.1)) x8.2.2.2.2.2) ++ (List.replicate ((List.length x8.2.2.2.2.2) - (Int.toNat x8.1)) ((0 : Int), (bs [])))) ++ (List.drop ((0 + (Int.toNat x8.1)) + ((List.length x8.2.2.2.2.2) - (Int.toNat x8.1))) x8.2.2.2.2.2))))) : Int), ((0 : Int), (x8.2.1, (x8.2.2.1, (x8.2.2.2.1, (x8.2.2.2.2.1, (List.take ((Int.toNat x8.1) - 0) (List.drop 0 (((List.take (0 + (Int.toNat x8.1)) x8.2.2.2.2.2) ++ (List.replicate ((List.length x8.2.2.2.2.2) - (Int.toNat x8.1)) ((0 : Int), (bs [])))) ++ (List.drop ((0 + (Int.toNat x8.1)) + ((List.length x8.2.2.2.2.2) - (Int.toNat x8.1))) x8.2.2.2.2.2)))))))))))).bind fun (x9 : ((Int × (ByteArray × ((List (Int × ByteArray)) × (Int × (ByteArray × (List (Int × ByteArray))))))) ⊕ (ByteArray × ((List (Int × ByteArray)) × (Int × (ByteArray × (List (Int × ByteArray)))))))) => (match x9 with | .inl x10 => (bif (decide ((x10.1 < (0 : Int)))) then (bif ((true && (!false)) && ((((decide (((0 : Int) ≤ ((List.length x10.2.2.2.2.2) : Int)))) && (decide ((((List.length x10.2.2.2.2.2) : Int) ≤ ((List.length x10.2.2.2.2.2) : Int))))) && (Nat.ble (((List.length x10.2.2.2.2.2) + 1) * 24) 140737488355328)) && (Nat.ble ((List.length x10.2.2.2.2.2) + 1) 140737488355328))) then (some (x10.2.1, (((List.take (Int.toNat ((List.length x10.2.2.2.2.2) : Int)) x10.2.2.2.2.2) ++ ((x10.2.2.2.1, a.2.2) :: [])) ++ (List.drop (Int.toNat ((List.length x10.2.2.2.2.2) : Int)) x10.2.2.2.2.2)))) else none) else (bif ((true && (!false)) && ((((decide (((0 : Int) ≤ x10.1))) && (decide ((x10.1 ≤ ((List.length x10.2.2.2.2.2) : Int))))) && (Nat.ble (((List.length x10.2.2.2.2.2) + 1) * 24) 140737488355328)) && (Nat.ble ((List.length x10.2.2.2.2.2) + 1) 140737488355328))) then (some (x10.2.1, (((List.take (Int.toNat x10.1) x10.2.2.2.2.2) ++ ((x10.2.2.2.1, a.2.2) :: [])) ++ (List.drop (Int.toNat x10.1) x10.2.2.2.2.2)))) else none)) | .inr x10 => (bif ((true && (!false)) && ((((decide (((0 : Int) ≤ ((List.length x10.2.2.2.2) : Int)))) && (decide ((((List.length x10.2.2.2.2) : Int) ≤ ((List.length x10.2.2.2.2) : Int))))) && (Nat.ble (((List.length x10.2.2.2.2) + 1) * 24) 140737488355328)) && (Nat.ble ((List.length x10.2.2.2.2) + 1) 140737488355328))) then (some (x10.1, (((List.take (Int.toNat ((List.length x10.2.2.2.2) : Int)) x10.2.2.2.2) ++ ((x10.2.2.1, a.2.2) :: [])) ++ (List.drop (Int.toNat ((List.length x10.2.2.2.2) : Int)) x10.2.2.2.2)))) else none))) else none) else none) else none) else none))) | .inr x7 => (((iso_Put.li4 (((List.length x7.2.2.2.2) : Int), ((0 : Int), x7)))).bind fun (x8 : ((Int × (ByteArray × ((List (Int × ByteArray)) × (Int × (ByteArray × (List (Int × ByteArray))))))) ⊕ (ByteArray × ((List (Int × ByteArray)) × (Int × (ByteArray × (List (Int × ByteArray)))))))) => (match x8 with | .inl x9 => (bif (decide ((x9.1 < (0 : Int)))) then (bif ((true && (!false)) && ((((decide (((0 : Int) ≤ ((List.length x9.2.2.2.2.2) : Int)))) && (decide ((((List.length x9.2.2.2.2.2) : Int) ≤ ((List.length x9.2.2.2.2.2) : Int))))) && (Nat.ble (((List.length x9.2.2.2.2.2) + 1) * 24) 140737488355328)) && (Nat.ble ((List.length x9.2.2.2.2.2) + 1) 140737488355328))) then (some (x9.2.1, (((List.take (Int.toNat ((List.length x9.2.2.2.2.2) : Int)) x9.2.2.2.2.2) ++ ((x9.2.2.2.1, a.2.2) :: [])) ++ (List.drop (Int.toNat ((List.length x9.2.2.2.2.2) : Int)) x9.2.2.2.2.2)))) else none) else (bif ((true && (!false)) && ((((decide (((0 : Int) ≤ x9.1))) && (decide ((x9.1 ≤ ((List.length x9.2.2.2.2.2) : Int))))) && (Nat.ble (((List.length x9.2.2.2.2.2) + 1) * 24) 140737488355328)) && (Nat.ble ((List.length x9.2.2.2.2.2) + 1) 140737488355328))) then (some (x9.2.1, (((List.take (Int.toNat x9.1) x9.2.2.2.2.2) ++ ((x9.2.2.2.1, a.2.2) :: [])) ++ (List.drop (Int.toNat x9.1) x9.2.2.2.2.2)))) else none)) | .inr x9 => (bif ((true && (!false)) && ((((decide (((0 : Int) ≤ ((List.length x9.2.2.2.2) : Int)))) && (decide ((((List.length x9.2.2.2.2) : Int) ≤ ((List.length x9.2.2.2.2) : Int))))) && (Nat.ble (((List.length x9.2.2.2.2) + 1) * 24) 140737488355328)) && (Nat.ble ((List.length x9.2.2.2.2) + 1) 140737488355328))) then (some (x9.1, (((List.take (Int.toNat ((List.length x9.2.2.2.2) : Int)) x9.2.2.2.2) ++ ((x9.2.2.1, a.2.2) :: [])) ++ (List.drop (Int.toNat ((List.length x9.2.2.2.2) : Int)) x9.2.2.2.2)))) else none)))))))
theorem iso_Put.ok : ∀ a : Vals iso_Put.As.tys, fnK P iso_Put.H7 (lp []) 19 iso_Put.As iso_Put.m a some = iso_Put.f a := fun a => by kernel_rfl
noncomputable abbrev iso_Put.row : Row := fnRow 19 iso_Put.As iso_Put.m iso_Put.f
theorem iso_Put.row_ok : RowOK P G0 iso_Put.row := row_told iso_Put.hok7 (lp_of (l := []) trivial) (fun _ => rfl) iso_Put.ok
end Go.Proofs.YtkgnhjmbnmaboaaGreatDoor
end
section
/- The Go function iso.Get, as a Lean function, and that it is this one. Written by a program of this session. -/
set_option linter.unusedVariables false
set_option maxRecDepth 100000
namespace Go.Proofs.YtkgnhjmbnmaboaaGreatDoor
open Go Go.Fw
abbrev iso_Get.As : Shs := (.cons (.x T_api_Message) (.cons (.x (.i .i64)) .nil))
abbrev iso_Get.m : Back := [(false, .s), (false, .b)]
noncomputable abbrev iso_Get.H : HK := hk P G0 E0 J0 [] noLoops 4
theorem iso_Get.rows : TabOK P G0 (tabF []) := rows_ok (ws := []) trivial
theorem iso_Get.hok : HKOK P iso_Get.H := hk_ok e0_ok j0_ok iso_Get.rows (fun g n => noLoops_ok g n) 4
noncomputable abbrev iso_Get.shi0 : SSh := ⟨[(0, (.x (.l (.g (.p (.i .i64) .s))))), (1, (.fn 49 (.cons (.pt 1 0) .nil))), (7, (.x (.i .i64))), (8, (.x (.i .i64)))], [.box (.cons (.x .s) (.cons (.x (.l (.g (.p (.i .i64) .s)))) .nil)), .box (.cons (.x (.i .i64)) .nil)]⟩
noncomputable abbrev iso_Get.osi0 : PEnds := [(.ret, ⟨[(4, (.x (.i .i64)))], [.box (.cons (.x .s) (.cons (.x (.l (.g (.p (.i .i64) .s)))) .nil)), .box (.cons (.x (.i .i64)) .nil)]⟩), ((.exit 0), ⟨[], [.box (.cons (.x .s) (.cons (.x (.l (.g (.p (.i .i64) .s)))) .nil)), .box (.cons (.x (.i .i64)) .nil)]⟩)]
noncomputable def iso_Get.ti0 (s : ((List (Int × ByteArray)) × (Int × (Int × (ByteArray × ((List (Int × ByteArray)) × Int)))))) : Option (((List (Int × ByteArray)) × (Int × (Int × (ByteArray × ((List (Int × ByteArray)) × Int))))) ⊕ ((Int × (ByteArray × ((List (Int × ByteArray)) × Int))) ⊕ (ByteArray × ((List (Int × ByteArray)) × Int)))) := (bif (decide ((s.2.2.1 < s.2.1))) then (bif ((decide (((0 : Int) ≤ s.2.2.1))) && (decide ((s.2.2.1 < ((List.length s.1) : Int))))) then (bif ((List.getD s.1 (Int.toNat s.2.2.1) (Ty.dflt T_api_Field)).1 == s.2.2.2.2.2) then (some (.inr (.inl s.2.2))) else (some (.inl (s.1, (s.2.1, ((IntKind.wrap .i64 (s.2.2.1 + (1 : Int))), s.2.2.2)))))) else none) else (some (.inr (.inr s.2.2.2))))
theorem iso_Get.ti0_ok : ∀ s : Vals iso_Get.shi0.tys, turnK P iso_Get.H (lp []) (bodyAt (codeOf P 48) 3) 2 iso_Get.shi0 iso_Get.osi0 s some = iso_Get.ti0 s := fun s => by kernel_rfl
noncomputable def iso_Get.li0 : ((List (Int × ByteArray)) × (Int × (Int × (ByteArray × ((List (Int × ByteArray)) × Int))))) → Option ((Int × (ByteArray × ((List (Int × ByteArray)) × Int))) ⊕ (ByteArray × ((List (Int × ByteArray)) × Int))) := rounds iso_Get.ti0
noncomputable abbrev iso_Get.L1 : ILp := [(48, 2, [(3, (NodeT.summ ⟨iso_Get.shi0, iso_Get.osi0, iso_Get.li0⟩ 2))])]
theorem iso_Get.L1ok : ILpOK P G0 iso_Get.L1 := ⟨⟨(loop_sum iso_Get.hok (by kernel_rfl) (by kernel_rfl) (l := []) trivial iso_Get.shi0 iso_Get.osi0 (by kernel_rfl) iso_Get.ti0 iso_Get.ti0_ok), trivial⟩, trivial⟩
noncomputable abbrev iso_Get.H1 : HK := hk P G0 E0 J0 [] (ilp iso_Get.L1) 4
theorem iso_Get.hok1 : HKOK P iso_Get.H1 := hk_ok e0_ok j0_ok iso_Get.rows (fun g n => ilp_ok iso_Get.L1ok g n) 4
noncomputable def iso_Get.f (a : ((ByteArray × (List (Int × ByteArray))) × Int)) : Option (ByteArray × Bool) := (((iso_Get.li0 (a.1.2, (((List.length a.1.2) : Int), ((0 : Int), (a.1.1, (a.1.2, a.2))))))).bind fun (x2 : ((Int × (ByteArray × ((List (Int × ByteArray)) × Int))) ⊕ (ByteArray × ((List (Int × ByteArray)) × Int)))) => (match x2 with | .inl x3 => (bif (decide ((x3.1 < (0 : Int)))) then (some ((bs []), false)) else (bif ((decide (((0 : Int) ≤ x3.1))) && (decide ((x3.1 < ((List.length x3.2.2.1) : Int))))) then (some ((List.getD x3.2.2.1 (Int.toNat x3.1) (Ty.dflt T_api_Field)).2, true)) else none)) | .inr x3 => (some ((bs []), false))))
theorem iso_Get.ok : ∀ a : Vals iso_Get.As.tys, fnK P iso_Get.H1 (lp []) 17 iso_Get.As iso_Get.m a some = iso_Get.f a := fun a => by kernel_rfl
noncomputable abbrev iso_Get.row : Row := fnRow 17 iso_Get.As iso_Get.m iso_Get.f
theorem iso_Get.row_ok : RowOK P G0 iso_Get.row := row_told iso_Get.hok1 (lp_of (l := []) trivial) (fun _ => rfl) iso_Get.ok
end Go.Proofs.YtkgnhjmbnmaboaaGreatDoor
end
section
/- The Go function slices.Equal[[]api.Field,api.Field], as a Lean function, and that it is this one. Written by a program of this session. -/
set_option linter.unusedVariables false
set_option maxRecDepth 100000
namespace Go.Proofs.YtkgnhjmbnmaboaaGreatDoor
open Go Go.Fw
abbrev slices_Equal_api_Field_api_Field.As : Shs := (.cons (.x (.l (.g (.p (.i .i64) .s)))) (.cons (.x (.l (.g (.p (.i .i64) .s)))) .nil))
abbrev slices_Equal_api_Field_api_Field.m : Back := [(false, .b)]
noncomputable abbrev slices_Equal_api_Field_api_Field.H : HK := hk P G0 E0 J0 [] noLoops 4
theorem slices_Equal_api_Field_api_Field.rows : TabOK P G0 (tabF []) := rows_ok (ws := []) trivial
theorem slices_Equal_api_Field_api_Field.hok : HKOK P slices_Equal_api_Field_api_Field.H := hk_ok e0_ok j0_ok slices_Equal_api_Field_api_Field.rows (fun g n => noLoops_ok g n) 4
noncomputable abbrev slices_Equal_api_Field_api_Field.sh6 : SSh := ⟨[(0, (.x (.l (.g (.p (.i .i64) .s))))), (1, (.x (.l (.g (.p (.i .i64) .s))))), (12, (.x (.i .i64))), (13, (.x (.i .i64)))], []⟩
noncomputable abbrev slices_Equal_api_Field_api_Field.os6 : PEnds := [(.ret, ⟨[(4, (.x .b))], []⟩), ((.exit 0), ⟨[], []⟩)]
noncomputable def slices_Equal_api_Field_api_Field.t6 (s : ((List (Int × ByteArray)) × ((List (Int × ByteArray)) × (Int × Int)))) : Option (((List (Int × ByteArray)) × ((List (Int × ByteArray)) × (Int × Int))) ⊕ (Bool ⊕ Unit)) := (bif (decide ((s.2.2.2 < s.2.2.1))) then (bif ((decide (((0 : Int) ≤ s.2.2.2))) && (decide ((s.2.2.2 < ((List.length s.1) : Int))))) then (bif ((decide (((0 : Int) ≤ s.2.2.2))) && (decide ((s.2.2.2 < ((List.length s.2.1) : Int))))) then (bif (!(((List.getD s.1 (Int.toNat s.2.2.2) (Ty.dflt T_api_Field)).1 == (List.getD s.2.1 (Int.toNat s.2.2.2) (Ty.dflt T_api_Field)).1) && (((ByteArray.toList (List.getD s.1 (Int.toNat s.2.2.2) (Ty.dflt T_api_Field)).2) == (ByteArray.toList (List.getD s.2.1 (Int.toNat s.2.2.2) (Ty.dflt T_api_Field)).2)) && true))) then (some (.inr (.inl false))) else (some (.inl (s.1, (s.2.1, (s.2.2.1, (IntKind.wrap .i64 (s.2.2.2 + (1 : Int))))))))) else none) else none) else (some (.inr (.inr ()))))
theorem slices_Equal_api_Field_api_Field.t6_ok : ∀ s : Vals slices_Equal_api_Field_api_Field.sh6.tys, turnK P slices_Equal_api_Field_api_Field.H (lp []) (bodyAt (codeOf P 55) 6) 0 slices_Equal_api_Field_api_Field.sh6 slices_Equal_api_Field_api_Field.os6 s some = slices_Equal_api_Field_api_Field.t6 s := fun s => by kernel_rfl
noncomputable def slices_Equal_api_Field_api_Field.l6 : ((List (Int × ByteArray)) × ((List (Int × ByteArray)) × (Int × Int))) → Option (Bool ⊕ Unit) := rounds slices_Equal_api_Field_api_Field.t6
noncomputable def slices_Equal_api_Field_api_Field.f (a : ((List (Int × ByteArray)) × (List (Int × ByteArray)))) : Option Bool := (bif (((List.length a.1) : Int) != ((List.length a.2) : Int)) then (some false) else (((slices_Equal_api_Field_api_Field.l6 (a.1, (a.2, (((List.length a.1) : Int), (0 : Int)))))).bind fun (x2 : (Bool ⊕ PUnit)) => (match x2 with | .inl x3 => (some x3) | .inr x3 => (some true))))
theorem slices_Equal_api_Field_api_Field.ok : ∀ a : Vals slices_Equal_api_Field_api_Field.As.tys, fnK P slices_Equal_api_Field_api_Field.H (lp [(6, (NodeT.summ ⟨slices_Equal_api_Field_api_Field.sh6, slices_Equal_api_Field_api_Field.os6, slices_Equal_api_Field_api_Field.l6⟩ 0))]) 55 slices_Equal_api_Field_api_Field.As slices_Equal_api_Field_api_Field.m a some = slices_Equal_api_Field_api_Field.f a := fun a => by kernel_rfl
noncomputable abbrev slices_Equal_api_Field_api_Field.row : Row := fnRow 55 slices_Equal_api_Field_api_Field.As slices_Equal_api_Field_api_Field.m slices_Equal_api_Field_api_Field.f
theorem slices_Equal_api_Field_api_Field.row_ok : RowOK P G0 slices_Equal_api_Field_api_Field.row := row_told slices_Equal_api_Field_api_Field.hok (lp_of (l := [(6, (NodeT.summ ⟨slices_Equal_api_Field_api_Field.sh6, slices_Equal_api_Field_api_Field.os6, slices_Equal_api_Field_api_Field.l6⟩ 0))]) ⟨(loop_sum slices_Equal_api_Field_api_Field.hok (by kernel_rfl) (by kernel_rfl) (l := []) trivial slices_Equal_api_Field_api_Field.sh6 slices_Equal_api_Field_api_Field.os6 (by kernel_rfl) slices_Equal_api_Field_api_Field.t6 slices_Equal_api_Field_api_Field.t6_ok), trivial⟩) (fun _ => rfl) slices_Equal_api_Field_api_Field.ok
end Go.Proofs.YtkgnhjmbnmaboaaGreatDoor
end
section
/- The Go function iso.Same, as a Lean function, and that it is this one. Written by a program of this session. -/
set_option linter.unusedVariables false
set_option maxRecDepth 100000
namespace Go.Proofs.YtkgnhjmbnmaboaaGreatDoor
open Go Go.Fw
abbrev iso_Same.As : Shs := (.cons (.x T_api_Message) (.cons (.x T_api_Message) .nil))
abbrev iso_Same.m : Back := [(false, .b)]
noncomputable abbrev iso_Same.H : HK := hk P G0 E0 J0 [slices_Equal_api_Field_api_Field.row] noLoops 4
theorem iso_Same.rows : TabOK P G0 (tabF [slices_Equal_api_Field_api_Field.row]) := rows_ok (ws := [slices_Equal_api_Field_api_Field.row]) ⟨slices_Equal_api_Field_api_Field.row_ok, trivial⟩
theorem iso_Same.hok : HKOK P iso_Same.H := hk_ok e0_ok j0_ok iso_Same.rows (fun g n => noLoops_ok g n) 4
noncomputable def iso_Same.f (a : ((ByteArray × (List (Int × ByteArray))) × (ByteArray × (List (Int × ByteArray))))) : Option Bool := (bif ((ByteArray.toList a.1.1) == (ByteArray.toList a.2.1)) then (((slices_Equal_api_Field_api_Field.f (a.1.2, a.2.2))).bind fun (x2 : Bool) => (some x2)) else (some false))
theorem iso_Same.ok : ∀ a : Vals iso_Same.As.tys, fnK P iso_Same.H (lp []) 21 iso_Same.As iso_Same.m a some = iso_Same.f a := fun a => by kernel_rfl
noncomputable abbrev iso_Same.row : Row := fnRow 21 iso_Same.As iso_Same.m iso_Same.f
theorem iso_Same.row_ok : RowOK P G0 iso_Same.row := row_told iso_Same.hok (lp_of (l := []) trivial) (fun _ => rfl) iso_Same.ok
end Go.Proofs.YtkgnhjmbnmaboaaGreatDoor
end
section
/- The Go function bursarref19.Get, as a Lean function, and that it is this one. Written by a program of this session. -/
set_option linter.unusedVariables false
set_option maxRecDepth 100000
namespace Go.Proofs.YtkgnhjmbnmaboaaGreatDoor
open Go Go.Fw
abbrev bursarref19_Get.As : Shs := (.cons (.x T_api_Message) (.cons (.x (.i .i64)) .nil))
abbrev bursarref19_Get.m : Back := [(false, .s), (false, .b)]
noncomputable abbrev bursarref19_Get.H : HK := hk P G0 E0 J0 [] noLoops 4
theorem bursarref19_Get.rows : TabOK P G0 (tabF []) := rows_ok (ws := []) trivial
theorem bursarref19_Get.hok : HKOK P bursarref19_Get.H := hk_ok e0_ok j0_ok bursarref19_Get.rows (fun g n => noLoops_ok g n) 4
noncomputable abbrev bursarref19_Get.sh3 : SSh := ⟨[(1, (.x (.i .i64))), (2, (.pt 0 0)), (6, (.x (.i .i64)))], [.box (.cons (.x .s) (.cons (.x (.l (.g (.p (.i .i64) .s)))) .nil))]⟩
noncomputable abbrev bursarref19_Get.os3 : PEnds := [(.ret, ⟨[(4, (.x .s)), (5, (.x .b))], []⟩), ((.exit 0), ⟨[], []⟩)]
noncomputable def bursarref19_Get.t3 (s : (Int × (Int × (ByteArray × (List (Int × ByteArray)))))) : Option ((Int × (Int × (ByteArray × (List (Int × ByteArray))))) ⊕ ((ByteArray × Bool) ⊕ Unit)) := (bif (decide ((s.2.1 < ((List.length s.2.2.2) : Int)))) then (bif ((decide (((0 : Int) ≤ s.2.1))) && (decide ((s.2.1 < ((List.length s.2.2.2) : Int))))) then (bif ((List.getD s.2.2.2 (Int.toNat s.2.1) (Ty.dflt T_api_Field)).1 == s.1) then (bif ((decide (((0 : Int) ≤ s.2.1))) && (decide ((s.2.1 < ((List.length s.2.2.2) : Int))))) then (some (.inr (.inl ((List.getD s.2.2.2 (Int.toNat s.2.1) (Ty.dflt T_api_Field)).2, true)))) else none) else (some (.inl (s.1, ((IntKind.wrap .i64 (s.2.1 + (1 : Int))), s.2.2))))) else none) else (some (.inr (.inr ()))))
theorem bursarref19_Get.t3_ok : ∀ s : Vals bursarref19_Get.sh3.tys, turnK P bursarref19_Get.H (lp []) (bodyAt (codeOf P 18) 3) 0 bursarref19_Get.sh3 bursarref19_Get.os3 s some = bursarref19_Get.t3 s := fun s => by kernel_rfl
noncomputable def bursarref19_Get.l3 : (Int × (Int × (ByteArray × (List (Int × ByteArray))))) → Option ((ByteArray × Bool) ⊕ Unit) := rounds bursarref19_Get.t3
noncomputable def bursarref19_Get.f (a : ((ByteArray × (List (Int × ByteArray))) × Int)) : Option (ByteArray × Bool) := (((bursarref19_Get.l3 (a.2, ((0 : Int), a.1)))).bind fun (x2 : ((ByteArray × Bool) ⊕ PUnit)) => (match x2 with | .inl x3 => (some x3) | .inr x3 => (some ((bs []), false))))
theorem bursarref19_Get.ok : ∀ a : Vals bursarref19_Get.As.tys, fnK P bursarref19_Get.H (lp [(3, (NodeT.summ ⟨bursarref19_Get.sh3, bursarref19_Get.os3, bursarref19_Get.l3⟩ 0))]) 18 bursarref19_Get.As bursarref19_Get.m a some = bursarref19_Get.f a := fun a => by kernel_rfl
noncomputable abbrev bursarref19_Get.row : Row := fnRow 18 bursarref19_Get.As bursarref19_Get.m bursarref19_Get.f
theorem bursarref19_Get.row_ok : RowOK P G0 bursarref19_Get.row := row_told bursarref19_Get.hok (lp_of (l := [(3, (NodeT.summ ⟨bursarref19_Get.sh3, bursarref19_Get.os3, bursarref19_Get.l3⟩ 0))]) ⟨(loop_sum bursarref19_Get.hok (by kernel_rfl) (by kernel_rfl) (l := []) trivial bursarref19_Get.sh3 bursarref19_Get.os3 (by kernel_rfl) bursarref19_Get.t3 bursarref19_Get.t3_ok), trivial⟩) (fun _ => rfl) bursarref19_Get.ok
end Go.Proofs.YtkgnhjmbnmaboaaGreatDoor
end
section
/- The Go function bursarref19.Put, as a Lean function, and that it is this one. Written by a program of this session. -/
set_option linter.unusedVariables false
set_option maxRecDepth 100000
namespace Go.Proofs.YtkgnhjmbnmaboaaGreatDoor
open Go Go.Fw
abbrev bursarref19_Put.As : Shs := (.cons (.x T_api_Message) (.cons (.x (.i .i64)) (.cons (.x .s) .nil)))
abbrev bursarref19_Put.m : Back := [(false, T_api_Message)]
noncomputable abbrev bursarref19_Put.H : HK := hk P G0 E0 J0 [] noLoops 4
theorem bursarref19_Put.rows : TabOK P G0 (tabF []) := rows_ok (ws := []) trivial
theorem bursarref19_Put.hok : HKOK P bursarref19_Put.H := hk_ok e0_ok j0_ok bursarref19_Put.rows (fun g n => noLoops_ok g n) 4
noncomputable abbrev bursarref19_Put.sh5 : SSh := ⟨[(1, (.x (.i .i64))), (2, (.x .s)), (3, (.pt 0 0)), (6, (.pt 1 0)), (7, (.pt 2 0)), (8, (.x .b)), (9, (.x (.i .i64)))], [.box (.cons (.x .s) (.cons (.x (.l (.g (.p (.i .i64) .s)))) .nil)), .box (.cons (.x .s) (.cons (.own 3 2) .nil)), .box (.cons (.x .s) (.cons (.own 4 2) .nil)), .arrN T_api_Field, .arrN T_api_Field]⟩
noncomputable abbrev bursarref19_Put.os5 : PEnds := [((.exit 0), ⟨[(1, (.x (.i .i64))), (2, (.x .s)), (6, (.pt 0 0)), (7, (.pt 1 0)), (8, (.x .b))], [.box (.cons (.x .s) (.cons (.own 2 2) .nil)), .box (.cons (.x .s) (.cons (.own 3 2) .nil)), .arrN T_api_Field, .arrN T_api_Field]⟩)]
noncomputable def bursarref19_Put.t5 (s : (Int × (ByteArray × (Bool × (Int × (ByteArray × ((List (Int × ByteArray)) × (ByteArray × (ByteArray × ((List (Int × ByteArray)) × (List (Int × ByteArray)))))))))))) : Option ((Int × (ByteArray × (Bool × (Int × (ByteArray × ((List (Int × ByteArray)) × (ByteArray × (ByteArray × ((List (Int × ByteArray)) × (List (Int × ByteArray))))))))))) ⊕ ((Int × (ByteArray × (Bool × (ByteArray × (ByteArray × ((List (Int × ByteArray)) × (List (Int × ByteArray)))))))))) := (bif (decide ((s.2.2.2.1 < ((List.length s.2.2.2.2.2.1) : Int)))) then (bif ((decide (((0 : Int) ≤ s.2.2.2.1))) && (decide ((s.2.2.2.1 < ((List.length s.2.2.2.2.2.1) : Int))))) then (bif ((List.getD s.2.2.2.2.2.1 (Int.toNat s.2.2.2.1) (Ty.dflt T_api_Field)).1 == s.1) then (some (.inl (s.1, (s.2.1, (s.2.2.1, ((IntKind.wrap .i64 (s.2.2.2.1 + (1 : Int))), s.2.2.2.2)))))) else (bif ((decide (((0 : Int) ≤ s.2.2.2.1))) && (decide ((s.2.2.2.1 < ((List.length s.2.2.2.2.2.1) : Int))))) then (bif (decide (((List.getD s.2.2.2.2.2.1 (Int.toNat s.2.2.2.1) (Ty.dflt T_api_Field)).1 > s.1))) then (bif (!s.2.2.1) then (bif ((true && (Nat.ble (((List.length s.2.2.2.2.2.2.2.2.2) + (List.length ((s.1, s.2.1) :: []))) * 24) 140737488355328)) && (Nat.ble ((List.length s.2.2.2.2.2.2.2.2.2) + (List.length ((s.1, s.2.1) :: []))) 140737488355328)) then (bif ((decide (((0 : Int) ≤ s.2.2.2.1))) && (decide ((s.2.2.2.1 < ((List.length s.2.2.2.2.2.1) : Int))))) then (bif ((true && (Nat.ble (((List.length (s.2.2.2.2.2.2.2.2.2 ++ ((s.1, s.2.1) :: []))) + (List.length ((List.getD s.2.2.2.2.2.1 (Int.toNat s.2.2.2.1) (Ty.dflt T_api_Field)) :: []))) * 24) 140737488355328)) && (Nat.ble ((List.length (s.2.2.2.2.2.2.2.2.2 ++ ((s.1, s.2.1) :: []))) + (List.length ((List.getD s.2.2.2.2.2.1 (Int.toNat s.2.2.2.1) (Ty.dflt T_api_Field)) :: []))) 140737488355328)) then (some (.inl (s.1, (s.2.1, (true, ((IntKind.wrap .i64 (s.2.2.2.1 + (1 : Int))), (s.2.2.2.2.1, (s.2.2.2.2.2.1, (s.2.2.2.2.2.2.1, (s.2.2.2.2.2.2.2.1, (s.2.2.2.2.2.2.2.2.1, ((s.2.2.2.2.2.2.2.2.2 ++ ((s.1, s.2.1) :: [])) ++ ((List.getD s.2.2.2.2.2.1 (Int.toNat s.2.2.2.1) (Ty.dflt T_api_Field)) :: []))))))))))))) else none) else none) else none) else (bif ((decide (((0 : Int) ≤ s.2.2.2.1))) && (decide ((s.2.2.2.1 < ((List.length s.2.2.2.2.2.1) : Int))))) then (bif ((true && (Nat.ble (((List.length s.2.2.2.2.2.2.2.2.2) + (List.length ((List.getD s.2.2.2.2.2.1 (Int.toNat s.2.2.2.1) (Ty.dflt T_api_Field)) :: []))) * 24) 140737488355328)) && (Nat.ble ((List.length s.2.2.2.2.2.2.2.2.2) + (List.length ((List.getD s.2.2.2.2.2.1 (Int.toNat s.2.2.2.1) (Ty.dflt T_api_Field)) :: []))) 140737488355328)) then (some (.inl (s.1, (s.2.1, (s.2.2.1, ((IntKind.wrap .i64 (s.2.2.2.1 + (1 : Int))), (s.2.2.2.2.1, (s.2.2.2.2.2.1, (s.2.2.2.2.2.2.1, (s.2.2.2.2.2.2.2.1, (s.2.2.2.2.2.2.2.2.1, (s.2.2.2.2.2.2.2.2.2 ++ ((List.getD s.2.2.2.2.2.1 (Int.toNat s.2.2.2.1) (Ty.dflt T_api_Field)) :: []))))))))))))) else none) else none)) else (bif ((decide (((0 : Int) ≤ s.2.2.2.1))) && (decide ((s.2.2.2.1 < ((List.length s.2.2.2.2.2.1) : Int))))) then (bif ((true && (Nat.ble (((List.length s.2.2.2.2.2.2.2.2.2) + (List.length ((List.getD s.2.2.2.2.2.1 (Int.toNat s.2.2.2.1) (Ty.dflt T_api_Field)) :: []))) * 24) 140737488355328)) && (Nat.ble ((List.length s.2.2.2.2.2.2.2.2.2) + (List.length ((List.getD s.2.2.2.2.2.1 (Int.toNat s.2.2.2.1) (Ty.dflt T_api_Field)) :: []))) 140737488355328)) then (some (.inl (s.1, (s.2.1, (s.2.2.1, ((IntKind.wrap .i64 (s.2.2.2.1 + (1 : Int))), (s.2.2.2.2.1, (s.2.2.2.2.2.1, (s.2.2.2.2.2.2.1, (s.2.2.2.2.2.2.2.1, (s.2.2.2.2.2.2.2.2.1, (s.2.2.2.2.2.2.2.2.2 ++ ((List.getD s.2.2.2.2.2.1 (Int.toNat s.2.2.2.1) (Ty.dflt T_api_Field)) :: []))))))))))))) else none) else none)) else none)) else none) else (some (.inr (s.1, (s.2.1, (s.2.2.1, s.2.2.2.2.2.2))))))
theorem bursarref19_Put.t5_ok : ∀ s : Vals bursarref19_Put.sh5.tys, turnK P bursarref19_Put.H (lp []) (bodyAt (codeOf P 20) 5) 0 bursarref19_Put.sh5 bursarref19_Put.os5 s some = bursarref19_Put.t5 s := by rintro ⟨s0, s1, s2, s3, s4, s5, s6, s7, s8, s9⟩; cases s8 <;> cases s9 <;> kernel_rfl
noncomputable def bursarref19_Put.l5 : (Int × (ByteArray × (Bool × (Int × (ByteArray × ((List (Int × ByteArray)) × (ByteArray × (ByteArray × ((List (Int × ByteArray)) × (List (Int × ByteArray))))))))))) → Option ((Int × (ByteArray × (Bool × (ByteArray × (ByteArray × ((List (Int × ByteArray)) × (List (Int × ByteArray))))))))) := rounds bursarref19_Put.t5
noncomputable def bursarref19_Put.f (a : ((ByteArray × (List (Int × ByteArray))) × (Int × ByteArray))) : Option (ByteArray × (List (Int × ByteArray))) := (((bursarref19_Put.l5 (a.2.1, (a.2.2, (false, ((0 : Int), (a.1.1, (a.1.2, ((bs []), (a.1.1, ([], []))))))))))).bind fun (x3 : (Int × (ByteArray × (Bool × (ByteArray × (ByteArray × ((List (Int × ByteArray)) × (List (Int × ByteArray))))))))) => (match x3.2.2.2.2.2.1 with | [] => (match x3.2.2.2.2.2.2 with | [] => (bif (!x3.2.2.1) then (some (x3.2.2.2.2.1, ((x3.1, x3.2.1) :: []))) else (some (x3.2.2.2.2.1, []))) | x4 :: x5 => (bif (!x3.2.2.1) then (bif ((true && (Nat.ble (((List.length (x4 :: x5)) + (List.length ((x3.1, x3.2.1) :: []))) * 24) 140737488355328)) && (Nat.ble ((List.length (x4 :: x5)) + (List.length ((x3.1, x3.2.1) :: []))) 140737488355328)) then (some (x3.2.2.2.2.1, ((x4 :: x5) ++ ((x3.1, x3.2.1) :: [])))) else none) else (some (x3.2.2.2.2.1, (x4 :: x5))))) | x4 :: x5 => (match x3.2.2.2.2.2.2 with | [] => (bif (!x3.2.2.1) then (some (x3.2.2.2.2.1, ((x3.1, x3.2.1) :: []))) else (some (x3.2.2.2.2.1, []))) | x6 :: x7 => (bif (!x3.2.2.1) then (bif ((true && (Nat.ble (((List.length (x6 :: x7)) + (List.length ((x3.1, x3.2.1) :: []))) * 24) 140737488355328)) && (Nat.ble ((List.length (x6 :: x7)) + (List.length ((x3.1, x3.2.1) :: []))) 140737488355328)) then (some (x3.2.2.2.2.1, ((x6 :: x7) ++ ((x3.1, x3.2.1) :: [])))) else none) else (some (x3.2.2.2.2.1, (x6 :: x7)))))))
theorem bursarref19_Put.ok : ∀ a : Vals bursarref19_Put.As.tys, fnK P bursarref19_Put.H (lp [(5, (NodeT.summ ⟨bursarref19_Put.sh5, bursarref19_Put.os5, bursarref19_Put.l5⟩ 0))]) 20 bursarref19_Put.As bursarref19_Put.m a some = bursarref19_Put.f a := fun a => by kernel_rfl
noncomputable abbrev bursarref19_Put.row : Row := fnRow 20 bursarref19_Put.As bursarref19_Put.m bursarref19_Put.f
theorem bursarref19_Put.row_ok : RowOK P G0 bursarref19_Put.row := row_told bursarref19_Put.hok (lp_of (l := [(5, (NodeT.summ ⟨bursarref19_Put.sh5, bursarref19_Put.os5, bursarref19_Put.l5⟩ 0))]) ⟨(loop_sum bursarref19_Put.hok (by kernel_rfl) (by kernel_rfl) (l := []) trivial bursarref19_Put.sh5 bursarref19_Put.os5 (by kernel_rfl) bursarref19_Put.t5 bursarref19_Put.t5_ok), trivial⟩) (fun _ => rfl) bursarref19_Put.ok
end Go.Proofs.YtkgnhjmbnmaboaaGreatDoor
end
section
/- The Go function bursarlaw19.IsoFields, as a Lean function, and that it is this one. Written by a program of this session. -/
set_option linter.unusedVariables false
set_option maxRecDepth 100000
namespace Go.Proofs.YtkgnhjmbnmaboaaGreatDoor
open Go Go.Fw
abbrev bursarlaw19_IsoFields.As : Shs := (.cons (.x T_api_Message) (.cons (.x (.i .i64)) (.cons (.x .s) .nil)))
abbrev bursarlaw19_IsoFields.m : Back := [(false, .b)]
noncomputable abbrev bursarlaw19_IsoFields.H : HK := hk P G1 E0 J0 [bursarlaw19_Few.row, bursarlaw19_awake.row, bursarref19_Same.row, iso_Get.row, bursarref19_Get.row, iso_Put.row, bursarref19_Put.row, iso_Same.row] noLoops 4
theorem bursarlaw19_IsoFields.rows : TabOK P G1 (tabF [bursarlaw19_Few.row, bursarlaw19_awake.row, bursarref19_Same.row, iso_Get.row, bursarref19_Get.row, iso_Put.row, bursarref19_Put.row, iso_Same.row]) := rows_ok (ws := [bursarlaw19_Few.row, bursarlaw19_awake.row, bursarref19_Same.row, iso_Get.row, bursarref19_Get.row, iso_Put.row, bursarref19_Put.row, iso_Same.row]) ⟨(bursarlaw19_Few.row_ok.more g01), ⟨bursarlaw19_awake.row_ok, ⟨(bursarref19_Same.row_ok.more g01), ⟨(iso_Get.row_ok.more g01), ⟨(bursarref19_Get.row_ok.more g01), ⟨(iso_Put.row_ok.more g01), ⟨(bursarref19_Put.row_ok.more g01), ⟨(iso_Same.row_ok.more g01), trivial⟩⟩⟩⟩⟩⟩⟩⟩
theorem bursarlaw19_IsoFields.hok : HKOK P bursarlaw19_IsoFields.H := hk_ok e0_ok j0_ok bursarlaw19_IsoFields.rows (fun g n => noLoops_ok g n) 4
noncomputable def bursarlaw19_IsoFields.f (a : ((ByteArray × (List (Int × ByteArray))) × (Int × ByteArray))) : Option Bool := (((bursarlaw19_Few.f a.1)).bind fun (x3 : (ByteArray × (List (Int × ByteArray)))) => (((bursarlaw19_Few.f x3)).bind fun (x4 : (ByteArray × (List (Int × ByteArray)))) => (bif (decide (((a.2.2.size : Int) > (100 : Int)))) then (bif (true && (decide (((100 : Int) ≤ (a.2.2.size : Int))))) then (((iso_Get.f (x3, a.2.1))).bind fun (x5 : (ByteArray × Bool)) => (((bursarref19_Get.f (x3, a.2.1))).bind fun (x6 : (ByteArray × Bool)) => (((iso_Put.f (x3, (a.2.1, (ByteArray.extract a.2.2 0 100))))).bind fun (x7 : (ByteArray × (List (Int × ByteArray)))) => (((bursarref19_Put.f (x3, (a.2.1, (ByteArray.extract a.2.2 0 100))))).bind fun (x8 : (ByteArray × (List (Int × ByteArray)))) => (((iso_Get.f (x7, a.2.1))).bind fun (x9 : (ByteArray × Bool)) => (bif ((ByteArray.toList x5.1) == (ByteArray.toList x6.1)) then (bif (x5.2 == x6.2) then (((bursarref19_Same.f (x7, x8))).bind fun (x10 : Bool) => (bif x10 then (bif ((ByteArray.toList x9.1) == (ByteArray.toList (ByteArray.extract a.2.2 0 100))) then (bif x9.2 then (((bursarref19_Same.f (x3, x4))).bind fun (x11 : Bool) => (bif x11 then (((iso_Same.f (x7, x8))).bind fun (x12 : Bool) => (bif x12 then (((iso_Same.f (x3, x7))).bind fun (x13 : Bool) => (((bursarref19_Same.f (x3, x7))).bind fun (x14 : Bool) => (bif (x13 == x14) then (((bursarlaw19_awake.f ())).bind fun (x15 : Bool) => (some x15)) else (some false)))) else (some false))) else (some false))) else (some false)) else (some false)) else (some false))) else (some false)) else (some false))))))) else none) else (((iso_Get.f (x3, a.2.1))).bind fun (x5 : (ByteArray × Bool)) => (((bursarref19_Get.f (x3, a.2.1))).bind fun (x6 : (ByteArray × Bool)) => (((iso_Put.f (x3, a.2))).bind fun (x7 : (ByteArray × (List (Int × ByteArray)))) => (((bursarref19_Put.f (x3, a.2))).bind fun (x8 : (ByteArray × (List (Int × ByteArray)))) => (((iso_Get.f (x7, a.2.1))).bind fun (x9 : (ByteArray × Bool)) => (bif ((ByteArray.toList x5.1) == (ByteArray.toList x6.1)) then (bif (x5.2 == x6.2) then (((bursarref19_Same.f (x7, x8))).bind fun (x10 : Bool) => (bif x10 then (bif ((ByteArray.toList x9.1) == (ByteArray.toList a.2.2)) then (bif x9.2 then (((bursarref19_Same.f (x3, x4))).bind fun (x11 : Bool) => (bif x11 then (((iso_Same.f (x7, x8))).bind fun (x12 : Bool) => (bif x12 then (((iso_Same.f (x3, x7))).bind fun (x13 : Bool) => (((bursarref19_Same.f (x3, x7))).bind fun (x14 : Bool) => (bif (x13 == x14) then (((bursarlaw19_awake.f ())).bind fun (x15 : Bool) => (some x15)) else (some false)))) else (some false))) else (some false))) else (some false)) else (some false)) else (some false))) else (some false)) else (some false))))))))))
theorem bursarlaw19_IsoFields.ok : ∀ a : Vals bursarlaw19_IsoFields.As.tys, fnK P bursarlaw19_IsoFields.H (lp []) 4 bursarlaw19_IsoFields.As bursarlaw19_IsoFields.m a some = bursarlaw19_IsoFields.f a := fun a => by kernel_rfl
noncomputable abbrev bursarlaw19_IsoFields.row : Row := fnRow 4 bursarlaw19_IsoFields.As bursarlaw19_IsoFields.m bursarlaw19_IsoFields.f
theorem bursarlaw19_IsoFields.row_ok : RowOK P G1 bursarlaw19_IsoFields.row := row_told bursarlaw19_IsoFields.hok (lp_of (l := []) trivial) (fun _ => rfl) bursarlaw19_IsoFields.ok
end Go.Proofs.YtkgnhjmbnmaboaaGreatDoor
end
section
/- Fields of messages: which there is, and with one more; IsoFields. By this session. -/
set_option linter.unusedVariables false
set_option linter.unusedSimpArgs false
namespace Go.Proofs.YtkgnhjmbnmaboaaGreatDoor
open Go Go.Fw
abbrev zF : Fld := (0, bs [])
/-- the first place where something is so -/
theorem find_first {R : Type} {l : List Fld} {p : Fld → Bool} {g : Nat → R} :
    (List.range l.length).findSome? (fun i => bif p (l.getD i zF) then some (g i) else none) = (bif decide (l.findIdx p < l.length) then some (g (l.findIdx p)) else none) := by
  have hno : ∀ j, j < l.findIdx p → j < l.length → p (l.getD j zF) = false := fun j h1 h2 => by
    rw [getD_at h2]
    have := List.not_of_lt_findIdx h1
    simpa using this
  by_cases h : l.findIdx p < l.length
  · rw [decide_eq_true h, cond_true]
    refine range_some h (fun j hj => ?_) ?_
    · show (bif p (l.getD j zF) then some (g j) else none) = none
      rw [hno j hj (by omega)]; rfl
    · have := List.findIdx_getElem (w := h)
      show (bif p (l.getD (l.findIdx p) zF) then some (g (l.findIdx p)) else none) = _
      rw [getD_at h, this]; rfl
  · rw [decide_eq_false h, cond_false]
    have he : l.findIdx p = l.length := Nat.le_antisymm List.findIdx_le_length (by omega)
    refine range_none (Nat.le_refl _) fun j hj => ?_
    show (bif p (l.getD j zF) then some (g j) else none) = none
    rw [hno j (by omega) hj]; rfl
def getF (l : List Fld) (n : Int) : ByteArray × Bool := bif decide (l.findIdx (fun f => f.1 == n) < l.length) then ((l.getD (l.findIdx fun f => f.1 == n) zF).2, true) else (bs [], false)
theorem get_is {t : ByteArray} {l : List Fld} (hl : l.length ≤ 1000) (n : Int) : iso_Get.f ((t, l), n) = some (getF l n) := by
  have hf := rounds_first (t := iso_Get.ti0) (fun i => (l, (l.length : Int), ((i : Nat) : Int), t, l, n)) (fun i => bif (l.getD i zF).1 == n then some (.inl (((i : Nat) : Int), t, l, n)) else none) (.inr (t, l, n)) l.length (fun i hi _ => by
    simp only [iso_Get.ti0, inb hi, cond_true, ge0' i, Bool.and_self, Int.toNat_natCast, dflt_fld, wrap_up (show i < 9223372036854775807 by omega)]
    cases ((l.getD i zF).1 == n) <;> rfl) (fun _ => by simp only [iso_Get.ti0, outb, cond_false])
  have hf' : iso_Get.li0 (l, (l.length : Int), 0, t, l, n) = _ := hf
  unfold iso_Get.f getF
  simp only [hf', find_first (l := l) (p := fun f => f.1 == n) (g := fun i => Sum.inl (β := ByteArray × List Fld × Int) (((i : Nat) : Int), t, l, n))]
  by_cases h : l.findIdx (fun f => f.1 == n) < l.length
  · rw [decide_eq_true h]
    simp only [cond_true, Option.getD_some, Option.bind_some, decide_eq_false (show ¬ ((l.findIdx (fun f => f.1 == n) : Nat) : Int) < 0 by omega), cond_false, ge0', inb h, Bool.and_self, Int.toNat_natCast, dflt_fld]
  · rw [decide_eq_false h]
    rfl
theorem refGet_is {t : ByteArray} {l : List Fld} (hl : l.length ≤ 1000) (n : Int) : bursarref19_Get.f ((t, l), n) = some (getF l n) := by
  have hf := rounds_first (t := bursarref19_Get.t3) (fun i => (n, ((i : Nat) : Int), t, l)) (fun i => bif (l.getD i zF).1 == n then some (.inl ((l.getD i zF).2, true)) else none) (.inr ()) l.length (fun i hi _ => by
    simp only [bursarref19_Get.t3, inb hi, cond_true, ge0' i, Bool.and_self, Int.toNat_natCast, dflt_fld, wrap_up (show i < 9223372036854775807 by omega)]
    cases ((l.getD i zF).1 == n) <;> rfl) (fun _ => by simp only [bursarref19_Get.t3, outb, cond_false])
  have hf' : bursarref19_Get.l3 (n, 0, t, l) = _ := hf
  unfold bursarref19_Get.f getF
  simp only [hf', find_first (l := l) (p := fun f => f.1 == n) (g := fun i => Sum.inl (β := Unit) ((l.getD i zF).2, true))]
  by_cases h : l.findIdx (fun f => f.1 == n) < l.length
  · rw [decide_eq_true h]; rfl
  · rw [decide_eq_false h]; rfl
/-! ### with a field -/
abbrev over (n : Int) (f : Fld) : Bool := decide (f.1 > n)
abbrev other (n : Int) (f : Fld) : Bool := !(f.1 == n)
def putF (d : List Fld) (n : Int) (v : ByteArray) : List Fld := d.take (d.findIdx (over n)) ++ [(n, v)] ++ d.drop (d.findIdx (over n))
theorem putF_done {d : List Fld} {n : Int} (h : d.any (over n) = true) (v : ByteArray) (x : Fld) : putF (d ++ [x]) n v = putF d n v ++ [x] := by
  have hi : d.findIdx (over n) < d.length := by
    rw [List.findIdx_lt_length]
    rw [List.any_eq_true] at h
    exact h
  unfold putF
  rw [List.findIdx_append, if_pos hi, List.take_append_of_le_length (by omega), List.drop_append_of_le_length (by omega)]
  simp
theorem findIdx_no {d : List Fld} {n : Int} (h : d.any (over n) = false) : d.findIdx (over n) = d.length := by
  refine Nat.le_antisymm List.findIdx_le_length ?_
  refine Nat.le_of_not_lt fun hi => ?_
  rw [List.findIdx_lt_length] at hi
  obtain ⟨x, hx, hp⟩ := hi
  rw [List.any_eq_false] at h
  exact h x hx hp
theorem putF_no {d : List Fld} {n : Int} (h : d.any (over n) = false) (v : ByteArray) : putF d n v = d ++ [(n, v)] := by
  unfold putF
  rw [findIdx_no h]
  simp
theorem putF_new {d : List Fld} {n : Int} (h : d.any (over n) = false) (v : ByteArray) {x : Fld} (hx : over n x = true) : putF (d ++ [x]) n v = d ++ [(n, v)] ++ [x] := by
  unfold putF
  have e : (d ++ [x]).findIdx (over n) = d.length := by
    rw [List.findIdx_append, if_neg (by rw [findIdx_no h]; omega)]
    simp [List.findIdx_cons, hx]
  rw [e, List.take_left, List.drop_left]
theorem putF_len (d : List Fld) (n : Int) (v : ByteArray) : (putF d n v).length = d.length + 1 := by
  have : d.findIdx (over n) ≤ d.length := List.findIdx_le_length
  unfold putF
  simp only [List.length_append, List.length_take, List.length_drop, List.length_cons, List.length_nil]
  omega
abbrev keepF (l : List Fld) (n : Int) : List Fld := l.filter (other n)
def outR (d : List Fld) (n : Int) (v : ByteArray) : List Fld := bif d.any (over n) then putF d n v else d
theorem refPut_is {t : ByteArray} {l : List Fld} (hl : l.length ≤ 1000) (n : Int) (v : ByteArray) : bursarref19_Put.f ((t, l), n, v) = some (t, putF (keepF l n) n v) := by
  have hlen : ∀ i, (outR (keepF (l.take i) n) n v).length ≤ 1001 := fun i => by
    have h1 : (keepF (l.take i) n).length ≤ (l.take i).length := List.length_filter_le _ _
    have h2 : (l.take i).length ≤ 1000 := by simp; omega
    unfold outR
    cases (keepF (l.take i) n).any (over n)
    · simp only [cond_false]; omega
    · simp only [cond_true, putF_len]; omega
  have hf := rounds_to (t := bursarref19_Put.t5) (fun i => (n, v, (keepF (l.take i) n).any (over n), ((i : Nat) : Int), t, l, bs [], t, ([] : List Fld), outR (keepF (l.take i) n) n v)) l.length (fun i hi => by
    have ho := hlen i
    have hup : keepF (l.take (i + 1)) n = keepF (l.take i) n ++ (bif other n (l.getD i zF) then [l.getD i zF] else []) := by
      unfold keepF
      rw [take_up zF hi, List.filter_append]
      congr 1
    rw [hup]
    obtain ⟨d, hd⟩ : ∃ d, keepF (l.take i) n = d := ⟨_, rfl⟩
    rw [hd] at ho ⊢
    obtain ⟨x, hx⟩ : ∃ x, l.getD i zF = x := ⟨_, rfl⟩
    unfold bursarref19_Put.t5
    rw [dflt_fld]
    simp only [inb hi, cond_true, ge0' i, Bool.and_self, Int.toNat_natCast, hx, wrap_up (show i < 9223372036854775807 by omega), List.length_append, List.length_cons, List.length_nil]
    rw [Nat.ble_eq_true_of_le (by omega), Nat.ble_eq_true_of_le (by omega), Nat.ble_eq_true_of_le (by omega), Nat.ble_eq_true_of_le (by omega)]
    by_cases c : x.1 = n
    · have e1 : (x.1 == n) = true := by rw [c]; simp
      simp only [other, e1, Bool.not_true, cond_false, cond_true, List.append_nil]
    · have e1 : (x.1 == n) = false := by simpa using c
      simp only [other, e1, Bool.not_false, cond_false, cond_true, List.any_append, List.any_cons, List.any_nil, Bool.or_false]
      by_cases g : x.1 > n
      · have g' : over n x = true := decide_eq_true g
        rw [g', decide_eq_true g]
        cases ha : d.any (over n)
        · have e2 : outR (d ++ [x]) n v = d ++ [(n, v)] ++ [x] := by
            unfold outR
            rw [List.any_append, show [x].any (over n) = true by simp [g], Bool.or_true, cond_true, putF_new ha v g']
          have e3 : outR d n v = d := by unfold outR; rw [ha]; rfl
          rw [e2, e3]
          rfl
        · have e2 : outR (d ++ [x]) n v = outR d n v ++ [x] := by
            unfold outR
            rw [List.any_append, ha, Bool.true_or, cond_true, putF_done ha v x]; rfl
          rw [e2]
          rfl
      · have g' : over n x = false := decide_eq_false g
        rw [g', decide_eq_false g]
        have e2 : outR (d ++ [x]) n v = outR d n v ++ [x] := by
          unfold outR
          rw [List.any_append, show [x].any (over n) = false by simp only [List.any_cons, List.any_nil, g', Bool.or_false], Bool.or_false]
          cases ha : d.any (over n)
          · rfl
          · simp only [cond_true]; rw [putF_done ha v x]
        rw [e2, Bool.or_false]
        rfl)
  have hf' : bursarref19_Put.l5 (n, v, false, 0, t, l, bs [], t, [], []) = rounds bursarref19_Put.t5 (n, v, (keepF (l.take l.length) n).any (over n), ((l.length : Nat) : Int), t, l, bs [], t, ([] : List Fld), outR (keepF (l.take l.length) n) n v) := hf
  rw [List.take_length] at hf'
  have ho := hlen l.length
  rw [List.take_length] at ho
  unfold bursarref19_Put.f
  rw [hf', rounds_end (r := (n, v, (keepF l n).any (over n), bs [], t, [], outR (keepF l n) n v)) (by simp only [bursarref19_Put.t5, outb, cond_false])]
  obtain ⟨d, hd⟩ : ∃ d, keepF l n = d := ⟨_, rfl⟩
  rw [hd] at ho ⊢
  simp only [Option.bind_some]
  cases ha : d.any (over n)
  · have e3 : outR d n v = d := by unfold outR; rw [ha]; rfl
    rw [e3] at ho ⊢
    rw [putF_no ha]
    cases d with
    | nil => rfl
    | cons a b =>
      simp only [List.length_cons] at ho
      simp only [Bool.not_false, cond_true, List.length_cons, List.length_nil]
      rw [Nat.ble_eq_true_of_le (by omega), Nat.ble_eq_true_of_le (by omega)]
      rfl
  · have e3 : outR d n v = putF d n v := by unfold outR; rw [ha]; rfl
    rw [e3]
    cases putF d n v <;> rfl
/-! ### the program's -/
theorem li3_is {L : List Fld} (hL : L.length ≤ 1000) (t : ByteArray) (l : List Fld) (n : Int) (e : ByteArray) : iso_Put.li3 ((L.length : Int), 0, t, l, n, e, L) = some (bif decide (L.findIdx (fun f => f.1 == n) < L.length) then .inl (((L.findIdx fun f => f.1 == n : Nat) : Int), t, l, n, e, L) else .inr (t, l, n, e, L)) := by
  have hf := rounds_first (t := iso_Put.ti3) (fun i => ((L.length : Int), ((i : Nat) : Int), t, l, n, e, L)) (fun i => bif (L.getD i zF).1 == n then some (.inl (((i : Nat) : Int), t, l, n, e, L)) else none) (.inr (t, l, n, e, L)) L.length (fun i hi _ => by
    have hb : Nat.blt i L.length = true := by rw [Nat.blt_eq]; exact hi
    simp only [iso_Put.ti3, inb hi, cond_true, ge0' i, Bool.and_self, Int.toNat_natCast, dflt_fld, Nat.zero_add, hb, wrap_up (show i < 9223372036854775807 by omega)]
    cases ((L.getD i zF).1 == n) <;> rfl) (fun _ => by simp only [iso_Put.ti3, outb, cond_false])
  have hf' : iso_Put.li3 ((L.length : Int), 0, t, l, n, e, L) = _ := hf
  rw [hf', find_first (l := L) (p := fun f => f.1 == n) (g := fun i => Sum.inl (β := ByteArray × List Fld × Int × ByteArray × List Fld) (((i : Nat) : Int), t, l, n, e, L))]
  cases decide (L.findIdx (fun f => f.1 == n) < L.length) <;> rfl
theorem li4_is {L : List Fld} (hL : L.length ≤ 1000) (t : ByteArray) (l : List Fld) (n : Int) (e : ByteArray) : iso_Put.li4 ((L.length : Int), 0, t, l, n, e, L) = some (bif decide (L.findIdx (over n) < L.length) then .inl (((L.findIdx (over n) : Nat) : Int), t, l, n, e, L) else .inr (t, l, n, e, L)) := by
  have hf := rounds_first (t := iso_Put.ti4) (fun i => ((L.length : Int), ((i : Nat) : Int), t, l, n, e, L)) (fun i => bif over n (L.getD i zF) then some (.inl (((i : Nat) : Int), t, l, n, e, L)) else none) (.inr (t, l, n, e, L)) L.length (fun i hi _ => by
    have hb : Nat.blt i L.length = true := by rw [Nat.blt_eq]; exact hi
    unfold iso_Put.ti4
    rw [dflt_fld]
    simp only [inb hi, cond_true, ge0' i, Bool.and_self, Int.toNat_natCast, Nat.zero_add, hb, wrap_up (show i < 9223372036854775807 by omega)]
    by_cases g : (L.getD i zF).1 > n
    · rw [show over n (L.getD i zF) = true from decide_eq_true g, decide_eq_true g]; rfl
    · rw [show over n (L.getD i zF) = false from decide_eq_false g, decide_eq_false g]; rfl) (fun _ => by simp only [iso_Put.ti4, outb, cond_false])
  have hf' : iso_Put.li4 ((L.length : Int), 0, t, l, n, e, L) = _ := hf
  rw [hf', find_first (l := L) (p := over n) (g := fun i => Sum.inl (β := ByteArray × List Fld × Int × ByteArray × List Fld) (((i : Nat) : Int), t, l, n, e, L))]
  cases decide (L.findIdx (over n) < L.length) <;> rfl
theorem li6_eq : iso_Put.li6 = iso_Put.li4 := rfl
theorem take_set {d : List Fld} {i : Nat} (h : i < d.length) (x : Fld) : (d.set i x).take (i + 1) = d.take i ++ [x] := by
  have hl : i < (d.set i x).length := by simpa using h
  rw [take_up zF hl, List.take_set_of_le (Nat.le_refl i), getD_at hl]
  simp
theorem li5_is (l : List Fld) (hl : l.length ≤ 1000) (n : Int) (t : ByteArray) (l0 : List Fld) (e : ByteArray) : ∀ (k i j : Nat) (arr : List Fld), j + k = l.length → arr.length = l.length → i ≤ j → i = (keepF (l.take j) n).length → arr.take i = keepF (l.take j) n → arr.drop j = l.drop j →
    ∃ r, iso_Put.li5 ((i : Int), (j : Int), t, l0, n, e, arr) = some (((keepF l n).length : Int), t, l0, n, e, r) ∧ r.length = l.length ∧ r.take (keepF l n).length = keepF l n
  | 0, i, j, arr, hj, ha, hij, hi, ht, hd => by
    have hjl : j = l.length := by omega
    subst hjl
    rw [List.take_length] at hi ht
    subst hi
    refine ⟨arr, ?_, ha, ht⟩
    refine rounds_end ?_
    simp only [iso_Put.ti5, ha, outb, cond_false]
  | k + 1, i, j, arr, hj, ha, hij, hi, ht, hd => by
    have hjl : j < arr.length := by omega
    have hjl' : j < l.length := by omega
    have hil : i < arr.length := by omega
    have hb1 : Nat.blt j arr.length = true := by rw [Nat.blt_eq]; exact hjl
    have hb2 : Nat.blt i arr.length = true := by rw [Nat.blt_eq]; exact hil
    have hx : arr.getD j zF = l.getD j zF := by
      have := congrArg (fun y => y.getD 0 zF) hd
      simpa [List.getD_eq_getElem?_getD, List.getElem?_drop] using this
    have hup : keepF (l.take (j + 1)) n = keepF (l.take j) n ++ (bif other n (l.getD j zF) then [l.getD j zF] else []) := by
      unfold keepF
      rw [take_up zF hjl', List.filter_append]
      congr 1
    have hdn : arr.drop (j + 1) = l.drop (j + 1) := by
      rw [← List.drop_drop, ← List.drop_drop, hd]
    by_cases c : (l.getD j zF).1 = n
    · have e1 : ((l.getD j zF).1 == n) = true := by rw [c]; simp
      have step : iso_Put.ti5 ((i : Int), (j : Int), t, l0, n, e, arr) = some (.inl ((i : Int), ((j + 1 : Nat) : Int), t, l0, n, e, arr)) := by
        simp only [iso_Put.ti5, inb hjl, cond_true, ge0' j, Bool.and_self, Int.toNat_natCast, dflt_fld, Nat.zero_add, hb1, hx, e1, Bool.not_true, cond_false, wrap_up (show j < 9223372036854775807 by omega)]
      have hk : keepF (l.take (j + 1)) n = keepF (l.take j) n := by rw [hup]; simp only [other, e1, Bool.not_true, cond_false, List.append_nil]
      have ih := li5_is l hl n t l0 e k i (j + 1) arr (by omega) ha (by omega) (by rw [hk]; exact hi) (by rw [hk]; exact ht) hdn
      obtain ⟨r, h1, h2⟩ := ih
      refine ⟨r, ?_, h2⟩
      unfold iso_Put.li5 at h1 ⊢
      rw [rounds_next step, h1]
    · have e1 : ((l.getD j zF).1 == n) = false := by simpa using c
      have step : iso_Put.ti5 ((i : Int), (j : Int), t, l0, n, e, arr) = some (.inl (((i + 1 : Nat) : Int), ((j + 1 : Nat) : Int), t, l0, n, e, arr.set i (l.getD j zF))) := by
        simp only [iso_Put.ti5, inb hjl, inb hil, cond_true, ge0' j, ge0' i, Bool.and_self, Int.toNat_natCast, dflt_fld, Nat.zero_add, hb1, hb2, hx, e1, Bool.not_false, wrap_up (show j < 9223372036854775807 by omega), wrap_up (show i < 9223372036854775807 by omega)]
      have hk : keepF (l.take (j + 1)) n = keepF (l.take j) n ++ [l.getD j zF] := by rw [hup]; simp only [other, e1, Bool.not_false, cond_true]
      have ih := li5_is l hl n t l0 e k (i + 1) (j + 1) (arr.set i (l.getD j zF)) (by omega) (by simpa using ha) (by omega) (by rw [hk, List.length_append, ← hi]; rfl) (by rw [take_set hil, ht, hk]) (by rw [List.drop_set_of_lt (by omega), hdn])
      obtain ⟨r, h1, h2⟩ := ih
      refine ⟨r, ?_, h2⟩
      unfold iso_Put.li5 at h1 ⊢
      rw [rounds_next step, h1]
theorem putF_cut (d : List Fld) (n : Int) (v : ByteArray) : putF d n v = bif decide (d.findIdx (over n) < d.length) then d.take (d.findIdx (over n)) ++ [(n, v)] ++ d.drop (d.findIdx (over n)) else d.take d.length ++ [(n, v)] ++ d.drop d.length := by
  by_cases h : d.findIdx (over n) < d.length
  · rw [decide_eq_true h]; rfl
  · rw [decide_eq_false h]
    have : d.findIdx (over n) = d.length := Nat.le_antisymm List.findIdx_le_length (by omega)
    unfold putF
    rw [this]; rfl
theorem keep_all {l : List Fld} {n : Int} (h : ¬ l.findIdx (fun f => f.1 == n) < l.length) : keepF l n = l := by
  unfold keepF
  rw [List.filter_eq_self]
  intro f hf
  cases e : (f.1 == n)
  · simp [other, e]
  · exact absurd (List.findIdx_lt_length.2 ⟨f, hf, e⟩) h
theorem keep_start {l : List Fld} {n : Int} (h : l.findIdx (fun f => f.1 == n) < l.length) : keepF (l.take (l.findIdx fun f => f.1 == n)) n = l.take (l.findIdx fun f => f.1 == n) ∧ keepF (l.take (l.findIdx (fun f => f.1 == n) + 1)) n = l.take (l.findIdx fun f => f.1 == n) := by
  obtain ⟨i, hi⟩ : ∃ i, l.findIdx (fun f => f.1 == n) = i := ⟨_, rfl⟩
  have h1 : keepF (l.take i) n = l.take i := by
    unfold keepF
    rw [List.filter_eq_self]
    intro f hf
    obtain ⟨j, hj, rfl⟩ := List.getElem_of_mem hf
    have hj' : j < i := by have : j < (l.take i).length := hj; simp at this; omega
    have hn := List.not_of_lt_findIdx (p := fun f : Fld => f.1 == n) (xs := l) (i := j) (by rw [hi]; exact hj')
    rw [List.getElem_take]
    simp only [other]
    simpa using hn
  have hp := List.findIdx_getElem (p := fun f : Fld => f.1 == n) (xs := l) (w := h)
  rw [hi] at h ⊢
  refine ⟨h1, ?_⟩
  rw [take_up zF h]
  unfold keepF at h1 ⊢
  rw [List.filter_append, h1, getD_at h]
  have hq : (l[i].1 == n) = true := by
    simp only [hi] at hp
    exact hp
  simp [other, hq]
theorem put_is {t : ByteArray} {l : List Fld} (hl : l.length ≤ 1000) (n : Int) (v : ByteArray) : iso_Put.f ((t, l), n, v) = some (t, putF (keepF l n) n v) := by
  have hc : slices_Clone_api_Field_api_Field.f l = some l := by
    unfold slices_Clone_api_Field_api_Field.f
    rw [Nat.ble_eq_true_of_le (by omega), Nat.ble_eq_true_of_le (by omega)]; rfl
  unfold iso_Put.f
  simp only [hc, Option.bind_some]
  cases l with
  | nil =>
    have e0 : iso_Put.li0 ([], 0, 0, t, [], n, bs []) = some (.inr (t, [], n, bs [])) := rounds_end (by simp [iso_Put.ti0])
    have e1 : iso_Put.li1 ([], 0, 0, t, [], n, bs []) = some (.inr (t, [], n, bs [])) := rounds_end (by simp [iso_Put.ti1])
    simp only [e0, e1, Option.bind_some]
    rfl
  | cons x y =>
    obtain ⟨L, hL⟩ : ∃ L, x :: y = L := ⟨_, rfl⟩
    rw [hL] at hl ⊢
    have fin : ∀ (D : List Fld), D.length ≤ 1000 → ∀ (W : List Fld), (match (bif decide (D.findIdx (over n) < D.length) then Sum.inl (β := ByteArray × List Fld × Int × ByteArray × List Fld) (((D.findIdx (over n) : Nat) : Int), t, W, n, bs [], D) else .inr (t, W, n, bs [], D)) with
        | .inl x9 => (bif (decide ((x9.1 < (0 : Int)))) then (bif ((true && (!false)) && ((((decide (((0 : Int) ≤ ((List.length x9.2.2.2.2.2) : Int)))) && (decide ((((List.length x9.2.2.2.2.2) : Int) ≤ ((List.length x9.2.2.2.2.2) : Int))))) && (Nat.ble (((List.length x9.2.2.2.2.2) + 1) * 24) 140737488355328)) && (Nat.ble ((List.length x9.2.2.2.2.2) + 1) 140737488355328))) then (some (x9.2.1, (((List.take (Int.toNat ((List.length x9.2.2.2.2.2) : Int)) x9.2.2.2.2.2) ++ ((x9.2.2.2.1, v) :: [])) ++ (List.drop (Int.toNat ((List.length x9.2.2.2.2.2) : Int)) x9.2.2.2.2.2)))) else none) else (bif ((true && (!false)) && ((((decide (((0 : Int) ≤ x9.1))) && (decide ((x9.1 ≤ ((List.length x9.2.2.2.2.2) : Int))))) && (Nat.ble (((List.length x9.2.2.2.2.2) + 1) * 24) 140737488355328)) && (Nat.ble ((List.length x9.2.2.2.2.2) + 1) 140737488355328))) then (some (x9.2.1, (((List.take (Int.toNat x9.1) x9.2.2.2.2.2) ++ ((x9.2.2.2.1, v) :: [])) ++ (List.drop (Int.toNat x9.1) x9.2.2.2.2.2)))) else none))
        | .inr x9 => (bif ((true && (!false)) && ((((decide (((0 : Int) ≤ ((List.length x9.2.2.2.2) : Int)))) && (decide ((((List.length x9.2.2.2.2) : Int) ≤ ((List.length x9.2.2.2.2) : Int))))) && (Nat.ble (((List.length x9.2.2.2.2) + 1) * 24) 140737488355328)) && (Nat.ble ((List.length x9.2.2.2.2) + 1) 140737488355328))) then (some (x9.1, (((List.take (Int.toNat ((List.length x9.2.2.2.2) : Int)) x9.2.2.2.2) ++ ((x9.2.2.1, v) :: [])) ++ (List.drop (Int.toNat ((List.length x9.2.2.2.2) : Int)) x9.2.2.2.2)))) else none)) = some (t, putF D n v) := by
      intro D hD W
      rw [putF_cut]
      by_cases h : D.findIdx (over n) < D.length
      · simp only [decide_eq_true h, cond_true, decide_eq_false (show ¬ ((D.findIdx (over n) : Nat) : Int) < 0 by omega), cond_false, ge0', decide_eq_true (show ((D.findIdx (over n) : Nat) : Int) ≤ (D.length : Int) by omega), Nat.ble_eq_true_of_le (show (D.length + 1) * 24 ≤ 140737488355328 by omega), Nat.ble_eq_true_of_le (show D.length + 1 ≤ 140737488355328 by omega), Bool.and_self, Bool.not_false, Int.toNat_natCast]
      · simp only [decide_eq_false h, cond_false, ge0', decide_eq_true (show (D.length : Int) ≤ (D.length : Int) by omega), Nat.ble_eq_true_of_le (show (D.length + 1) * 24 ≤ 140737488355328 by omega), Nat.ble_eq_true_of_le (show D.length + 1 ≤ 140737488355328 by omega), Bool.and_self, Bool.not_false, Int.toNat_natCast, cond_true]
    simp only [← hL]
    simp only [hL]
    rw [li3_is hl]
    by_cases h : L.findIdx (fun f => f.1 == n) < L.length
    · obtain ⟨i, hi⟩ : ∃ i, L.findIdx (fun f => f.1 == n) = i := ⟨_, rfl⟩
      obtain ⟨s1, s2⟩ := keep_start h
      rw [hi] at h s1 s2
      have hne : (((i : Nat) : Int) == -1) = false := by rw [beq_eq_false_iff_ne]; omega
      have hti : (L.take i).length = i := by simp; omega
      obtain ⟨r, r1, r2, r3⟩ := li5_is L hl n t L (bs []) (L.length - (i + 1)) i (i + 1) L (by omega) rfl (by omega) (by rw [s2, hti]) (by rw [s2]) rfl
      have hk : (keepF L n).length ≤ L.length := List.length_filter_le _ _
      obtain ⟨k, hkk⟩ : ∃ k, (keepF L n).length = k := ⟨_, rfl⟩
      rw [hkk] at r1 r3 hk
      have c1 : (r.take k ++ List.replicate (r.length - k) ((0 : Int), bs []) ++ r.drop (k + (r.length - k))).take k = keepF L n := by
        rw [List.append_assoc, List.take_append_of_le_length (by rw [r3, hkk]; omega), r3, List.take_of_length_le (by omega)]
      have c2 : (r.take k ++ List.replicate (r.length - k) ((0 : Int), bs []) ++ r.drop (k + (r.length - k))).length = r.length := by
        simp only [List.length_append, List.length_take, List.length_replicate, List.length_drop]; omega
      rw [hi, decide_eq_true h]
      simp only [cond_true, Option.bind_some, hne, cond_false, wrap_up (show i < 9223372036854775807 by omega), r1, ge0', decide_eq_true (show (k : Int) ≤ (r.length : Int) by omega), Bool.and_self, Int.toNat_natCast, Nat.zero_add, Nat.sub_zero, List.drop_zero, Nat.ble_eq_true_of_le (show k + (r.length - k) ≤ r.length by omega), c1, c2, Nat.ble_eq_true_of_le (show k ≤ r.length by omega), li6_eq, li4_is (L := keepF L n) (by omega)]
      exact fin (keepF L n) (by omega) L
    · rw [decide_eq_false h]
      simp only [cond_false, Option.bind_some]
      rw [li4_is hl]
      simp only [Option.bind_some]
      rw [keep_all h]
      exact fin L hl L
/-! ### the same messages -/
theorem isoSame_is (a b : Msg) (ha : a.2.length ≤ 1001) : iso_Same.f (a, b) = some (decide (a = b)) := by
  obtain ⟨t, l⟩ := a
  obtain ⟨t', l'⟩ := b
  have ha : l.length ≤ 1001 := ha
  unfold iso_Same.f slices_Equal_api_Field_api_Field.f
  simp only [texts_eq]
  by_cases ht : t = t'
  · subst ht
    simp only [decide_true, cond_true]
    by_cases he : l.length = l'.length
    · have e : (((l.length : Nat) : Int) != ((l'.length : Nat) : Int)) = false := by rw [he]; simp
      have fld_beq : ∀ x y : Fld, ((x.1 == y.1) && ((ByteArray.toList x.2 == ByteArray.toList y.2) && true)) = decide (x = y) := fun x y => by
        obtain ⟨k, s⟩ := x
        obtain ⟨k', s'⟩ := y
        rw [texts_eq, Bool.and_true, Bool.eq_iff_iff]
        simp
      have hf := rounds_first (t := slices_Equal_api_Field_api_Field.t6) (fun i => (l, l', (l.length : Int), ((i : Nat) : Int))) (fun i => bif decide (l.getD i zF = l'.getD i zF) then none else some (.inl false)) (.inr ()) l.length (fun i hi _ => by
        simp only [slices_Equal_api_Field_api_Field.t6, inb hi, inb (show i < l'.length by omega), cond_true, ge0' i, Bool.and_self, Int.toNat_natCast, dflt_fld, fld_beq, wrap_up (show i < 9223372036854775807 by omega)]
        cases decide (l.getD i zF = l'.getD i zF) <;> rfl) (fun _ => by simp only [slices_Equal_api_Field_api_Field.t6, outb, cond_false])
      have hf' : slices_Equal_api_Field_api_Field.l6 (l, l', (l.length : Int), 0) = _ := hf
      simp only [e, cond_false, hf', Option.bind_some]
      have hall : (List.range l.length).all (fun i => decide (l.getD i zF = l'.getD i zF)) = decide (l = l') := by
        rw [Bool.eq_iff_iff, List.all_eq_true, decide_eq_true_eq]
        constructor
        · intro h
          refine List.ext_getElem he fun i h1 h2 => ?_
          have := of_decide_eq_true (h i (List.mem_range.2 h1))
          rwa [getD_at h1, getD_at h2] at this
        · rintro rfl i _; exact decide_eq_true rfl
      rcases find_not (n := l.length) (p := fun i => decide (l.getD i zF = l'.getD i zF)) (g := fun i => Sum.inl (β := Unit) false) with ⟨i, _, h1, h2⟩ | ⟨h1, h2⟩
      · rw [h1]
        rw [hall] at h2
        rw [decide_eq_false (fun h => (of_decide_eq_false h2) (congrArg Prod.snd h))]
        rfl
      · rw [h1]
        rw [hall] at h2
        rw [of_decide_eq_true h2, decide_eq_true rfl]
        rfl
    · have e : (((l.length : Nat) : Int) != ((l'.length : Nat) : Int)) = true := by simp only [bne_iff_ne, ne_eq]; omega
      have hne : ¬ ((t, l) = (t, l')) := fun h => he (congrArg (fun x : Msg => x.2.length) h)
      rw [e, decide_eq_false hne]
      rfl
  · have hne : ¬ ((t, l) = (t', l')) := fun h => ht (congrArg Prod.fst h)
    rw [decide_eq_false ht, decide_eq_false hne]
    rfl
/-! ### IsoFields -/
theorem cutV_id {f : Fld} (h : f.2.size ≤ 1001) : cutV f = f := by
  unfold cutV
  rw [decide_eq_false (by omega)]; rfl
theorem few19_id {m : Msg} (hg : goodM m) (h8 : m.1.size ≤ 8) : bursarlaw19_Few.f m = some m := by
  obtain ⟨t, l⟩ := m
  have hl : l.length ≤ 130 := hg.1
  have h8 : t.size ≤ 8 := h8
  have hm : l.map cutV = l := by
    conv => rhs; rw [← List.map_id l]
    exact List.map_congr_left fun f hf => cutV_id (hg.2 f hf)
  unfold bursarlaw19_Few.f
  simp only [decide_eq_false (show ¬ (l.length : Int) > 130 by omega), decide_eq_false (show ¬ (t.size : Int) > 8 by omega), cond_false, few19_rounds hl _ _ rfl, Option.bind_some, hm]
theorem few19_is' (m : Msg) : ∃ x, bursarlaw19_Few.f m = some x ∧ goodM x ∧ x.1.size ≤ 8 := by
  obtain ⟨t, l⟩ := m
  have good : ∀ (t : ByteArray) (l : List Fld), l.length ≤ 130 → goodM (t, l.map cutV) := fun t l h => ⟨by simpa using h, fun f hf => by
    obtain ⟨g, _, rfl⟩ := List.mem_map.1 hf
    exact cutV_size g⟩
  have hc : (List.take 130 (List.drop 0 l)).length ≤ 130 := by simp; omega
  have h8 : (t.extract 0 8).size ≤ 8 := by rw [ByteArray.size_extract]; omega
  unfold bursarlaw19_Few.f
  by_cases c1 : (l.length : Int) > 130
  · by_cases c2 : (t.size : Int) > 8
    · simp only [decide_eq_true c1, decide_eq_true (show (130 : Int) ≤ (l.length : Int) by omega), decide_eq_true c2, decide_eq_true (show (8 : Int) ≤ (t.size : Int) by omega), Bool.and_self, cond_true, few19_rounds hc _ _ rfl, Option.bind_some]
      exact ⟨_, rfl, good _ _ hc, h8⟩
    · simp only [decide_eq_true c1, decide_eq_true (show (130 : Int) ≤ (l.length : Int) by omega), decide_eq_false c2, Bool.and_self, cond_true, cond_false, few19_rounds hc _ _ rfl, Option.bind_some]
      exact ⟨_, rfl, good _ _ hc, by show t.size ≤ 8; omega⟩
  · by_cases c2 : (t.size : Int) > 8
    · simp only [decide_eq_false c1, decide_eq_true c2, decide_eq_true (show (8 : Int) ≤ (t.size : Int) by omega), Bool.and_self, cond_true, cond_false, few19_rounds (show l.length ≤ 130 by omega) _ _ rfl, Option.bind_some]
      exact ⟨_, rfl, good _ _ (by omega), h8⟩
    · simp only [decide_eq_false c1, decide_eq_false c2, Bool.and_self, cond_true, cond_false, few19_rounds (show l.length ≤ 130 by omega) _ _ rfl, Option.bind_some]
      exact ⟨_, rfl, good _ _ (by omega), by show t.size ≤ 8; omega⟩
theorem get_put (l : List Fld) (n : Int) (v : ByteArray) : getF (putF (keepF l n) n v) n = (v, true) := by
  obtain ⟨d, hd⟩ : ∃ d, keepF l n = d := ⟨_, rfl⟩
  have hno : ∀ f ∈ d, (f.1 == n) = false := fun f hf => by
    rw [← hd] at hf
    have := (List.mem_filter.1 hf).2
    simpa [other] using this
  rw [hd]
  obtain ⟨p, hp⟩ : ∃ p, d.take (d.findIdx (over n)) = p := ⟨_, rfl⟩
  obtain ⟨q, hq⟩ : ∃ q, d.drop (d.findIdx (over n)) = q := ⟨_, rfl⟩
  have hpn : ∀ f ∈ p, (f.1 == n) = false := fun f hf => hno f (by rw [← hp] at hf; exact List.mem_of_mem_take hf)
  have e : putF d n v = p ++ ((n, v) :: q) := by unfold putF; rw [hp, hq, List.append_assoc]; rfl
  have hp' : ¬ p.findIdx (fun f => f.1 == n) < p.length := fun h => by
    obtain ⟨f, hf, h⟩ := List.findIdx_lt_length.1 h
    rw [hpn f hf] at h
    cases h
  have hi : (p ++ ((n, v) :: q)).findIdx (fun f => f.1 == n) = p.length := by
    rw [List.findIdx_append, if_neg hp', List.findIdx_cons]
    simp
  unfold getF
  rw [e, hi, decide_eq_true (by simp), cond_true]
  simp [List.getD_eq_getElem?_getD]
theorem IsoFields_is (a : Msg × Int × ByteArray) : bursarlaw19_IsoFields.f a = some true := by
  obtain ⟨a1, n, v0⟩ := a
  obtain ⟨⟨t, l⟩, hm, hg, h8⟩ := few19_is' a1
  have hl : l.length ≤ 130 := hg.1
  have hid := few19_id hg h8
  have hk : (keepF l n).length ≤ l.length := List.length_filter_le _ _
  have hput : ∀ v, (putF (keepF l n) n v).length ≤ 200 := fun v => by rw [putF_len]; omega
  have key : ∀ v, iso_Get.f ((t, putF (keepF l n) n v), n) = some (v, true) := fun v => by rw [get_is (by have := hput v; omega), get_put]
  have s1 : ∀ v, bursarref19_Same.f ((t, putF (keepF l n) n v), (t, putF (keepF l n) n v)) = some true := fun v => by
    rw [same19_is _ _ (show (putF (keepF l n) n v).length ≤ 1000 by have := hput v; omega), decide_eq_true rfl]
  have s2 : ∀ v, iso_Same.f ((t, putF (keepF l n) n v), (t, putF (keepF l n) n v)) = some true := fun v => by
    rw [isoSame_is _ _ (show (putF (keepF l n) n v).length ≤ 1001 by have := hput v; omega), decide_eq_true rfl]
  have s3 : bursarref19_Same.f ((t, l), (t, l)) = some true := by rw [same19_is _ _ (show l.length ≤ 1000 by omega), decide_eq_true rfl]
  have s4 : ∀ v, bursarref19_Same.f ((t, l), (t, putF (keepF l n) n v)) = some (decide ((t, l) = (t, putF (keepF l n) n v))) := fun v => same19_is _ _ (show l.length ≤ 1000 by omega)
  have s5 : ∀ v, iso_Same.f ((t, l), (t, putF (keepF l n) n v)) = some (decide ((t, l) = (t, putF (keepF l n) n v))) := fun v => isoSame_is _ _ (show l.length ≤ 1001 by omega)
  unfold bursarlaw19_IsoFields.f
  simp only [hm, hid, Option.bind_some, get_is (show l.length ≤ 1000 by omega), refGet_is (show l.length ≤ 1000 by omega), put_is (show l.length ≤ 1000 by omega), refPut_is (show l.length ≤ 1000 by omega), key, texts_eq, decide_true, cond_true, BEq.rfl, s1, s2, s3, s4, s5, awake19]
  by_cases c : (v0.size : Int) > 100
  · rw [decide_eq_true c, decide_eq_true (show (100 : Int) ≤ (v0.size : Int) by omega)]
    rfl
  · rw [decide_eq_false c]
    rfl
end Go.Proofs.YtkgnhjmbnmaboaaGreatDoor
end
section
/- Fields in whatever order: lists that rise, and what is put into them. By this session. -/
set_option linter.unusedVariables false
set_option linter.unusedSimpArgs false
namespace Go.Proofs.YtkgnhjmbnmaboaaGreatDoor
open Go Go.Fw
abbrev Rise (l : List Fld) : Prop := l.Pairwise fun x y => x.1 < y.1
theorem rise_ext : ∀ {l m : List Fld}, Rise l → Rise m → (∀ x, x ∈ l ↔ x ∈ m) → l = m
  | [], [], _, _, _ => rfl
  | [], b :: m, _, _, h => by have := (h b).2 List.mem_cons_self; cases this
  | a :: l, [], _, _, h => by have := (h a).1 List.mem_cons_self; cases this
  | a :: l, b :: m, hl, hm, h => by
    obtain ⟨l1, l2⟩ := List.pairwise_cons.1 hl
    obtain ⟨m1, m2⟩ := List.pairwise_cons.1 hm
    have hab : a = b := by
      rcases List.mem_cons.1 ((h a).1 List.mem_cons_self) with e | e
      · exact e
      · rcases List.mem_cons.1 ((h b).2 List.mem_cons_self) with e' | e'
        · exact e'.symm
        · have := m1 a e; have := l1 b e'; omega
    subst hab
    refine congrArg (a :: ·) (rise_ext l2 m2 fun x => ⟨fun hx => ?_, fun hx => ?_⟩)
    · rcases List.mem_cons.1 ((h x).1 (List.mem_cons_of_mem _ hx)) with e | e
      · subst e; have := l1 x hx; omega
      · exact e
    · rcases List.mem_cons.1 ((h x).2 (List.mem_cons_of_mem _ hx)) with e | e
      · subst e; have := m1 x hx; omega
      · exact e
theorem put_mem (l : List Fld) (n : Int) (v : ByteArray) (x : Fld) : x ∈ putF (keepF l n) n v ↔ x = (n, v) ∨ (x ∈ l ∧ x.1 ≠ n) := by
  have hk : ∀ y, y ∈ keepF l n ↔ y ∈ l ∧ y.1 ≠ n := fun y => by
    unfold keepF
    rw [List.mem_filter]
    simp [other]
  have hs : x ∈ putF (keepF l n) n v ↔ x = (n, v) ∨ x ∈ keepF l n := by
    obtain ⟨d, hd⟩ : ∃ d, keepF l n = d := ⟨_, rfl⟩
    rw [hd]
    unfold putF
    obtain ⟨i, hi⟩ : ∃ i, d.findIdx (over n) = i := ⟨_, rfl⟩
    rw [hi]
    have : x ∈ d ↔ x ∈ d.take i ∨ x ∈ d.drop i := by
      conv => lhs; rw [← List.take_append_drop i d]
      exact List.mem_append
    rw [this, List.mem_append, List.mem_append, List.mem_singleton]
    constructor
    · rintro ((h | h) | h)
      · exact .inr (.inl h)
      · exact .inl h
      · exact .inr (.inr h)
    · rintro (h | h | h)
      · exact .inl (.inr h)
      · exact .inl (.inl h)
      · exact .inr h
  rw [hs, hk]
theorem keep_rise {l : List Fld} (h : Rise l) (n : Int) : Rise (keepF l n) := List.Pairwise.sublist List.filter_sublist h
theorem put_rise {l : List Fld} (h : Rise l) (n : Int) (v : ByteArray) : Rise (putF (keepF l n) n v) := by
  have hk := keep_rise h n
  have hne : ∀ y ∈ keepF l n, y.1 ≠ n := fun y hy => by
    have := (List.mem_filter.1 hy).2
    simpa [other] using this
  obtain ⟨d, hd⟩ : ∃ d, keepF l n = d := ⟨_, rfl⟩
  rw [hd] at hk hne ⊢
  unfold putF
  obtain ⟨i, hi⟩ : ∃ i, d.findIdx (over n) = i := ⟨_, rfl⟩
  have hlow : ∀ y ∈ d.take i, y.1 < n := fun y hy => by
    obtain ⟨j, hj, rfl⟩ := List.getElem_of_mem hy
    have hj' : j < i := by have : j < (d.take i).length := hj; simp at this; omega
    have hn := List.not_of_lt_findIdx (p := over n) (xs := d) (i := j) (by rw [hi]; exact hj')
    have h1 := hne _ (List.mem_of_mem_take hy)
    rw [List.getElem_take] at h1 ⊢
    simp only [over, decide_eq_true_eq] at hn
    have hn' := of_decide_eq_false hn
    omega
  have hhigh : ∀ y ∈ d.drop i, n < y.1 := fun y hy => by
    obtain ⟨j, hj, rfl⟩ := List.getElem_of_mem hy
    have hj' : i + j < d.length := by have : j < (d.drop i).length := hj; simp at this; omega
    have hid : i < d.length := by omega
    have hp := List.findIdx_getElem (p := over n) (xs := d) (w := by rw [hi]; exact hid)
    simp only [hi, over, decide_eq_true_eq] at hp
    rw [List.getElem_drop]
    by_cases h0 : j = 0
    · subst h0; simpa using hp
    · have := List.pairwise_iff_getElem.1 hk i (i + j) hid hj' (by omega)
      omega
  rw [hi]
  have hdr : Rise (d.drop i) := List.Pairwise.sublist (List.drop_sublist i d) hk
  have htk : Rise (d.take i) := List.Pairwise.sublist (List.take_sublist i d) hk
  rw [List.append_assoc]
  refine List.pairwise_append.2 ⟨htk, ?_, fun x hx y hy => ?_⟩
  · exact List.pairwise_cons.2 ⟨fun y hy => hhigh y hy, hdr⟩
  · have h1 := hlow x hx
    rcases List.mem_cons.1 hy with rfl | hy
    · exact h1
    · have := hhigh y hy; omega
theorem put_twice (l : List Fld) (n : Int) (v w : ByteArray) : putF (keepF (putF (keepF l n) n w) n) n v = putF (keepF l n) n v := by
  have e : keepF (putF (keepF l n) n w) n = keepF l n := by
    have hkk : ∀ d : List Fld, (∀ y ∈ d, y.1 ≠ n) → keepF d n = d := fun d h => by
      unfold keepF
      rw [List.filter_eq_self]
      intro y hy
      simp [other, h y hy]
    have hne : ∀ y ∈ keepF l n, y.1 ≠ n := fun y hy => by
      have := (List.mem_filter.1 hy).2
      simpa [other] using this
    obtain ⟨d, hd⟩ : ∃ d, keepF l n = d := ⟨_, rfl⟩
    rw [hd] at hne ⊢
    unfold putF
    have h1 := hkk (d.take (d.findIdx (over n))) fun y hy => hne y (List.mem_of_mem_take hy)
    have h2 := hkk (d.drop (d.findIdx (over n))) fun y hy => hne y (List.mem_of_mem_drop hy)
    unfold keepF at h1 h2 ⊢
    rw [List.filter_append, List.filter_append, h1, h2]
    have : List.filter (other n) [(n, w)] = [] := by simp [other]
    rw [this, List.append_nil, List.take_append_drop]
  rw [e]
/-- no number twice -/
def Once (o : List Fld) : Prop := ∀ i j, i < o.length → j < o.length → (o.getD i zF).1 = (o.getD j zF).1 → i = j
theorem Once.mem {o : List Fld} (h : Once o) {x y : Fld} (hx : x ∈ o) (hy : y ∈ o) (e : x.1 = y.1) : x = y := by
  obtain ⟨i, hi, rfl⟩ := List.getElem_of_mem hx
  obtain ⟨j, hj, rfl⟩ := List.getElem_of_mem hy
  have := h i j hi hj (by rw [getD_at hi, getD_at hj]; exact e)
  subst this; rfl
/-- what comes of putting so many, in an order -/
def puts (o : List Fld) (s : Nat → Nat) : Nat → List Fld
  | 0 => []
  | i + 1 => putF (keepF (puts o s i) (o.getD (s i) zF).1) (o.getD (s i) zF).1 (o.getD (s i) zF).2
theorem puts_mem {o : List Fld} (h : Once o) (s : Nat → Nat) (hs : ∀ i, i < o.length → s i < o.length) : ∀ i, i ≤ o.length → ∀ x, x ∈ puts o s i ↔ ∃ j, j < i ∧ x = o.getD (s j) zF
  | 0, _, x => by simp [puts]
  | i + 1, hi, x => by
    have ih := puts_mem h s hs i (by omega)
    have hin : ∀ j, j < o.length → o.getD (s j) zF ∈ o := fun j hj => by rw [getD_at (hs j hj)]; exact List.getElem_mem _
    simp only [puts, put_mem]
    constructor
    · rintro (e | ⟨hx, _⟩)
      · exact ⟨i, by omega, e⟩
      · obtain ⟨j, hj, e⟩ := (ih x).1 hx
        exact ⟨j, by omega, e⟩
    · rintro ⟨j, hj, e⟩
      by_cases hji : x.1 = (o.getD (s i) zF).1
      · left
        rw [e] at hji ⊢
        exact h.mem (hin j (by omega)) (hin i (by omega)) hji
      · right
        refine ⟨(ih x).2 ⟨j, ?_, e⟩, hji⟩
        by_cases hij : j = i
        · subst hij; rw [e] at hji; exact absurd rfl hji
        · omega
theorem puts_rise (o : List Fld) (s : Nat → Nat) : ∀ i, Rise (puts o s i)
  | 0 => List.Pairwise.nil
  | i + 1 => put_rise (puts_rise o s i) _ _
theorem puts_len {o : List Fld} (h : Once o) : ∀ i, i ≤ o.length → (puts o id i).length = i
  | 0, _ => rfl
  | i + 1, hi => by
    have ih := puts_len h i (by omega)
    have hk : keepF (puts o id i) (o.getD i zF).1 = puts o id i := by
      unfold keepF
      rw [List.filter_eq_self]
      intro y hy
      obtain ⟨j, hj, rfl⟩ := (puts_mem h id (fun i hi => hi) i (by omega) y).1 hy
      simp only [other, id, Bool.not_eq_true', beq_eq_false_iff_ne, ne_eq]
      intro e
      have := h j i (by omega) (by omega) e
      omega
    show (putF (keepF (puts o id i) (o.getD i zF).1) (o.getD i zF).1 (o.getD i zF).2).length = i + 1
    rw [hk, putF_len, ih]
theorem puts_id {o : List Fld} (h : Once o) (x : Fld) : x ∈ puts o id o.length ↔ x ∈ o := by
  rw [puts_mem h id (fun i hi => hi) o.length (Nat.le_refl _)]
  constructor
  · rintro ⟨j, hj, rfl⟩
    show o.getD j zF ∈ o
    rw [getD_at hj]; exact List.getElem_mem _
  · intro hx
    obtain ⟨j, hj, rfl⟩ := List.getElem_of_mem hx
    exact ⟨j, hj, by show _ = o.getD j zF; rw [getD_at hj]⟩
theorem puts_turn {o : List Fld} (h : Once o) (r : Nat) : puts o (fun i => (i + r) % o.length) o.length = puts o id o.length := by
  by_cases h0 : o.length = 0
  · rw [h0]; rfl
  refine rise_ext (puts_rise _ _ _) (puts_rise _ _ _) fun x => ?_
  rw [puts_mem h _ (fun i _ => Nat.mod_lt _ (by omega)) o.length (Nat.le_refl _), puts_id h]
  constructor
  · rintro ⟨j, hj, rfl⟩
    rw [getD_at (Nat.mod_lt _ (by omega))]; exact List.getElem_mem _
  · intro hx
    obtain ⟨k, hk, rfl⟩ := List.getElem_of_mem hx
    have hr : r % o.length < o.length := Nat.mod_lt _ (by omega)
    have hmod : ∀ j, (j + r) % o.length = (j + r % o.length) % o.length := fun j => by rw [Nat.add_mod, Nat.add_mod j (r % o.length), Nat.mod_mod]
    by_cases hc : r % o.length ≤ k
    · refine ⟨k - r % o.length, by omega, ?_⟩
      simp only [hmod]
      rw [show k - r % o.length + r % o.length = k by omega, Nat.mod_eq_of_lt hk, getD_at hk]
    · refine ⟨k + o.length - r % o.length, by omega, ?_⟩
      simp only [hmod]
      rw [show k + o.length - r % o.length + r % o.length = k + o.length by omega, Nat.add_mod_right, Nat.mod_eq_of_lt hk, getD_at hk]
theorem getF_rise {l : List Fld} (h : Rise l) {i : Nat} (hi : i < l.length) : getF l (l.getD i zF).1 = ((l.getD i zF).2, true) := by
  have hf : l.findIdx (fun f => f.1 == (l.getD i zF).1) = i := by
    have hle : l.findIdx (fun f => f.1 == (l.getD i zF).1) < l.length := List.findIdx_lt_length.2 ⟨l[i], List.getElem_mem hi, by rw [getD_at hi]; simp⟩
    have hp := List.findIdx_getElem (p := fun f : Fld => f.1 == (l.getD i zF).1) (xs := l) (w := hle)
    obtain ⟨k, hk⟩ : ∃ k, l.findIdx (fun f => f.1 == (l.getD i zF).1) = k := ⟨_, rfl⟩
    simp only [hk] at hp
    rw [hk] at hle ⊢
    have hp := eq_of_beq hp
    have hgi : (l.getD i zF).1 = l[i].1 := by rw [getD_at hi]
    have hp := hp.trans hgi
    rcases Nat.lt_trichotomy k i with h1 | h1 | h1
    · have := List.pairwise_iff_getElem.1 h k i hle hi h1; omega
    · exact h1
    · have := List.pairwise_iff_getElem.1 h i k hi hle h1; omega
  unfold getF
  rw [hf, decide_eq_true hi]
  rfl
/-! ### what was met -/
theorem intEq (a b : Int) : Ty.eqb (.i .i64) a b = decide (a = b) := by
  show (a == b) = _
  rw [Bool.eq_iff_iff]; simp
theorem met_put (k k' : Int) (v : ByteArray) : ∀ l : List Fld, mget (.i .i64) .s (mput (.i .i64) .s l k v) k' = if k' = k then some v else mget (.i .i64) .s l k'
  | [] => by
    simp only [mput, mget, intEq]
    by_cases h : k' = k
    · rw [if_pos h, decide_eq_true h]; rfl
    · rw [if_neg h, decide_eq_false h]; rfl
  | e :: l => by
    have ih := met_put k k' v l
    simp only [mput, intEq]
    by_cases h1 : k = e.1
    · rw [decide_eq_true h1]
      simp only [cond_true, mget, intEq]
      by_cases h : k' = k
      · rw [if_pos h, decide_eq_true h]; rfl
      · rw [if_neg h, decide_eq_false h, decide_eq_false (fun h2 => h (h2.trans h1.symm))]; rfl
    · rw [decide_eq_false h1]
      simp only [cond_false, mget, intEq, ih]
      by_cases h : k' = e.1
      · have hne : ¬ k' = k := fun h2 => h1 (h2.symm.trans h)
        rw [if_neg hne, if_neg hne]
      · rw [decide_eq_false h]; rfl
end Go.Proofs.YtkgnhjmbnmaboaaGreatDoor
end
section
/- The Go function bursarlaw19.IsoOrder, as a Lean function, and that it is this one. Written by a program of this session. -/
set_option linter.unusedVariables false
set_option maxRecDepth 100000
namespace Go.Proofs.YtkgnhjmbnmaboaaGreatDoor
open Go Go.Fw
abbrev bursarlaw19_IsoOrder.As : Shs := (.cons (.x (.l (.g (.p (.i .i64) .s)))) (.cons (.x (.i .u8)) .nil))
abbrev bursarlaw19_IsoOrder.m : Back := [(false, .b)]
noncomputable abbrev bursarlaw19_IsoOrder.H : HK := hk P G1 E0 J0 [bursarlaw19_awake.row, iso_Get.row, iso_Put.row, iso_Same.row] noLoops 4
theorem bursarlaw19_IsoOrder.rows : TabOK P G1 (tabF [bursarlaw19_awake.row, iso_Get.row, iso_Put.row, iso_Same.row]) := rows_ok (ws := [bursarlaw19_awake.row, iso_Get.row, iso_Put.row, iso_Same.row]) ⟨bursarlaw19_awake.row_ok, ⟨(iso_Get.row_ok.more g01), ⟨(iso_Put.row_ok.more g01), ⟨(iso_Same.row_ok.more g01), trivial⟩⟩⟩⟩
theorem bursarlaw19_IsoOrder.hok : HKOK P bursarlaw19_IsoOrder.H := hk_ok e0_ok j0_ok bursarlaw19_IsoOrder.rows (fun g n => noLoops_ok g n) 4
noncomputable abbrev bursarlaw19_IsoOrder.sh9 : SSh := ⟨[(0, (.x (.l (.g (.p (.i .i64) .s))))), (1, (.x (.i .u8))), (5, (.pt 0 0)), (6, (.pt 1 0)), (7, (.mp 2)), (8, (.own 3 2)), (9, (.x (.i .i64)))], [.box (.cons (.x .s) (.cons (.x (.l (.g (.p (.i .i64) .s)))) .nil)), .box (.cons (.x .s) (.cons (.x (.l (.g (.p (.i .i64) .s)))) .nil)), .mp (.i .i64) .s, .arrN T_api_Field]⟩
noncomputable abbrev bursarlaw19_IsoOrder.os9 : PEnds := [((.exit 0), ⟨[(1, (.x (.i .u8))), (5, (.pt 0 0)), (6, (.pt 1 0)), (7, (.mp 2)), (8, (.x (.l (.g (.p (.i .i64) .s)))))], [.box (.cons (.x .s) (.cons (.x (.l (.g (.p (.i .i64) .s)))) .nil)), .box (.cons (.x .s) (.cons (.x (.l (.g (.p (.i .i64) .s)))) .nil)), .mp (.i .i64) .s]⟩)]
noncomputable def bursarlaw19_IsoOrder.t9 (s : ((List (Int × ByteArray)) × (Int × (Int × (ByteArray × ((List (Int × ByteArray)) × (ByteArray × ((List (Int × ByteArray)) × ((List (Int × ByteArray)) × (List (Int × ByteArray))))))))))) : Option (((List (Int × ByteArray)) × (Int × (Int × (ByteArray × ((List (Int × ByteArray)) × (ByteArray × ((List (Int × ByteArray)) × ((List (Int × ByteArray)) × (List (Int × ByteArray)))))))))) ⊕ ((Int × ((List (Int × ByteArray)) × (ByteArray × ((List (Int × ByteArray)) × (ByteArray × ((List (Int × ByteArray)) × (List (Int × ByteArray)))))))))) := (bif (decide ((s.2.2.1 < ((List.length s.1) : Int)))) then (bif ((decide (((0 : Int) ≤ s.2.2.1))) && (decide ((s.2.2.1 < ((List.length s.1) : Int))))) then (bif (decide ((((List.getD s.1 (Int.toNat s.2.2.1) (Ty.dflt T_api_Field)).2.size : Int) > (60 : Int)))) then (bif (true && (decide (((60 : Int) ≤ ((List.getD s.1 (Int.toNat s.2.2.1) (Ty.dflt T_api_Field)).2.size : Int))))) then (bif (Ty.keyFit (.i .i64) (List.getD s.1 (Int.toNat s.2.2.1) (Ty.dflt T_api_Field)).1) then (bif (!(mhas (.i .i64) .s s.2.2.2.2.2.2.2.1 (List.getD s.1 (Int.toNat s.2.2.1) (Ty.dflt T_api_Field)).1)) then (bif ((true && (Nat.ble (((List.length s.2.2.2.2.2.2.2.2) + (List.length (((List.getD s.1 (Int.toNat s.2.2.1) (Ty.dflt T_api_Field)).1, (ByteArray.extract (List.getD s.1 (Int.toNat s.2.2.1) (Ty.dflt T_api_Field)).2 0 60)) :: []))) * 24) 140737488355328)) && (Nat.ble ((List.length s.2.2.2.2.2.2.2.2) + (List.length (((List.getD s.1 (Int.toNat s.2.2.1) (Ty.dflt T_api_Field)).1, (ByteArray.extract (List.getD s.1 (Int.toNat s.2.2.1) (Ty.dflt T_api_Field)).2 0 60)) :: []))) 140737488355328)) then (bif (Ty.keyFit (.i .i64) (List.getD s.1 (Int.toNat s.2.2.1) (Ty.dflt T_api_Field)).1) then (some (.inl (s.1, (s.2.1, ((IntKind.wrap .i64 (s.2.2.1 + (1 : Int))), (s.2.2.2.1, (s.2.2.2.2.1, (s.2.2.2.2.2.1, (s.2.2.2.2.2.2.1, ((mput (.i .i64) .s s.2.2.2.2.2.2.2.1 (List.getD s.1 (Int.toNat s.2.2.1) (Ty.dflt T_api_Field)).1 (ByteArray.extract (List.getD s.1 (Int.toNat s.2.2.1) (Ty.dflt T_api_Field)).2 0 60)), (s.2.2.2.2.2.2.2.2 ++ (((List.getD s.1 (Int.toNat s.2.2.1) (Ty.dflt T_api_Field)).1, (ByteArray.extract (List.getD s.1 (Int.toNat s.2.2.1) (Ty.dflt T_api_Field)).2 0 60)) :: [])))))))))))) else none) else none) else (some (.inl (s.1, (s.2.1, ((IntKind.wrap .i64 (s.2.2.1 + (1 : Int))), s.2.2.2)))))) else none) else none) else (bif (Ty.keyFit (.i .i64) (List.getD s.1 (Int.toNat s.2.2.1) (Ty.dflt T_api_Field)).1) then (bif (!(mhas (.i .i64) .s s.2.2.2.2.2.2.2.1 (List.getD s.1 (Int.toNat s.2.2.1) (Ty.dflt T_api_Field)).1)) then (bif ((true && (Nat.ble (((List.length s.2.2.2.2.2.2.2.2) + (List.length ((List.getD s.1 (Int.toNat s.2.2.1) (Ty.dflt T_api_Field)) :: []))) * 24) 140737488355328)) && (Nat.ble ((List.length s.2.2.2.2.2.2.2.2) + (List.length ((List.getD s.1 (Int.toNat s.2.2.1) (Ty.dflt T_api_Field)) :: []))) 140737488355328)) then (bif (Ty.keyFit (.i .i64) (List.getD s.1 (Int.toNat s.2.2.1) (Ty.dflt T_api_Field)).1) then (some (.inl (s.1, (s.2.1, ((IntKind.wrap .i64 (s.2.2.1 + (1 : Int))), (s.2.2.2.1, (s.2.2.2.2.1, (s.2.2.2.2.2.1, (s.2.2.2.2.2.2.1, ((mput (.i .i64) .s s.2.2.2.2.2.2.2.1 (List.getD s.1 (Int.toNat s.2.2.1) (Ty.dflt T_api_Field)).1 (List.getD s.1 (Int.toNat s.2.2.1) (Ty.dflt T_api_Field)).2), (s.2.2.2.2.2.2.2.2 ++ ((List.getD s.1 (Int.toNat s.2.2.1) (Ty.dflt T_api_Field)) :: [])))))))))))) else none) else none) else (some (.inl (s.1, (s.2.1, ((IntKind.wrap .i64 (s.2.2.1 + (1 : Int))), s.2.2.2)))))) else none)) else none) else (some (.inr (s.2.1, (s.2.2.2.2.2.2.2.2, (s.2.2.2.1, (s.2.2.2.2.1, (s.2.2.2.2.2.1, (s.2.2.2.2.2.2.1, s.2.2.2.2.2.2.2.1)))))))))
theorem bursarlaw19_IsoOrder.t9_ok : ∀ s : Vals bursarlaw19_IsoOrder.sh9.tys, turnK P bursarlaw19_IsoOrder.H (lp []) (bodyAt (codeOf P 5) 9) 0 bursarlaw19_IsoOrder.sh9 bursarlaw19_IsoOrder.os9 s some = bursarlaw19_IsoOrder.t9 s := by rintro ⟨s0, s1, s2, s3, s4, s5, s6, s7, s8⟩; cases s8 <;> kernel_rfl
noncomputable def bursarlaw19_IsoOrder.l9 : ((List (Int × ByteArray)) × (Int × (Int × (ByteArray × ((List (Int × ByteArray)) × (ByteArray × ((List (Int × ByteArray)) × ((List (Int × ByteArray)) × (List (Int × ByteArray)))))))))) → Option ((Int × ((List (Int × ByteArray)) × (ByteArray × ((List (Int × ByteArray)) × (ByteArray × ((List (Int × ByteArray)) × (List (Int × ByteArray))))))))) := rounds bursarlaw19_IsoOrder.t9
noncomputable abbrev bursarlaw19_IsoOrder.sh12 : SSh := ⟨[(1, (.x (.i .u8))), (5, (.pt 0 0)), (6, (.pt 1 0)), (7, (.mp 2)), (8, (.x (.l (.g (.p (.i .i64) .s))))), (13, (.x (.i .i64)))], [.box (.cons (.x .s) (.cons (.x (.l (.g (.p (.i .i64) .s)))) .nil)), .box (.cons (.x .s) (.cons (.x (.l (.g (.p (.i .i64) .s)))) .nil)), .mp (.i .i64) .s]⟩
noncomputable abbrev bursarlaw19_IsoOrder.os12 : PEnds := [((.exit 2), ⟨[(5, (.pt 0 0)), (6, (.pt 1 0)), (7, (.mp 2)), (8, (.x (.l (.g (.p (.i .i64) .s)))))], [.box (.cons (.x .s) (.cons (.x (.l (.g (.p (.i .i64) .s)))) .nil)), .box (.cons (.x .s) (.cons (.x (.l (.g (.p (.i .i64) .s)))) .nil)), .mp (.i .i64) .s]⟩)]
noncomputable def bursarlaw19_IsoOrder.t12 (s : (Int × ((List (Int × ByteArray)) × (Int × (ByteArray × ((List (Int × ByteArray)) × (ByteArray × ((List (Int × ByteArray)) × (List (Int × ByteArray)))))))))) : Option ((Int × ((List (Int × ByteArray)) × (Int × (ByteArray × ((List (Int × ByteArray)) × (ByteArray × ((List (Int × ByteArray)) × (List (Int × ByteArray))))))))) ⊕ (((List (Int × ByteArray)) × (ByteArray × ((List (Int × ByteArray)) × (ByteArray × ((List (Int × ByteArray)) × (List (Int × ByteArray))))))))) := (bif (decide ((s.2.2.1 < ((List.length s.2.1) : Int)))) then (bif ((decide (((0 : Int) ≤ s.2.2.1))) && (decide ((s.2.2.1 < ((List.length s.2.1) : Int))))) then (bif (decide ((((List.length s.2.1) : Int) = (0 : Int)))) then none else (bif ((decide (((0 : Int) ≤ (Int.tmod (IntKind.wrap .i64 (s.2.2.1 + (IntKind.wrap .i64 s.1))) ((List.length s.2.1) : Int))))) && (decide (((Int.tmod (IntKind.wrap .i64 (s.2.2.1 + (IntKind.wrap .i64 s.1))) ((List.length s.2.1) : Int)) < ((List.length s.2.1) : Int))))) then (((iso_Put.f ((s.2.2.2.1, s.2.2.2.2.1), ((List.getD s.2.1 (Int.toNat s.2.2.1) (Ty.dflt T_api_Field)).1, (bs [111, 116, 104, 101, 114]))))).bind fun (x8 : (ByteArray × (List (Int × ByteArray)))) => (((iso_Put.f (x8, (List.getD s.2.1 (Int.toNat s.2.2.1) (Ty.dflt T_api_Field))))).bind fun (x9 : (ByteArray × (List (Int × ByteArray)))) => (((iso_Put.f ((s.2.2.2.2.2.1, s.2.2.2.2.2.2.1), (List.getD s.2.1 (Int.toNat (Int.tmod (IntKind.wrap .i64 (s.2.2.1 + (IntKind.wrap .i64 s.1))) ((List.length s.2.1) : Int))) (Ty.dflt T_api_Field))))).bind fun (x10 : (ByteArray × (List (Int × ByteArray)))) => (some (.inl (s.1, (s.2.1, ((IntKind.wrap .i64 (s.2.2.1 + (1 : Int))), (x9.1, (x9.2, (x10.1, (x10.2, s.2.2.2.2.2.2.2)))))))))))) else none)) else none) else (some (.inr (s.2.1, s.2.2.2))))
theorem bursarlaw19_IsoOrder.t12_ok : ∀ s : Vals bursarlaw19_IsoOrder.sh12.tys, turnK P bursarlaw19_IsoOrder.H (lp []) (bodyAt (codeOf P 5) 12) 0 bursarlaw19_IsoOrder.sh12 bursarlaw19_IsoOrder.os12 s some = bursarlaw19_IsoOrder.t12 s := fun s => by kernel_rfl
noncomputable def bursarlaw19_IsoOrder.l12 : (Int × ((List (Int × ByteArray)) × (Int × (ByteArray × ((List (Int × ByteArray)) × (ByteArray × ((List (Int × ByteArray)) × (List (Int × ByteArray))))))))) → Option (((List (Int × ByteArray)) × (ByteArray × ((List (Int × ByteArray)) × (ByteArray × ((List (Int × ByteArray)) × (List (Int × ByteArray)))))))) := rounds bursarlaw19_IsoOrder.t12
noncomputable abbrev bursarlaw19_IsoOrder.sh18 : SSh := ⟨[(5, (.pt 0 0)), (7, (.mp 1)), (16, (.x (.i .i64)))], [.box (.cons (.x .s) (.cons (.x (.l (.g (.p (.i .i64) .s)))) .nil)), .mp (.i .i64) .s]⟩
noncomputable abbrev bursarlaw19_IsoOrder.os18 : PEnds := [(.ret, ⟨[(4, (.x .b))], []⟩), ((.exit 4), ⟨[], []⟩)]
noncomputable def bursarlaw19_IsoOrder.t18 (s : (Int × (ByteArray × ((List (Int × ByteArray)) × (List (Int × ByteArray)))))) : Option ((Int × (ByteArray × ((List (Int × ByteArray)) × (List (Int × ByteArray))))) ⊕ (Bool ⊕ Unit)) := (bif (decide ((s.1 < ((List.length s.2.2.1) : Int)))) then (bif ((decide (((0 : Int) ≤ s.1))) && (decide ((s.1 < ((List.length s.2.2.1) : Int))))) then (((iso_Get.f ((s.2.1, s.2.2.1), (List.getD s.2.2.1 (Int.toNat s.1) (Ty.dflt T_api_Field)).1))).bind fun (x4 : (ByteArray × Bool)) => (bif (!x4.2) then (some (.inr (.inl false))) else (bif ((decide (((0 : Int) ≤ s.1))) && (decide ((s.1 < ((List.length s.2.2.1) : Int))))) then (bif (Ty.keyFit (.i .i64) (List.getD s.2.2.1 (Int.toNat s.1) (Ty.dflt T_api_Field)).1) then (bif (!((ByteArray.toList x4.1) == (ByteArray.toList (mgetD (.i .i64) .s s.2.2.2 (List.getD s.2.2.1 (Int.toNat s.1) (Ty.dflt T_api_Field)).1 (bs []))))) then (some (.inr (.inl false))) else (bif (decide ((s.1 > (0 : Int)))) then (bif ((decide (((0 : Int) ≤ (IntKind.wrap .i64 (s.1 - (1 : Int)))))) && (decide (((IntKind.wrap .i64 (s.1 - (1 : Int))) < ((List.length s.2.2.1) : Int))))) then (bif ((decide (((0 : Int) ≤ s.1))) && (decide ((s.1 < ((List.length s.2.2.1) : Int))))) then (bif (decide (((List.getD s.2.2.1 (Int.toNat (IntKind.wrap .i64 (s.1 - (1 : Int)))) (Ty.dflt T_api_Field)).1 ≥ (List.getD s.2.2.1 (Int.toNat s.1) (Ty.dflt T_api_Field)).1))) then (some (.inr (.inl false))) else (some (.inl ((IntKind.wrap .i64 (s.1 + (1 : Int))), s.2)))) else none) else none) else (some (.inl ((IntKind.wrap .i64 (s.1 + (1 : Int))), s.2))))) else none) else none))) else none) else (some (.inr (.inr ()))))
theorem bursarlaw19_IsoOrder.t18_ok : ∀ s : Vals bursarlaw19_IsoOrder.sh18.tys, turnK P bursarlaw19_IsoOrder.H (lp []) (bodyAt (codeOf P 5) 18) 0 bursarlaw19_IsoOrder.sh18 bursarlaw19_IsoOrder.os18 s some = bursarlaw19_IsoOrder.t18 s := fun s => by kernel_rfl
noncomputable def bursarlaw19_IsoOrder.l18 : (Int × (ByteArray × ((List (Int × ByteArray)) × (List (Int × ByteArray))))) → Option (Bool ⊕ Unit) := rounds bursarlaw19_IsoOrder.t18
noncomputable def bursarlaw19_IsoOrder.f (a : ((List (Int × ByteArray)) × Int)) : Option Bool := (bif (decide ((((List.length a.1) : Int) > (40 : Int)))) then (bif (true && (decide (((40 : Int) ≤ ((List.length a.1) : Int))))) then (((bursarlaw19_IsoOrder.l9 ((List.take 40 (List.drop 0 a.1)), (a.2, ((0 : Int), ((bs [48, 56, 48, 48]), ([], ((bs [48, 56, 48, 48]), ([], ([], [])))))))))).bind fun (x2 : (Int × ((List (Int × ByteArray)) × (ByteArray × ((List (Int × ByteArray)) × (ByteArray × ((List (Int × ByteArray)) × (List (Int × ByteArray))))))))) => (((bursarlaw19_IsoOrder.l12 (x2.1, (x2.2.1, ((0 : Int), x2.2.2))))).bind fun (x3 : ((List (Int × ByteArray)) × (ByteArray × ((List (Int × ByteArray)) × (ByteArray × ((List (Int × ByteArray)) × (List (Int × ByteArray)))))))) => (((iso_Same.f ((x3.2.1, x3.2.2.1), (x3.2.2.2.1, x3.2.2.2.2.1)))).bind fun (x4 : Bool) => (bif (!x4) then (some false) else (bif (((List.length x3.2.2.1) : Int) != ((List.length x3.1) : Int)) then (some false) else (((bursarlaw19_IsoOrder.l18 ((0 : Int), (x3.2.1, (x3.2.2.1, x3.2.2.2.2.2))))).bind fun (x5 : (Bool ⊕ PUnit)) => (match x5 with | .inl x6 => (some x6) | .inr x6 => (((bursarlaw19_awake.f ())).bind fun (x7 : Bool) => (some x7))))))))) else none) else (((bursarlaw19_IsoOrder.l9 (a.1, (a.2, ((0 : Int), ((bs [48, 56, 48, 48]), ([], ((bs [48, 56, 48, 48]), ([], ([], [])))))))))).bind fun (x2 : (Int × ((List (Int × ByteArray)) × (ByteArray × ((List (Int × ByteArray)) × (ByteArray × ((List (Int × ByteArray)) × (List (Int × ByteArray))))))))) => (((bursarlaw19_IsoOrder.l12 (x2.1, (x2.2.1, ((0 : Int), x2.2.2))))).bind fun (x3 : ((List (Int × ByteArray)) × (ByteArray × ((List (Int × ByteArray)) × (ByteArray × ((List (Int × ByteArray)) × (List (Int × ByteArray)))))))) => (((iso_Same.f ((x3.2.1, x3.2.2.1), (x3.2.2.2.1, x3.2.2.2.2.1)))).bind fun (x4 : Bool) => (bif (!x4) then (some false) else (bif (((List.length x3.2.2.1) : Int) != ((List.length x3.1) : Int)) then (some false) else (((bursarlaw19_IsoOrder.l18 ((0 : Int), (x3.2.1, (x3.2.2.1, x3.2.2.2.2.2))))).bind fun (x5 : (Bool ⊕ PUnit)) => (match x5 with | .inl x6 => (some x6) | .inr x6 => (((bursarlaw19_awake.f ())).bind fun (x7 : Bool) => (some x7))))))))))
theorem bursarlaw19_IsoOrder.ok : ∀ a : Vals bursarlaw19_IsoOrder.As.tys, fnK P bursarlaw19_IsoOrder.H (lp [(9, (NodeT.summ ⟨bursarlaw19_IsoOrder.sh9, bursarlaw19_IsoOrder.os9, bursarlaw19_IsoOrder.l9⟩ 0)), (12, (NodeT.summ ⟨bursarlaw19_IsoOrder.sh12, bursarlaw19_IsoOrder.os12, bursarlaw19_IsoOrder.l12⟩ 0)), (18, (NodeT.summ ⟨bursarlaw19_IsoOrder.sh18, bursarlaw19_IsoOrder.os18, bursarlaw19_IsoOrder.l18⟩ 0))]) 5 bursarlaw19_IsoOrder.As bursarlaw19_IsoOrder.m a some = bursarlaw19_IsoOrder.f a := fun a => by kernel_rfl
noncomputable abbrev bursarlaw19_IsoOrder.row : Row := fnRow 5 bursarlaw19_IsoOrder.As bursarlaw19_IsoOrder.m bursarlaw19_IsoOrder.f
theorem bursarlaw19_IsoOrder.row_ok : RowOK P G1 bursarlaw19_IsoOrder.row := row_told bursarlaw19_IsoOrder.hok (lp_of (l := [(9, (NodeT.summ ⟨bursarlaw19_IsoOrder.sh9, bursarlaw19_IsoOrder.os9, bursarlaw19_IsoOrder.l9⟩ 0)), (12, (NodeT.summ ⟨bursarlaw19_IsoOrder.sh12, bursarlaw19_IsoOrder.os12, bursarlaw19_IsoOrder.l12⟩ 0)), (18, (NodeT.summ ⟨bursarlaw19_IsoOrder.sh18, bursarlaw19_IsoOrder.os18, bursarlaw19_IsoOrder.l18⟩ 0))]) ⟨(loop_sum bursarlaw19_IsoOrder.hok (by kernel_rfl) (by kernel_rfl) (l := []) trivial bursarlaw19_IsoOrder.sh9 bursarlaw19_IsoOrder.os9 (by kernel_rfl) bursarlaw19_IsoOrder.t9 bursarlaw19_IsoOrder.t9_ok), ⟨(loop_sum bursarlaw19_IsoOrder.hok (by kernel_rfl) (by kernel_rfl) (l := []) trivial bursarlaw19_IsoOrder.sh12 bursarlaw19_IsoOrder.os12 (by kernel_rfl) bursarlaw19_IsoOrder.t12 bursarlaw19_IsoOrder.t12_ok), ⟨(loop_sum bursarlaw19_IsoOrder.hok (by kernel_rfl) (by kernel_rfl) (l := []) trivial bursarlaw19_IsoOrder.sh18 bursarlaw19_IsoOrder.os18 (by kernel_rfl) bursarlaw19_IsoOrder.t18 bursarlaw19_IsoOrder.t18_ok), trivial⟩⟩⟩) (fun _ => rfl) bursarlaw19_IsoOrder.ok
end Go.Proofs.YtkgnhjmbnmaboaaGreatDoor
end
