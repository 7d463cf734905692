/- Part 5 of what the proof of this statement stands on: Fields that are put one behind the other come to the same message in whatever order, if none is there twice. -/
import Derived.WalkKit
import Derived.ProofKit
import Derived.OpenShut
import Derived.ShutString
import Derived.ChangeOld
import Derived.Carry
import Derived.Below
import Derived.SizedLaws
import Derived.Laws.Strings
import Derived.Lib.Bytealg
import Derived.Lib.ParseIntB
import Derived.Lib.ItoaNum
import Derived.OwnWalk
import Derived.Lib.SliceRun
import Derived.Lib.AppendZeros
import Derived.Lib.AppendZerosOnto
import Derived.Lib.Overlaps
import Derived.Laws.Externs
import Derived.Shelf.RegionOpenPlain
import Derived.Lib.Walk
import Derived.Test.YtkgnhjmbnmaboaaGreatDoorProg
import Derived.KernelRfl
import Derived.Deep.Draws
import Derived.Shelf.Strconv.ErrVarAll
import Derived.Shelf.Strings.Fields
import Derived.Shelf.LaysM
import Derived.Shelf.Strconv.Itoa3
import Derived.Test.YtkgnhjmbnmaboaaGreatDoorW4
section
/- A law's call, from its arguments as they may be read: it returns true, and what was handed in reads as it did. By this session. -/
set_option linter.unusedVariables false
set_option linter.unusedSimpArgs false
namespace Go.Fw
open Go.ChangeShapes Go.WideShapes Go.ChangeAt Go.RowKit
/-- are these types of the program these of plain data? -/
def okTys (P : Program) : List TypeId → List Ty → Bool
  | [], [] => true
  | t :: ts, T :: Ts => okTy P 40 t T && (P.readableRec t && (decide (t < P.types.size) && okTys P ts Ts))
  | _, _ => false
def FitAll : (Ts : List Ty) → Vals Ts → Prop
  | [], _ => True
  | [T], x => T.fit x
  | T :: T' :: Ts, x => T.fit x.1 ∧ FitAll (T' :: Ts) x.2
section
variable {P : Program} {H : Type} {enc : TypeId × Value → H} {W : World} {base : Nat}
theorem read_all : ∀ {ts : List TypeId} {Ts : List Ty} {vs : List Value} {ds : List (DataW H)} {ps : List MemPlace}, okTys P ts Ts = true → DataW.TrodAll enc P W 0 (fun _ => true) true ts vs ds ps →
    (∀ (j : Nat) t v, ts[j]? = some t → vs[j]? = some v → Value.okWide P W .any base t v) →
    ∃ a : Vals Ts, FitAll Ts a ∧ ds.length = ts.length ∧ vs.length = (elts Ts a).length ∧ (∀ (j : Nat) (d : D), (elts Ts a)[j]? = some d → ∃ v, vs[j]? = some v ∧ RelD W (fun b => b < W.heap.size) d v)
  | [], [], vs, ds, ps, hk, h, hv => by
    obtain ⟨rfl, rfl, rfl⟩ := trodAll_nil h
    exact ⟨(), trivial, rfl, rfl, fun j d hd => by simp [elts] at hd⟩
  | [], _ :: _, vs, ds, ps, hk, h, hv => by simp [okTys] at hk
  | _ :: _, [], vs, ds, ps, hk, h, hv => by simp [okTys] at hk
  | t :: ts, T :: Ts, vs, ds, ps, hk, h, hv => by
    simp only [okTys, Bool.and_eq_true] at hk
    obtain ⟨hk, _, _, hks⟩ := hk
    obtain ⟨v, vs', d, ds', p, q, rfl, rfl, rfl, h0, h1⟩ := trodAll_cons h
    obtain ⟨y, hy, hr⟩ := read_arg hk (hv 0 t v rfl rfl) h0
    obtain ⟨a, ha, hl, hls, hrs⟩ := read_all hks h1 fun j t v ht hj => hv (j + 1) t v ht hj
    cases Ts with
    | nil =>
      cases ts with
      | cons => simp [okTys] at hks
      | nil =>
        obtain ⟨rfl, rfl, rfl⟩ := trodAll_nil h1
        refine ⟨y, hy, rfl, rfl, fun j d hd => ?_⟩
        cases j with
        | zero => simp [elts] at hd; subst hd; exact ⟨v, rfl, hr⟩
        | succ j => simp [elts] at hd
    | cons T' Ts =>
      refine ⟨(y, a), ⟨hy, ha⟩, by simp [hl], by simp [elts, hls], fun j d hd => ?_⟩
      cases j with
      | zero => simp [elts] at hd; subst hd; exact ⟨v, rfl, hr⟩
      | succ j => simp only [elts, List.getElem?_cons_succ] at hd; exact hrs j d hd
theorem trod_back (hl : laidOutB P = true) {W' : World} (hb : Below W.heap.size W W') : ∀ {ts : List TypeId} {Ts : List Ty} {vs : List Value} {ds : List (DataW H)} {ps : List MemPlace}, okTys P ts Ts = true → DataW.TrodAll enc P W 0 (fun _ => true) true ts vs ds ps →
    DataW.TrodAll enc P W' 0 (fun b => decide (b < W.heap.size)) true ts vs ds ps
  | [], [], vs, ds, ps, hk, h => by
    obtain ⟨rfl, rfl, rfl⟩ := trodAll_nil h
    exact trodAll_mk0
  | [], _ :: _, vs, ds, ps, hk, h => by simp [okTys] at hk
  | _ :: _, [], vs, ds, ps, hk, h => by simp [okTys] at hk
  | t :: ts, T :: Ts, vs, ds, ps, hk, h => by
    simp only [okTys, Bool.and_eq_true, decide_eq_true_eq] at hk
    obtain ⟨hk, hrr, hsz, hks⟩ := hk
    obtain ⟨v, vs', d, ds', p, q, rfl, rfl, rfl, h0, h1⟩ := trodAll_cons h
    have lt : ∀ x ∈ p, x.block < W.heap.size := by
      obtain ⟨m, hm⟩ := h0
      exact DataW.trod_lt m _ _ _ hm
    exact trodAll_cons_mk (Below.trod hl hrr hsz h0 hb lt) (trod_back hl hb hks h1)
/-- a law's call -/
theorem law_call {G : Nat → Option (List D)} {fn : Func} {g : FuncId} {As : Shs} {F : Vals As.tys → Option Bool} {s : ChangeSpec} {tb : TypeId} (hl : laidOutB P = true)
    (hok : RowOK P G (fnRow g As [(false, .b)] F)) (hgl : Glob ⟨W, fun b => b < W.heap.size, fun _ => False, fun _ => 0, fun _ => 0, G⟩) (hty : okTys P fn.params.toList As.tys = true) (hdec : ∀ a : Vals As.tys, decArgs As (elts As.tys a) = some a)
    (hres : fn.resultTypes = #[tb]) (htb : P.underlying tb = some .bool) (hvars : s.vars = []) (hspec : ∀ ds : List (DataW H), ds.length = fn.params.toList.length → (s.fn H ds).results = [.lit (.bool true)] ∧ (s.fn H ds).args = ds ∧ (s.fn H ds).vars = [])
    (hlaw : ∀ a : Vals As.tys, FitAll As.tys a → F a = some true)
    {args : Array Value} {ds gs : List (DataW H)} {before : List MemPlace} (hval : ∀ (j : Nat) t v, fn.params[j]? = some t → args[j]? = some v → Value.okWide P W .any base t v)
    (hW : DataW.Whole enc P fn.params.toList s.vars false W args.toList ds gs before) :
    Calls P g args W fun e W' => ∃ v, e = .returned v ∧ s.post enc P fn false true false false W args v W' := by
  have hW' := hW
  obtain ⟨p, q, hA, hV, rfl, hfz, hnd⟩ := hW
  obtain ⟨a, ha, hdl, hvl, hr⟩ := read_all hty hA fun j t v ht hv => hval j t v (by rw [← Array.getElem?_toList]; exact ht) (by rw [← Array.getElem?_toList]; exact hv)
  rw [hvars] at hV
  obtain ⟨rfl, rfl⟩ := trodVars_none hV
  have call := (hok _ a true (hdec a) (hlaw a ha)).2
  refine (top_call (W := W) (vs := args) call hgl (by rw [← Array.length_toList]; exact hvl) (fun j d hd => ?_)).mono ?_
  · obtain ⟨v, hv, hrel⟩ := hr j d hd
    rw [Array.getElem?_toList] at hv
    rw [Array.getD_eq_getD_getElem?, hv]
    exact hrel
  · rintro e W' ⟨⟨v, I', rfl, hx⟩, bel⟩
    have hv : v = .bool true := by
      have hx' : RelX W' I' (fun _ => False) (.b true) v := hx
      cases hx'; rfl
    subst hv
    obtain ⟨s1, s2, s3⟩ := hspec (ds ++ []) (by rw [List.append_nil]; exact hdl)
    refine ⟨_, rfl, ds, [], p ++ [], [], p, [], hW', ?_, ?_, ?_, bel.frame _, fun h => by cases h⟩
    · rw [s1, hres]
      exact trodAll_mk1 (shut_bool htb _)
    · rw [s2, List.append_nil]
      exact trod_back hl bel hty hA
    · rw [s3, hvars]; rfl
end
end Go.Fw
end
section
/- Loops as rounds, texts and numbers: plain laws. By this session. -/
set_option linter.unusedVariables false
set_option linter.unusedSimpArgs false
namespace Go.Fw
theorem wrap_i64 {n : Int} (h1 : -9223372036854775808 ≤ n) (h2 : n ≤ 9223372036854775807) : IntKind.wrap .i64 n = n := by rw [IntKind.wrap_i64]; omega
theorem wrap_u64 (n : Int) : IntKind.wrap .u64 n = n % 18446744073709551616 := by
  show (if (false && decide (n % 18446744073709551616 ≥ 9223372036854775808)) = true then n % 18446744073709551616 - 18446744073709551616 else n % 18446744073709551616) = _
  simp
theorem wrap_u8 (n : Int) : IntKind.wrap .u8 n = n % 256 := by
  show (if (false && decide (n % 256 ≥ 128)) = true then n % 256 - 256 else n % 256) = _
  simp
theorem wrap_up {n : Nat} (h : n < 9223372036854775807) : IntKind.wrap .i64 ((n : Int) + 1) = ((n + 1 : Nat) : Int) := by rw [wrap_i64 (by omega) (by omega)]; omega
theorem bt_bound (s : ByteArray) (i : Nat) : 0 ≤ bt s i ∧ bt s i ≤ 255 := by
  unfold bt
  have := (s.data.toList.getD i 0).toNat_lt
  omega
section
variable {S R : Type} {t : S → Option (S ⊕ R)}
theorem rounds_end {s : S} {r : R} (h : t s = some (.inr r)) : rounds t s = some r := by rw [rounds_eq, h]
theorem rounds_next {s s' : S} (h : t s = some (.inl s')) : rounds t s = rounds t s' := by rw [rounds_eq, h]
theorem rounds_to (st : Nat → S) (n : Nat) (h : ∀ i, i < n → t (st i) = some (.inl (st (i + 1)))) : rounds t (st 0) = rounds t (st n) := by
  induction n with
  | zero => rfl
  | succ n ih => rw [ih fun i hi => h i (by omega), rounds_next (h n (by omega))]
/-- rounds that go on while it is so -/
theorem rounds_all (st : Nat → S) (p : Nat → Bool) (out fin : R) (n : Nat) (h : ∀ i, i < n → t (st i) = some (bif p i then .inl (st (i + 1)) else .inr out)) (hf : t (st n) = some (.inr fin)) :
    rounds t (st 0) = some (bif (List.range n).all p then fin else out) := by
  have go : ∀ k, k ≤ n → rounds t (st 0) = bif (List.range k).all p then rounds t (st k) else some out := by
    intro k
    induction k with
    | zero => intro _; rfl
    | succ k ih =>
      intro hk
      rw [ih (by omega), List.range_succ, List.all_append]
      cases (List.range k).all p with
      | false => rfl
      | true =>
        have h1 := h k (by omega)
        cases hp : p k with
        | false => rw [hp] at h1; simp [hp, rounds_end h1]
        | true => rw [hp] at h1; simp [hp, rounds_next h1]
  rw [go n (Nat.le_refl _), rounds_end hf]
  cases (List.range n).all p <;> rfl
end
/-- sums of so many -/
def sumTo (f : Nat → Int) : Nat → Int
  | 0 => 0
  | n + 1 => sumTo f n + f n
theorem sumTo_back (f : Nat → Int) : ∀ n, sumTo (fun j => f (n - 1 - j)) n = sumTo f n := by
  have first : ∀ (g : Nat → Int) (n : Nat), sumTo g (n + 1) = g 0 + sumTo (fun j => g (j + 1)) n := by
    intro g n
    induction n with
    | zero => simp [sumTo]
    | succ n ih => rw [sumTo, ih, sumTo]; omega
  have same : ∀ (g h : Nat → Int) (n : Nat), (∀ j, j < n → g j = h j) → sumTo g n = sumTo h n := by
    intro g h n
    induction n with
    | zero => intro _; rfl
    | succ n ih => intro hh; rw [sumTo, sumTo, ih fun j hj => hh j (by omega), hh n (by omega)]
  intro n
  induction n with
  | zero => rfl
  | succ n ih =>
    rw [first, sumTo, ← ih, same (fun j => f (n + 1 - 1 - (j + 1))) (fun j => f (n - 1 - j)) n fun j hj => by
      have : n + 1 - 1 - (j + 1) = n - 1 - j := by omega
      simp only [this]]
    simp only [Nat.add_sub_cancel, Nat.sub_zero]
    omega
theorem sumTo_bound {f : Nat → Int} {b : Int} : ∀ {n : Nat}, (∀ j, j < n → 0 ≤ f j ∧ f j ≤ b) → 0 ≤ sumTo f n ∧ sumTo f n ≤ b * n
  | 0, _ => by simp [sumTo]
  | n + 1, h => by
    have ih := sumTo_bound (f := f) (b := b) (n := n) fun j hj => h j (by omega)
    have := h n (by omega)
    have e : b * ((n + 1 : Nat) : Int) = b * n + b := by rw [Int.natCast_add, Int.mul_add]; simp
    rw [sumTo, e]
    omega
theorem sumTo_same {g h : Nat → Int} : ∀ {n : Nat}, (∀ j, j < n → g j = h j) → sumTo g n = sumTo h n
  | 0, _ => rfl
  | n + 1, hh => by rw [sumTo, sumTo, sumTo_same fun j hj => hh j (by omega), hh n (by omega)]
/-! ### lists -/
theorem getD_at {α : Type} {l : List α} {i : Nat} {d : α} (h : i < l.length) : l.getD i d = l[i] := by simp [List.getD_eq_getElem?_getD, List.getElem?_eq_getElem h]
theorem take_up {α : Type} {l : List α} {i : Nat} (d : α) (h : i < l.length) : l.take (i + 1) = l.take i ++ [l.getD i d] := by
  rw [List.take_succ_eq_append_getElem h, getD_at h]
theorem range_all {α : Type} (p : α → Bool) (d : α) (l : List α) : ((List.range l.length).all fun i => p (l.getD i d)) = l.all p := by
  rw [Bool.eq_iff_iff, List.all_eq_true, List.all_eq_true]
  constructor
  · intro h x hx
    obtain ⟨i, hi, rfl⟩ := List.getElem_of_mem hx
    have := h i (List.mem_range.2 hi)
    rwa [getD_at hi] at this
  · intro h i hi
    have hi := List.mem_range.1 hi
    rw [getD_at hi]
    exact h _ (List.getElem_mem hi)
/-- is there room for one more? -/
theorem room {n m : Nat} (w k : Nat) (h : n ≤ m) (hw : (m + 1) * w ≤ k) : Nat.ble ((n + 1) * w) k = true := Nat.ble_eq_true_of_le (Nat.le_trans (Nat.mul_le_mul_right w (by omega)) hw)
/-- an amount -/
def Am (a : Int) : Prop := -9223372036854775808 ≤ a ∧ a ≤ 9223372036854775807
end Go.Fw
end
section
/- Loops that stop at the first place where something is so: plain laws. By this session. -/
set_option linter.unusedVariables false
set_option linter.unusedSimpArgs false
namespace Go.Fw
section
variable {S R : Type} {t : S → Option (S ⊕ R)}
theorem range_none {n k : Nat} {ex : Nat → Option R} (hk : k ≤ n) (h : ∀ j, j < k → ex j = none) : (List.range k).findSome? ex = none := by
  rw [List.findSome?_eq_none_iff]
  intro j hj
  exact h j (List.mem_range.1 hj)
theorem range_some {n k : Nat} {ex : Nat → Option R} {r : R} (hk : k < n) (h : ∀ j, j < k → ex j = none) (hr : ex k = some r) : (List.range n).findSome? ex = some r := by
  have e : List.range n = List.range k ++ k :: (List.range (n - k - 1)).map (· + (k + 1)) := by
    have h1 : n = k + (1 + (n - k - 1)) := by omega
    rw [h1, List.range_add, List.range_add]
    simp
    intro a _
    omega
  rw [e, List.findSome?_append, range_none (Nat.le_refl k) h]
  simp [hr]
/-- rounds that go on till something is so -/
theorem rounds_first (st : Nat → S) (ex : Nat → Option R) (fin : R) (n : Nat) (h : ∀ i, i < n → (∀ j, j < i → ex j = none) → t (st i) = some (match ex i with | some r => .inr r | none => .inl (st (i + 1))))
    (hf : (∀ j, j < n → ex j = none) → t (st n) = some (.inr fin)) : rounds t (st 0) = some (((List.range n).findSome? ex).getD fin) := by
  have go : ∀ k, k ≤ n → (∀ j, j < k → ex j = none) → rounds t (st 0) = rounds t (st k) := by
    intro k
    induction k with
    | zero => intro _ _; rfl
    | succ k ih =>
      intro hk hj
      rw [ih (by omega) fun j h => hj j (by omega)]
      have h1 := h k (by omega) fun j h => hj j (by omega)
      rw [hj k (by omega)] at h1
      exact rounds_next h1
  by_cases ha : ∀ j, j < n → ex j = none
  · rw [go n (Nat.le_refl _) ha, rounds_end (hf ha), range_none (Nat.le_refl n) ha]
    rfl
  · have hex : ∃ k, k < n ∧ (∀ j, j < k → ex j = none) ∧ ∃ r, ex k = some r := by
      clear h hf go
      induction n with
      | zero => exact absurd (fun j hj => by omega) ha
      | succ n ih =>
        by_cases h' : ∀ j, j < n → ex j = none
        · cases hn : ex n with
          | none => exact absurd (fun j hj => by
              by_cases e : j = n
              · rw [e]; exact hn
              · exact h' j (by omega)) ha
          | some r => exact ⟨n, by omega, h', r, hn⟩
        · obtain ⟨k, h1, h2⟩ := ih h'
          exact ⟨k, by omega, h2⟩
    obtain ⟨k, hk, hj, r, hr⟩ := hex
    have h1 := h k hk hj
    rw [hr] at h1
    rw [go k (by omega) hj, rounds_end h1, range_some hk hj hr]
    rfl
/-- .. along a list -/
theorem findSome_range {α : Type} (l : List α) (d : α) (f : α → Option R) : (List.range l.length).findSome? (fun i => f (l.getD i d)) = l.findSome? f := by
  induction l with
  | nil => rfl
  | cons a l ih =>
    rw [List.length_cons, List.range_succ_eq_map, List.findSome?_cons, List.findSome?_cons]
    simp only [List.getD_cons_zero, List.findSome?_map]
    cases f a with
    | some r => rfl
    | none =>
      rw [← ih]
      rfl
theorem rounds_list {α : Type} (l : List α) (d : α) (st : Nat → S) (f : α → Option R) (fin : R) (h : ∀ i, i < l.length → t (st i) = some (match f (l.getD i d) with | some r => .inr r | none => .inl (st (i + 1))))
    (hf : t (st l.length) = some (.inr fin)) : rounds t (st 0) = some ((l.findSome? f).getD fin) := by
  rw [← findSome_range l d f]
  exact rounds_first st (fun i => f (l.getD i d)) fin l.length (fun i hi _ => h i hi) fun _ => hf
/-- rounds over all of a list -/
theorem rounds_map {α β : Type} (l : List α) (d : α) (g : α → β) (st : List β → Nat → S) (out : List β → R) (h : ∀ i, i < l.length → t (st ((l.take i).map g) i) = some (.inl (st ((l.take i).map g ++ [g (l.getD i d)]) (i + 1))))
    (hf : ∀ acc, acc = l.map g → t (st acc l.length) = some (.inr (out acc))) : rounds t (st [] 0) = some (out (l.map g)) := by
  have := rounds_to (t := t) (fun i => st ((l.take i).map g) i) l.length (fun i hi => by
    rw [h i hi, take_up d hi, List.map_append]; rfl)
  simp only [List.take_zero, List.map_nil, List.take_length] at this
  rw [this]
  exact rounds_end (hf _ rfl)
end
theorem ge0' (i : Nat) : decide ((0 : Int) ≤ (i : Int)) = true := decide_eq_true (by omega)
/-- is a place within a list? -/
theorem inb {i n : Nat} (h : i < n) : decide (((i : Nat) : Int) < ((n : Nat) : Int)) = true := decide_eq_true (by omega)
theorem outb (n : Nat) : decide (((n : Nat) : Int) < ((n : Nat) : Int)) = false := decide_eq_false (by omega)
/-- is there one that is not so? -/
theorem find_not {β : Type} {n : Nat} {p : Nat → Bool} {g : Nat → β} : (∃ i, i < n ∧ (List.range n).findSome? (fun i => bif p i then none else some (g i)) = some (g i) ∧ (List.range n).all p = false) ∨ ((List.range n).findSome? (fun i => bif p i then none else some (g i)) = none ∧ (List.range n).all p = true) := by
  cases hq : (List.range n).findSome? (fun i => bif p i then none else some (g i)) with
  | none =>
    right
    refine ⟨rfl, ?_⟩
    rw [List.all_eq_true]
    intro i hi
    have := (List.findSome?_eq_none_iff.1 hq) i hi
    cases hb : p i
    · rw [hb] at this; cases this
    · rfl
  | some r =>
    left
    obtain ⟨i, hi, hr⟩ := List.exists_of_findSome?_eq_some hq
    cases hb : p i <;> rw [hb] at hr
    · injection hr with hr
      refine ⟨i, List.mem_range.1 hi, by rw [hr], ?_⟩
      rw [← Bool.not_eq_true, List.all_eq_true]
      intro h
      rw [h i hi] at hb
      cases hb
    · cases hr
end Go.Fw
end
section
/- Texts as lists of octets; digits of numbers. By this session. -/
set_option linter.unusedVariables false
set_option linter.unusedSimpArgs false
namespace Go.Fw
open Go
theorem eq_bs (s : ByteArray) : s = bs s.data.toList := by cases s; simp [bs]
theorem bs_data (l : List UInt8) : (bs l).data = l.toArray := rfl
theorem bs_list (l : List UInt8) : (bs l).data.toList = l := by simp [bs]
theorem bs_toList (l : List UInt8) : (bs l).toList = l := by rw [ByteArray.toList_eq, bs_list]
theorem bs_size (l : List UInt8) : (bs l).size = l.length := by show (bs l).data.size = _; simp [bs]
theorem bs_append (l r : List UInt8) : bs l ++ bs r = bs (l ++ r) := by
  apply ByteArray.ext
  rw [ByteArray.data_append]
  simp [bs]
theorem bs_extract (l : List UInt8) (i j : Nat) : (bs l).extract i j = bs ((l.take j).drop i) := by
  apply ByteArray.ext
  rw [ByteArray.data_extract]
  apply Array.toList_inj.1
  simp [bs, List.extract_eq_take_drop, List.drop_take]
theorem bt_bs (l : List UInt8) (i : Nat) : bt (bs l) i = ((l.getD i 0).toNat : Int) := by unfold bt; rw [bs_list]
theorem bs_inj {l r : List UInt8} : bs l = bs r ↔ l = r := ⟨fun h => by rw [← bs_list l, h, bs_list], fun h => by rw [h]⟩
theorem texts_eq (x y : ByteArray) : (ByteArray.toList x == ByteArray.toList y) = decide (x = y) := by
  rw [ByteArray.toList_eq, ByteArray.toList_eq, Bool.eq_iff_iff, beq_iff_eq, decide_eq_true_iff]
  constructor
  · intro h
    cases x; cases y
    simp only [Array.toList_inj] at h
    rw [h]
  · intro h; rw [h]
theorem texts_list (x : ByteArray) (l : List UInt8) : (ByteArray.toList x == l) = decide (x = bs l) := by
  rw [← texts_eq, bs_toList]
theorem texts_nil (x : ByteArray) : (ByteArray.toList x == []) = decide (x = bs []) := by
  rw [← texts_eq, bs_toList]
/-- the digit of a number below 10 -/
abbrev dgt (n : Nat) : UInt8 := UInt8.ofNat (48 + n)
theorem dgt_nat {n : Nat} (h : n < 10) : (dgt n).toNat = 48 + n := by simp [dgt, UInt8.toNat_ofNat']; omega
/-- digits, of numbers above 0; of 0 none -/
def decP : Nat → Nat → List UInt8
  | 0, _ => []
  | k + 1, n => if n = 0 then [] else decP k (n / 10) ++ [dgt (n % 10)]
theorem decF_decP : ∀ (k n : Nat), n < 10 ^ (k + 1) → decF (k + 1) n = decP k (n / 10) ++ [dgt (n % 10)]
  | 0, n, h => by
    have h' : n < 10 := by simpa using h
    have hb : Nat.blt n 10 = true := by rw [Nat.blt_eq]; exact h'
    unfold decF decP
    simp only [hb, cond_true, List.nil_append]
    rw [show n % 10 = n by omega]
  | k + 1, n, h => by
    unfold decF decP
    by_cases h' : n < 10
    · have hb : Nat.blt n 10 = true := by rw [Nat.blt_eq]; exact h'
      simp only [hb, cond_true]
      rw [if_pos (by omega), show n % 10 = n by omega]; rfl
    · have hb : Nat.blt n 10 = false := by
        cases hb : Nat.blt n 10
        · rfl
        · rw [Nat.blt_eq] at hb; omega
      simp only [hb, cond_false]
      rw [if_neg (by omega), decF_decP k (n / 10) (by have : 10 ^ (k + 1 + 1) = 10 ^ (k + 1) * 10 := Nat.pow_succ ..; omega)]
theorem decP_len : ∀ (k n : Nat), (decP k n).length ≤ k
  | 0, _ => by simp [decP]
  | k + 1, n => by
    unfold decP
    split
    · simp
    · have := decP_len k (n / 10); simp; omega
theorem decP_dig : ∀ (k n : Nat) (c : UInt8), c ∈ decP k n → 48 ≤ c.toNat ∧ c.toNat ≤ 57
  | 0, _, c, h => by simp [decP] at h
  | k + 1, n, c, h => by
    unfold decP at h
    split at h
    · simp at h
    · rcases List.mem_append.1 h with h | h
      · exact decP_dig k _ c h
      · rw [List.mem_singleton.1 h, dgt_nat (by omega)]; omega
/-- digits are parsed, one by one -/
theorem parse_decP (M : Nat) : ∀ (k n : Nat) (t : List UInt8), n < 10 ^ k → n < 18446744073709551616 → n ≤ M → Lib.parseUintM M 0 (decP k n ++ t) = Lib.parseUintM M n t
  | 0, n, t, h, _, _ => by
    have : n = 0 := by simpa using h
    subst this; rfl
  | k + 1, n, t, h, h2, h3 => by
    unfold decP
    split
    · rename_i h0; subst h0; rfl
    · rw [List.append_assoc, parse_decP M k (n / 10) _ (by have : 10 ^ (k + 1) = 10 ^ k * 10 := Nat.pow_succ ..; omega) (by omega) (by omega)]
      have hd := dgt_nat (n := n % 10) (by omega)
      conv => lhs; unfold Lib.parseUintM
      simp only [List.singleton_append, hd]
      rw [if_pos (by omega), if_neg (by omega), if_neg (by omega)]
      congr 1
      omega
theorem parse_dig {M acc n : Nat} {t : List UInt8} (h : n < 10) (h1 : acc * 10 + n ≤ M) (h2 : acc * 10 < 18446744073709551610) : Lib.parseUintM M acc (dgt n :: t) = Lib.parseUintM M (acc * 10 + n) t := by
  have hd := dgt_nat h
  conv => lhs; unfold Lib.parseUintM
  simp only [hd]
  rw [if_pos (by omega), if_neg (by omega), if_neg (by omega)]
  congr 1
  omega
theorem indexByte_skip (c : UInt8) : ∀ (l t : List UInt8), (∀ x, x ∈ l → x ≠ c) → Lib.indexByte (l ++ c :: t) c = l.length
  | [], t, _ => by simp [Lib.indexByte]
  | x :: l, t, h => by
    have hx : (x == c) = false := by simpa using h x (List.mem_cons_self ..)
    have ih := indexByte_skip c l t fun y hy => h y (List.mem_cons_of_mem _ hy)
    have hn : (Lib.indexByte (l ++ c :: t) c == -1) = false := by rw [ih]; simp only [beq_eq_false_iff_ne]; omega
    rw [List.cons_append, Lib.indexByte, hx]
    rw [if_neg (by simp), if_neg (by simp [hn]), ih]
    simp
theorem indexByte_lt (c : UInt8) : ∀ (l : List UInt8), Lib.indexByte l c < l.length
  | [] => by simp [Lib.indexByte]
  | x :: l => by
    have ih := indexByte_lt c l
    rw [Lib.indexByte]
    split
    · simp
    · split
      · simp; omega
      · simp; omega
end Go.Fw
end
section
/- Small laws for walks through slices.Insert. By this session. -/
set_option linter.unusedVariables false
namespace Go.Fw
variable {P : Program}
theorem wp_copy_runQ (w : World) {o : Oper} {a : Act} {K : Act → World → Prop} {Q : Exit → Act → World → Prop} (d s : Operand) (t t' : TypeId)
    (ho : o.op = .call { callee := .builtin .copy, args := #[d, s], argTypes := #[t, t'] }) (v u : Value) (hd : a.eval d = v) (hs : a.eval s = u) {v' : Value} {w' : World}
    (hr : (Builtin.copy_ #[t, t'] o.type #[v, u]).run P w = .ok v' w') (h : K (a.put o.dst v') w') : o.wp P a w K Q := by
  unfold Oper.wp execOp
  simp only [ho, resolve, invoke, builtin, Sem.run_bind, Sem.run_pure, Result.andThen_ok, List.map_toArray, List.map_cons, List.map_nil, hd, hs, hr]
  exact h
theorem wpList_copy_runQ (w : World) {ops : Array Oper} {rest : List Oper} {o : Oper} {a : Act} {Q : Exit → Act → World → Prop} (hgd : o.guard = none) (d s : Operand) (t t' : TypeId)
    (ho : o.op = .call { callee := .builtin .copy, args := #[d, s], argTypes := #[t, t'] }) (v u : Value) (hd : a.eval d = v) (hs : a.eval s = u) {v' : Value} {w' : World}
    (hr : (Builtin.copy_ #[t, t'] o.type #[v, u]).run P w = .ok v' w') (h : wpList P ops Q rest (a.put o.dst v') w') : wpList P ops Q (o :: rest) a w :=
  wpList_plain hgd fun _ hK => wp_copy_runQ w d s t t' ho v u hd hs hr (hK _ _ h)
theorem step_copy_runQ {ops : Array Oper} {o : Oper} {a : Act} {w : World} {K : Act → World → Prop} {Q : Exit → Act → World → Prop} {E : Prop}
    (hg : o.guard = none) (d x : Operand) (dT sT : TypeId) (hop : o.op = Op.call { callee := Callee.builtin Builtin.copy, args := #[d, x], argTypes := #[dT, sT] })
    (v u : Value) (hd : a.eval d = v) (hx : a.eval x = u) {v' : Value} {w' : World} (hr : (Builtin.copy_ #[dT, sT] o.type #[v, u]).run P w = .ok v' w') (hK : K (a.put o.dst v') w') :
    if Region.wanted o (yielded ops a.tmps) = true then Oper.wp P o a w K Q else E := by
  have hw : Region.wanted o (yielded ops a.tmps) = true := by simp [Region.wanted, hg]
  rw [if_pos hw]
  unfold Oper.wp
  simp [execOp, hop, resolve, invoke, builtin, hd, hx, hr, Result.andThen]
  exact hK
/-- copy, of cells of a row, into a row -/
theorem run_copy_rows (w : World) (dT sT ty e : TypeId) (i : TypeInfo) (b o dLen dCap : Nat) (a : Addr) (sLen sCap m : Nat) (src cur : Array Value) (es eb : TypeId) (fs fb : Nat × Nat)
    (hu : P.underlying dT = some (.slice e)) (hi : P.info? e = some i) (hm : Nat.min sLen dLen = m) (ha : a.spot = none) (hs : w.heap[a.block]? = some (.cells src es fs)) (hsf : a.off + m * i.size ≤ src.size)
    (hb : w.heap[b]? = some (.cells cur eb fb)) (hn : NoFz cur fb) (hf : o + m * i.size ≤ cur.size) (h1 : ∀ j, j < m * i.size → (src.getD (a.off + j) undef).oneCell' = true) :
    (Builtin.copy_ #[dT, sT] ty #[.slice (some ⟨b, o, none⟩) dLen dCap, .slice (some a) sLen sCap]).run P w = .ok (goInt m) (w.setRow b (lay cur.toList o (src.extract a.off (a.off + m * i.size)).toList).toArray) := by
  have hfirst := run_first_row (P := P) ha hs i.size m sCap hsf
  have hfirst' : (Builtin.firstCells i.size m (.slice (some a) sLen sCap)).run P w = .ok (src.extract a.off (a.off + m * i.size)) w := hfirst
  have hsz : (src.extract a.off (a.off + m * i.size)).toList.length = m * i.size := by simp; omega
  have hst := run_storeCells_row (P := P) b o eb fb (src.extract a.off (a.off + m * i.size)).toList 0 cur w hb hn (by rw [hsz]; omega) (fun v hv => by
    obtain ⟨j, hj⟩ := List.mem_iff_getElem?.1 hv
    rw [Array.getElem?_toList, Array.getElem?_extract] at hj
    split at hj
    · have := h1 j (by omega)
      rw [Array.getD_eq_getD_getElem?, hj] at this
      exact this
    · cases hj)
  rw [Nat.add_zero] at hst
  obtain ⟨ns, hns⟩ : ∃ ns, src.extract a.off (a.off + m * i.size) = ns := ⟨_, rfl⟩
  rw [hns] at hfirst' hst ⊢
  simp [Builtin.copy_, run_underlying hu, sizeOf, typeInfo, hi, Builtin.lenOf, hm, hfirst', hst]
theorem getD_lay_in (cur : Array Value) (o : Nat) (src : Array Value) (x n j : Nat) (hx : x + n ≤ src.size) (ho : o + n ≤ cur.size) : (lay cur.toList o (src.extract x (x + n)).toList).toArray.getD j undef = if o ≤ j ∧ j < o + n then src.getD (x + (j - o)) undef else cur.getD j undef := by
  have hs : (src.extract x (x + n)).size = n := by simp; omega
  rw [lay_getD _ _ _ (by omega), hs]
  split
  · rename_i h
    rw [Array.getD_eq_getD_getElem?, Array.getD_eq_getD_getElem?, Array.getElem?_extract, if_pos (by omega)]
  · rfl
theorem alloc_setRow (w : World) (c c' : Array Value) (t : TypeId) : ((w.alloc (.cells c t)).setRow w.heap.size c').heap = w.heap.push (.cells c' t (0, 0)) := by
  simp only [World.setRow, World.alloc]
  apply Array.ext
  · simp
  · intro i h1 h2
    rw [Array.getElem_modify]
    simp only [Array.getElem_push]
    split
    · rename_i e; subst e; simp
    · rename_i e
      split
      · rfl
      · rename_i h; simp at h1; omega
theorem getD_append_l (a b : Array Value) (j : Nat) (h : j < a.size) : (a ++ b).getD j undef = a.getD j undef := by
  rw [Array.getD_eq_getD_getElem?, Array.getElem?_append, if_pos h, ← Array.getD_eq_getD_getElem?]
theorem getD_extract_l (cur : Array Value) (o m j : Nat) (hj : j < m) : (cur.extract o (o + m)).getD j undef = cur.getD (o + j) undef := by
  rw [Array.getD_eq_getD_getElem?, Array.getD_eq_getD_getElem?, Array.getElem?_extract]
  split
  · rfl
  · rename_i h
    rw [Array.getElem?_eq_none (by omega)]
theorem size_lay_in (cur : Array Value) (o : Nat) (src : Array Value) (x n : Nat) (hx : x + n ≤ src.size) (ho : o + n ≤ cur.size) : (lay cur.toList o (src.extract x (x + n)).toList).toArray.size = cur.size := by
  simp only [List.size_toArray]
  rw [lay_length _ _ _ (by simp; omega)]
  simp
end Go.Fw
end
section
/- slices.Insert of one thing: its contract, along its own text. By this session. -/
set_option linter.unusedVariables false
set_option linter.unusedSimpArgs false
set_option maxRecDepth 100000
namespace Go.Proofs.YtkgnhjmbnmaboaaGreatDoor
open Go Go.Fw Go.RowKit Go.Lib
set_option maxHeartbeats 4000000 in
theorem ins54.room (w : World) (b n k c vb vc : Nat) (cur new : Array Value) (eb ev : TypeId) (fb fv : Nat × Nat) (hk : k ≤ n) (hc : n + 1 ≤ c) (hne : b ≠ vb) (hbig : n + 1 ≤ 140737488355328)
    (hb : w.heap[b]? = some (.cells cur eb fb)) (hfb : ∀ o, o < cur.size + 1 → ¬ (fb.1 ≤ o ∧ o < fb.2)) (hfit : c * Tryz.prog.cellsOf 43 ≤ cur.size) (h1 : ∀ j, j < n * Tryz.prog.cellsOf 43 → (cur.getD j undef).oneCell' = true)
    (hv : w.heap[vb]? = some (.cells new ev fv)) (hfv : ∀ o, o < new.size + 1 → ¬ (fv.1 ≤ o ∧ o < fv.2)) (hfn : Tryz.prog.cellsOf 43 ≤ new.size) (h1n : ∀ j, j < Tryz.prog.cellsOf 43 → (new.getD j undef).oneCell' = true) :
    Calls Tryz.prog 54 #[.slice (some ⟨b, 0, none⟩) n c, .int .i64 k, .slice (some ⟨vb, 0, none⟩) 1 vc] w (RoomRes w b n c cur.size (Tryz.prog.cellsOf 43) (insAt cur 0 new k (Tryz.prog.cellsOf 43))) := by
  obtain ⟨i0, hi⟩ := Option.isSome_iff_exists.1 (show (Tryz.prog.info? 43).isSome = true by kernel_rfl)
  have hz0 : Tryz.prog.cellsOf 43 = 2 := by kernel_rfl
  have hisz : i0.size = 2 := by
    have : Tryz.prog.cellsOf 43 = i0.size := by simp [Program.cellsOf, hi]
    omega
  rw [hz0] at hfit h1 hfn h1n ⊢
  have uS : ∀ w, Sem.run Tryz.prog (underlying 22) w = .ok (TypeDesc.slice 43) w := run_underlying Tryz.underlying22
  have zE : ∀ w, (Go.sizeOf 43).run Tryz.prog w = .ok 2 w := fun w => by simp [sizeOf, typeInfo, hi, hisz]
  have hmul : (n + 1) * 2 ≤ c * 2 := Nat.mul_le_mul_right _ hc
  have hmk : k * 2 ≤ n * 2 := Nat.mul_le_mul_right _ hk
  rw [Nat.add_mul] at hmul
  have hz2 : ¬ ((1 : Int) = 0) := by omega
  by_cases hkn : k = n
  · subst hkn
    have hrun : ∀ ty, (Builtin.append_ #[22, 22] ty #[.slice (some ⟨b, 0, none⟩) k c, .slice (some ⟨vb, 0, none⟩) 1 vc]).run Tryz.prog w = .ok (.slice (some ⟨b, 0, none⟩) (k + 1) c) (w.setRow b (lay cur.toList (k * 2) (new.extract 0 (0 + 2)).toList).toArray) := fun ty => by
      have hst := run_storeCells_row (P := Tryz.prog) b (k * 2) eb fb (new.extract 0 (0 + 2)).toList 0 cur w hb (fun o ho => hfb o (by omega)) (by simp; omega) (fun v hv => by
        obtain ⟨j, hj⟩ := List.mem_iff_getElem?.1 hv
        rw [Array.getElem?_toList, Array.getElem?_extract] at hj
        split at hj
        · have := h1n j (by omega)
          rw [Nat.zero_add] at hj
          rw [Array.getD_eq_getD_getElem?, hj] at this
          exact this
        · cases hj)
      have hf := run_first_row (P := Tryz.prog) (w := w) (a := ⟨vb, 0, none⟩) rfl hv 2 1 vc (by show 0 + 1 * 2 ≤ new.size; omega)
      rw [Nat.one_mul] at hf
      have := run_append_room' (P := Tryz.prog) w 22 22 ty 43 i0 _ Tryz.underlying22 Tryz.underlying22 (.inr ⟨_, rfl⟩) hi ⟨b, 0, none⟩ k c 1 (.slice (some ⟨vb, 0, none⟩) 1 vc) _ (fun w => by simp [Builtin.lenOf]) (by rw [hisz]; exact hf) hc (w' := w.setRow b (lay cur.toList (k * 2) (new.extract 0 (0 + 2)).toList).toArray) (by
        rw [hisz, addr_add _ rfl]
        simpa using hst)
      exact this
    obtain ⟨row, hrow⟩ : ∃ row, (lay cur.toList (k * 2) (new.extract 0 (0 + 2)).toList).toArray = row := ⟨_, rfl⟩
    have hsize : row.size = cur.size := by rw [← hrow]; exact size_lay_in _ _ _ _ _ (by omega) (by omega)
    have hget : ∀ j, row.getD j undef = if k * 2 ≤ j ∧ j < k * 2 + 2 then new.getD (0 + (j - k * 2)) undef else cur.getD j undef := fun j => by rw [← hrow]; exact getD_lay_in _ _ _ _ _ _ (by omega) (by omega)
    rw [hrow] at hrun
    clear hrow
    go_enter Tryz.func54, Tryz.ntmps54
    go_wp2_with (at_builtin; refine Lib.wpList_append_run _ rfl _ _ 22 22 rfl _ _ rfl rfl _ _ (hrun _) ?_)
    go_ret
    refine ⟨row, rfl, rfl, hsize, fun j hj => ?_, ⟨rfl, rfl, rfl⟩⟩
    rw [hget]
    unfold insAt
    rw [Nat.add_mul] at hj
    by_cases hj1 : j < k * 2
    · rw [if_neg (by omega), if_pos hj1, Nat.zero_add]
    · rw [if_pos (by omega), if_neg hj1, if_pos (by omega), Nat.zero_add]
  · have hlt : k < n := by omega
    have hmlt : (k + 1) * 2 ≤ n * 2 := Nat.mul_le_mul_right _ hlt
    have hkk : (k + 1) * 2 = k * 2 + 2 := by rw [Nat.add_mul]
    have hsub : (n - k) * 2 = n * 2 - k * 2 := Nat.sub_mul ..
    obtain ⟨row1, hrow1⟩ : ∃ row, (lay cur.toList (k * 2 + 2) (cur.extract (k * 2) (k * 2 + (n - k) * 2)).toList).toArray = row := ⟨_, rfl⟩
    have hsize1 : row1.size = cur.size := by rw [← hrow1]; exact size_lay_in _ _ _ _ _ (by omega) (by omega)
    have hget1 : ∀ j, row1.getD j undef = if k * 2 + 2 ≤ j ∧ j < k * 2 + 2 + (n - k) * 2 then cur.getD (k * 2 + (j - (k * 2 + 2))) undef else cur.getD j undef := fun j => by rw [← hrow1]; exact getD_lay_in _ _ _ _ _ _ (by omega) (by omega)
    obtain ⟨row2, hrow2⟩ : ∃ row, (lay row1.toList (k * 2) (new.extract 0 (0 + 2)).toList).toArray = row := ⟨_, rfl⟩
    have hsize2 : row2.size = cur.size := by rw [← hrow2, ← hsize1]; exact size_lay_in _ _ _ _ _ (by omega) (by omega)
    have hget2 : ∀ j, row2.getD j undef = if k * 2 ≤ j ∧ j < k * 2 + 2 then new.getD (0 + (j - k * 2)) undef else row1.getD j undef := fun j => by rw [← hrow2]; exact getD_lay_in _ _ _ _ _ _ (by omega) (by omega)
    have hcp1 : ∀ ty dl dc sl sc, Nat.min sl dl = n - k → (Builtin.copy_ #[22, 22] ty #[.slice (some ⟨b, k * 2 + 2, none⟩) dl dc, .slice (some ⟨b, k * 2, none⟩) sl sc]).run Tryz.prog w.drew = .ok (goInt ((n - k : Nat) : Int)) (w.drew.setRow b row1) := fun ty dl dc sl sc hm => by
      have := run_copy_rows (P := Tryz.prog) w.drew 22 22 ty 43 i0 b (k * 2 + 2) dl dc ⟨b, k * 2, none⟩ sl sc (n - k) cur cur eb eb fb fb Tryz.underlying22 hi hm rfl hb (by rw [hisz]; show k * 2 + _ ≤ _; omega) hb (fun o ho => hfb o (by omega)) (by rw [hisz]; omega) (fun j hj => by rw [hisz] at hj; exact h1 _ (by show k * 2 + j < _; omega))
      rw [hisz] at this
      rw [this, ← hrow1]
    have hw1 : (w.drew.setRow b row1).heap[b]? = some (.cells row1 eb fb) := setRow_heap w.drew b cur row1 eb fb hb
    have hv1 : (w.drew.setRow b row1).heap[vb]? = some (.cells new ev fv) := by rw [setRow_other w.drew b vb row1 (fun e => hne e.symm)]; exact hv
    have hcp2 : ∀ ty dl dc, Nat.min 1 dl = 1 → (Builtin.copy_ #[22, 22] ty #[.slice (some ⟨b, k * 2, none⟩) dl dc, .slice (some ⟨vb, 0, none⟩) 1 vc]).run Tryz.prog (w.drew.setRow b row1) = .ok (goInt ((1 : Nat) : Int)) (w.drew.setRow b row2) := fun ty dl dc hm => by
      have := run_copy_rows (P := Tryz.prog) (w.drew.setRow b row1) 22 22 ty 43 i0 b (k * 2) dl dc ⟨vb, 0, none⟩ 1 vc 1 new row1 ev eb fv fb Tryz.underlying22 hi hm rfl hv1 (by rw [hisz]; show 0 + 1 * 2 ≤ _; omega) hw1 (fun o ho => hfb o (by omega)) (by rw [hisz]; omega) (fun j hj => by rw [hisz] at hj; show (new.getD (0 + j) undef).oneCell' = true; rw [Nat.zero_add]; exact h1n _ (by omega))
      rw [hisz, Nat.one_mul] at this
      rw [this, setRow_setRow]
      exact congrArg (fun r => Result.ok (goInt ((1 : Nat) : Int)) (w.drew.setRow b r)) hrow2
    have hov : ∀ lb cb, (callFunc 98 #[.slice (some ⟨vb, 0, none⟩) 1 vc, .slice (some ⟨b, k * 2 + 2, none⟩) lb cb]).run Tryz.prog w = .ok (.value (.bool false)) w := fun lb cb => by
      rw [run_callFunc_extern Tryz.func98 (by kernel_rfl) (by kernel_rfl) (by kernel_rfl) (e := Extern.SlicesOverlaps.overlaps #[22, 22] #[4]) (by kernel_rfl),
        Lib.run_overlaps_apart w 22 4 43 Tryz.underlying22 2 zE ⟨vb, 0, none⟩ ⟨b, k * 2 + 2, none⟩ 1 vc lb cb (fun e => hne e.symm) ev eb new.size cur.size (by simp [World.shape?, hv]) (by simp [World.shape?, hb]) (by omega)
          (by have := hfv 0 (by omega); simp [World.frozen?, hv]; omega) (by have := hfv new.size (by omega); simp [World.frozen?, hv]; omega)]
      rfl
    have hres : RoomRes w b n c cur.size 2 (insAt cur 0 new k 2) (.returned (.slice (some ⟨b, 0, none⟩) (n + 1) c)) (w.drew.setRow b row2) := by
      refine ⟨row2, rfl, rfl, hsize2, fun j hj => ?_, ⟨rfl, rfl, rfl⟩⟩
      rw [hget2, hget1]
      unfold insAt
      rw [Nat.add_mul] at hj
      by_cases hj1 : j < k * 2
      · rw [if_neg (by omega), if_neg (by omega), if_pos hj1, Nat.zero_add]
      · by_cases hj2 : j < k * 2 + 2
        · rw [if_pos (by omega), if_neg hj1, if_pos hj2, Nat.zero_add]
        · rw [if_neg (by omega), if_pos (by omega), if_neg hj1, if_neg hj2]
          congr 1
          omega
    clear hrow1 hrow2 hget1 hget2
    have hw1' : IntKind.i64.wrap ((k : Int) + 1) = (k : Int) + 1 := by rw [IntKind.wrap_i64]; omega
    have hb1' : (0 : Int) ≤ (k : Int) + 1 := by omega
    have hin' : k ≤ n := by omega
    have htn' : ((k : Int) + 1).toNat = k + 1 := by omega
    have hb2' : ¬ (c = k + 1) := by omega
    have hb3' : (k : Int) ≤ (n : Int) + 1 := by omega
    have hb4' : ¬ (c = k) := by omega
    have hcpA := fun ty => hcp1 ty (n - k) (c - (k + 1)) (n + 1 - k) (c - k) (by simp only [Nat.min_def]; split <;> omega)
    have hcpB := fun ty => hcp2 ty (n + 1 - k) (c - k) (by simp only [Nat.min_def]; split <;> omega)
    clear hcp1 hcp2
    have mixed : Tryz.prog.follows .mixedOrders = true := by kernel_rfl
    have hz4 : ¬ ((k : Int) = (n : Int)) := by omega
    have hz5 : ¬ ((c : Int) < (n : Int) + 1) := by omega
    go_enter Tryz.func54, Tryz.ntmps54
    go_wp2_with (simp only [hov])
    go_region_law_o (refine step_copy_runQ rfl _ _ 22 22 rfl _ _ (by simp [Act.eval, Act.put]) (by simp [Act.eval, Act.put]) (hcpA _) ?_)
    go_wp2_with (at_builtin; refine wpList_copy_runQ _ rfl _ _ 22 22 rfl _ _ rfl rfl (hcpB _) ?_)
    go_ret
    exact hres
theorem ins54.info : (Tryz.prog.info? 43).bind (fun i => i.zero.map fun z => (z.cells.size, i.size)) = some (2, 2) := by kernel_rfl
set_option maxHeartbeats 4000000 in
theorem ins54.grow (w : World) (base : Option Addr) (n k c vb vc : Nat) (cur new : Array Value) (o : Nat) (hbase : n = 0 ∨ ∃ a, base = some a ∧ a.off = o ∧ RowAt w a (n * Tryz.prog.cellsOf 43) cur) (hk : k ≤ n) (hnc : n ≤ c) (hcn : c < n + 1)
    (hnew : RowAt w ⟨vb, 0, none⟩ (Tryz.prog.cellsOf 43) new) (hb1 : (n + 1) * Tryz.prog.bytesOf 43 ≤ 140737488355328) (hbig : n + 1 ≤ 140737488355328) :
    Calls Tryz.prog 54 #[.slice base n c, .int .i64 k, .slice (some ⟨vb, 0, none⟩) 1 vc] w (GrowRes w 43 (Tryz.prog.cellsOf 43) n (insAt cur o new k (Tryz.prog.cellsOf 43))) := by
  obtain ⟨i0, hi, hh⟩ := Option.bind_eq_some_iff.1 ins54.info
  obtain ⟨z0, hzv, hh⟩ := Option.map_eq_some_iff.1 hh
  simp only [Prod.mk.injEq] at hh
  obtain ⟨hzs, hisz⟩ := hh
  have hz0 : Tryz.prog.cellsOf 43 = 2 := by kernel_rfl
  have hbytes : Tryz.prog.bytesOf 43 = i0.bytes := by simp [Program.bytesOf, hi]
  rw [hz0] at hbase hnew ⊢
  rw [hbytes] at hb1
  have uS : ∀ w, Sem.run Tryz.prog (underlying 22) w = .ok (TypeDesc.slice 43) w := run_underlying Tryz.underlying22
  have zE : ∀ w, (Go.sizeOf 43).run Tryz.prog w = .ok 2 w := fun w => by simp [sizeOf, typeInfo, hi, hisz]
  have hmk : k * 2 ≤ n * 2 := Nat.mul_le_mul_right _ hk
  have hz2 : ¬ ((1 : Int) = 0) := by omega
  obtain ⟨_, ev, fv, hv, hfn, h1n⟩ := hnew
  have hv : w.heap[vb]? = some (.cells new ev fv) := hv
  have hfn : 2 ≤ new.size := by
    have : 0 + 2 ≤ new.size := hfn
    omega
  have h1n : ∀ j, j < 2 → (new.getD j undef).oneCell' = true := fun j hj => by
    have : (new.getD (0 + j) undef).oneCell' = true := h1n j hj
    rwa [Nat.zero_add] at this
  have hvw : vb < w.heap.size := (Array.getElem?_eq_some_iff.1 hv).1
  have hG : ∀ (m : Nat), m = n + 1 → n + 1 ≤ grownCap w m c 43 := fun m hm => by subst hm; exact grownCap_ge ..
  by_cases hkn : k = n
  · subst hkn
    have hold : ∃ olds : Array Value, (Builtin.firstCells i0.size k (.slice base k c)).run Tryz.prog w.drew = .ok olds w.drew ∧ olds.size = k * 2 ∧ ∀ j, j < k * 2 → olds.getD j undef = cur.getD (o + j) undef := by
      rcases hbase with h0 | ⟨a, rfl, rfl, hsp, ec, fc, hc, hfc, h1c⟩
      · subst h0
        refine ⟨#[], ?_, by simp, fun j hj => by omega⟩
        cases base <;> simp [Builtin.firstCells, loadCells, loadCellsFrom]
      · refine ⟨cur.extract a.off (a.off + k * 2), ?_, by simp; omega, fun j hj => getD_extract_l _ _ _ _ hj⟩
        rw [hisz]
        exact run_first_row (P := Tryz.prog) (w := w.drew) (a := a) hsp hc 2 k c hfc
    obtain ⟨olds, hold, holds, holdg⟩ := hold
    have hf := run_first_row (P := Tryz.prog) (w := w.drew) (a := ⟨vb, 0, none⟩) rfl hv 2 1 vc (by show 0 + 1 * 2 ≤ new.size; omega)
    rw [Nat.one_mul] at hf
    have hrun : ∀ ty, _ := fun ty => run_append_grow' (P := Tryz.prog) w 22 22 ty 43 i0 z0 _ Tryz.underlying22 Tryz.underlying22 (.inr ⟨_, rfl⟩) hi hzv base k c 1 (.slice (some ⟨vb, 0, none⟩) 1 vc) olds _ (fun w => by simp [Builtin.lenOf]) (by rw [hisz]; exact hf) hold hcn (.inr (by omega)) (growslice_fits hcn hb1)
    have hgc := hG _ rfl
    obtain ⟨gc, hgc'⟩ : ∃ gc, grownCap w (k + 1) c 43 = gc := ⟨_, rfl⟩
    rw [hgc'] at hrun hgc
    obtain ⟨row, hrow⟩ : ∃ row, olds ++ new.extract 0 (0 + 2) ++ Builtin.zeroCells z0.cells (gc - (k + 1)) = row := ⟨_, rfl⟩
    have hrow' : olds ++ new.extract (Addr.off ⟨vb, 0, none⟩) (Addr.off ⟨vb, 0, none⟩ + 2) ++ Builtin.zeroCells z0.cells (gc - (k + 1)) = row := hrow
    rw [hrow'] at hrun
    have hes : (new.extract 0 (0 + 2)).size = 2 := by simp; omega
    have hrs : row.size = gc * 2 := by
      rw [← hrow, Array.size_append, Array.size_append, size_zeroCells, hzs, hes, holds, Nat.sub_mul, Nat.add_mul]
      have := Nat.mul_le_mul_right 2 hgc
      rw [Nat.add_mul] at this
      omega
    have hrg : ∀ j, j < (k + 1) * 2 → row.getD j undef = insAt cur o new k 2 j := fun j hj => by
      rw [Nat.add_mul] at hj
      rw [← hrow, getD_append_l _ _ _ (by rw [Array.size_append, holds, hes]; omega)]
      unfold insAt
      by_cases hj1 : j < k * 2
      · rw [if_pos hj1, getD_append_l _ _ _ (by omega), holdg j hj1]
      · rw [if_neg hj1, if_pos (by omega), Array.getD_eq_getD_getElem?, Array.getElem?_append, if_neg (by omega), ← Array.getD_eq_getD_getElem?, holds, getD_extract_l _ _ _ _ (by omega), Nat.zero_add]
    have hres : GrowRes w 43 2 k (insAt cur o new k 2) (.returned (.slice (some ⟨w.heap.size, 0, none⟩) (k + 1) gc)) (w.drew.alloc (.cells row 43)) := ⟨gc, row, hgc, rfl, rfl, hrs, hrg, rfl, rfl, rfl⟩
    clear hrow hrow' hold holdg hgc' hbase hf hG
    go_enter Tryz.func54, Tryz.ntmps54
    cases base with
    | none =>
      go_wp2_with (at_builtin; refine Lib.wpList_append_run _ rfl _ _ 22 22 rfl _ _ rfl rfl _ _ (hrun _) ?_)
      all_goals (go_ret; exact hres)
    | some a =>
      obtain ⟨ab, ao, asp⟩ := a
      go_wp2_with (at_builtin; refine Lib.wpList_append_run _ rfl _ _ 22 22 rfl _ _ rfl rfl _ _ (hrun _) ?_)
      all_goals (go_ret; exact hres)
  · have hlt : k < n := by omega
    obtain rfl : c = n := by omega
    rcases hbase with h0 | ⟨a, rfl, rfl, hsp, ec, fc, hc, hfc, h1c⟩
    · omega
    obtain ⟨ab, ao, asp⟩ := a
    obtain rfl : asp = none := hsp
    have hc : w.heap[ab]? = some (.cells cur ec fc) := hc
    have hfc : ao + c * 2 ≤ cur.size := hfc
    have h1c : ∀ j, j < c * 2 → (cur.getD (ao + j) undef).oneCell' = true := h1c
    show Calls _ _ _ _ (GrowRes w 43 2 c (insAt cur ao new k 2))
    have hcw : ab < w.heap.size := (Array.getElem?_eq_some_iff.1 hc).1
    have hmlt : (k + 1) * 2 ≤ c * 2 := Nat.mul_le_mul_right _ hlt
    have hkk : (k + 1) * 2 = k * 2 + 2 := by rw [Nat.add_mul]
    have hsub : (c - k) * 2 = c * 2 - k * 2 := Nat.sub_mul ..
    have hik : k + (c + 1 - k) = c + 1 := by omega
    have hold := run_first_row (P := Tryz.prog) (w := w.drew) (a := ⟨ab, ao, none⟩) rfl hc 2 k c (by show ao + k * 2 ≤ _; omega)
    have hold : (Builtin.firstCells i0.size k (.slice (some ⟨ab, ao, none⟩) k c)).run Tryz.prog w.drew = .ok (cur.extract ao (ao + k * 2)).toList.toArray w.drew := by rw [hisz, Array.toArray_toList]; exact hold
    have hrz : ∀ ty, _ := fun ty => Lib.run_append_grow_zeros (P := Tryz.prog) w 22 3 ty 43 i0 z0 .i64 .i64 Tryz.underlying22 Tryz.underlying3 hi hzv (some ⟨ab, ao, none⟩) k c _ hold (c + 1 - k) (by omega) (by omega) (by omega) (by omega)
      (Nat.le_trans (Nat.mul_le_mul_right _ (show c + 1 - k ≤ c + 1 by omega)) (by omega)) (by rw [hik]; exact growslice_fits hcn hb1)
    rw [hik] at hrz
    have hgc := hG _ rfl
    obtain ⟨gc, hgc'⟩ : ∃ gc, grownCap w (c + 1) c 43 = gc := ⟨_, rfl⟩
    rw [hgc'] at hrz hgc
    rw [Array.toArray_toList] at hrz
    obtain ⟨row, hrow⟩ : ∃ row, cur.extract ao (ao + k * 2) ++ Builtin.zeroCells z0.cells (c + 1 - k) ++ Builtin.zeroCells z0.cells (gc - (c + 1)) = row := ⟨_, rfl⟩
    rw [hrow] at hrz
    have hkI : ((c + 1 - k : Nat) : Int) = (c : Int) + 1 - (k : Int) := by omega
    rw [hkI] at hrz
    have hes : (cur.extract ao (ao + k * 2)).size = k * 2 := by simp; omega
    have hmc := Nat.mul_le_mul_right 2 hgc
    rw [Nat.add_mul] at hmc
    have hrs : row.size = gc * 2 := by
      rw [← hrow, Array.size_append, Array.size_append, size_zeroCells, size_zeroCells, hzs, hes, Nat.sub_mul, Nat.sub_mul, Nat.add_mul]
      omega
    have hrg : ∀ j, j < k * 2 → row.getD j undef = cur.getD (ao + j) undef := fun j hj => by
      rw [← hrow, getD_append_l _ _ _ (by rw [Array.size_append, hes]; omega), getD_append_l _ _ _ (by omega), getD_extract_l _ _ _ _ hj]
    clear hrow
    have hA : (w.drew.alloc (.cells row 43)).heap[w.heap.size]? = some (.cells row 43 (0, 0)) := heap_alloc_new w.drew _
    have hAv : (w.drew.alloc (.cells row 43)).heap[vb]? = some (.cells new ev fv) := by exact (Go.Fw.alloc_old w.drew _ vb hvw).trans hv
    have hAc : (w.drew.alloc (.cells row 43)).heap[ab]? = some (.cells cur ec fc) := by exact (Go.Fw.alloc_old w.drew _ ab hcw).trans hc
    obtain ⟨row2, hrow2⟩ : ∃ r, (lay row.toList (k * 2) (new.extract 0 (0 + 2)).toList).toArray = r := ⟨_, rfl⟩
    have hs2 : row2.size = row.size := by rw [← hrow2]; exact size_lay_in _ _ _ _ _ (by omega) (by omega)
    have hg2 : ∀ j, row2.getD j undef = if k * 2 ≤ j ∧ j < k * 2 + 2 then new.getD (0 + (j - k * 2)) undef else row.getD j undef := fun j => by rw [← hrow2]; exact getD_lay_in _ _ _ _ _ _ (by omega) (by omega)
    obtain ⟨row3, hrow3⟩ : ∃ r, (lay row2.toList (k * 2 + 2) (cur.extract (ao + k * 2) (ao + k * 2 + (c - k) * 2)).toList).toArray = r := ⟨_, rfl⟩
    have hs3 : row3.size = row.size := by rw [← hrow3, ← hs2]; exact size_lay_in _ _ _ _ _ (by omega) (by omega)
    have hg3 : ∀ j, row3.getD j undef = if k * 2 + 2 ≤ j ∧ j < k * 2 + 2 + (c - k) * 2 then cur.getD (ao + k * 2 + (j - (k * 2 + 2))) undef else row2.getD j undef := fun j => by rw [← hrow3]; exact getD_lay_in _ _ _ _ _ _ (by omega) (by omega)
    have hcpA : ∀ ty dc, (Builtin.copy_ #[22, 22] ty #[.slice (some ⟨w.heap.size, k * 2, none⟩) (c + 1 - k) dc, .slice (some ⟨vb, 0, none⟩) 1 vc]).run Tryz.prog (w.drew.alloc (.cells row 43)) = .ok (goInt ((1 : Nat) : Int)) ((w.drew.alloc (.cells row 43)).setRow w.heap.size row2) := fun ty dc => by
      have := run_copy_rows (P := Tryz.prog) (w.drew.alloc (.cells row 43)) 22 22 ty 43 i0 w.heap.size (k * 2) (c + 1 - k) dc ⟨vb, 0, none⟩ 1 vc 1 new row ev 43 fv (0, 0) Tryz.underlying22 hi (by simp only [Nat.min_def]; split <;> omega) rfl hAv (by rw [hisz]; show 0 + 1 * 2 ≤ _; omega) hA (fun o ho => by simp) (by rw [hisz]; omega) (fun j hj => by rw [hisz] at hj; show (new.getD (0 + j) undef).oneCell' = true; rw [Nat.zero_add]; exact h1n _ (by omega))
      rw [hisz, Nat.one_mul] at this
      rw [this]
      exact congrArg (fun r => Result.ok (goInt ((1 : Nat) : Int)) ((w.drew.alloc (.cells row 43)).setRow w.heap.size r)) hrow2
    obtain ⟨W2, hW2⟩ : ∃ W2, (w.drew.alloc (.cells row 43)).setRow w.heap.size row2 = W2 := ⟨_, rfl⟩
    rw [hW2] at hcpA
    have hcpA : ∀ ty dc, (Builtin.copy_ #[22, 22] ty #[.slice (some ⟨w.heap.size, k * 2, none⟩) (c + 1 - k) dc, .slice (some ⟨vb, 0, none⟩) 1 vc]).run Tryz.prog (w.alloc (.cells row 43)).drew = .ok (goInt ((1 : Nat) : Int)) W2 := hcpA
    have hB : W2.drew.heap[w.heap.size]? = some (.cells row2 43 (0, 0)) := by rw [← hW2]; exact setRow_heap _ _ _ _ _ _ hA
    have hBc : W2.drew.heap[ab]? = some (.cells cur ec fc) := by rw [← hW2]; exact (setRow_other _ _ _ _ (by omega)).trans hAc
    have hcpB : ∀ ty dc sc, (Builtin.copy_ #[22, 22] ty #[.slice (some ⟨w.heap.size, k * 2 + 2, none⟩) (c - k) dc, .slice (some ⟨ab, ao + k * 2, none⟩) (c - k) sc]).run Tryz.prog W2.drew = .ok (goInt ((c - k : Nat) : Int)) (W2.drew.setRow w.heap.size row3) := fun ty dc sc => by
      have := run_copy_rows (P := Tryz.prog) W2.drew 22 22 ty 43 i0 w.heap.size (k * 2 + 2) (c - k) dc ⟨ab, ao + k * 2, none⟩ (c - k) sc (c - k) cur row2 ec 43 fc (0, 0) Tryz.underlying22 hi (by simp only [Nat.min_def]; split <;> omega) rfl hBc (by rw [hisz]; show ao + k * 2 + _ ≤ _; omega) hB (fun o ho => by simp) (by rw [hisz]; omega) (fun j hj => by rw [hisz] at hj; show (cur.getD (ao + k * 2 + j) undef).oneCell' = true; rw [Nat.add_assoc]; exact h1c _ (by omega))
      rw [hisz] at this
      rw [this, ← hrow3]
    have hheap : (W2.drew.setRow w.heap.size row3).heap = w.heap.push (.cells row3 43 (0, 0)) := by
      have e1 : (W2.drew.setRow w.heap.size row3).heap = (((w.drew.alloc (.cells row 43)).setRow w.heap.size row2).setRow w.heap.size row3).heap := by rw [← hW2]; rfl
      rw [e1, setRow_setRow]
      exact alloc_setRow w.drew row row3 43
    have hres : GrowRes w 43 2 c (insAt cur ao new k 2) (.returned (.slice (some ⟨w.heap.size, 0, none⟩) (c + 1) gc)) (W2.drew.setRow w.heap.size row3) := by
      refine ⟨gc, row3, hgc, rfl, hheap, by rw [hs3, hrs], fun j hj => ?_, by rw [← hW2]; exact ⟨rfl, rfl, rfl⟩⟩
      rw [hg3, hg2]
      unfold insAt
      rw [Nat.add_mul] at hj
      by_cases hj1 : j < k * 2
      · rw [if_neg (by omega), if_neg (by omega), if_pos hj1, hrg j hj1]
      · by_cases hj2 : j < k * 2 + 2
        · rw [if_neg (by omega), if_pos (by omega), if_neg hj1, if_pos hj2, Nat.zero_add]
        · rw [if_pos (by omega), if_neg hj1, if_neg hj2]
          congr 1
          omega
    clear hrow2 hrow3 hg2 hg3 hrg hB hBc hA hAv hAc hheap hW2 hold hG
    have hz4 : ¬ ((k : Int) = (c : Int)) := by omega
    have hz5 : (c : Int) < (c : Int) + 1 := by omega
    have hw1' : IntKind.i64.wrap ((k : Int) + 1) = (k : Int) + 1 := by rw [IntKind.wrap_i64]; omega
    have hb1' : (0 : Int) ≤ (k : Int) + 1 := by omega
    have hin' : k ≤ c := by omega
    have htn' : ((k : Int) + 1).toNat = k + 1 := by omega
    have hG1 : ¬ (gc = k) := by omega
    have hG2 : ¬ (gc = k + 1) := by omega
    have hb2' : ¬ (c = k + 1) ∨ c = k + 1 := by omega
    have hb3' : (k : Int) ≤ (c : Int) := by omega
    have hb3'' : (k : Int) ≤ (c : Int) + 1 := by omega
    have hb4' : ¬ (c = k) := by omega
    have hck : c + 1 - (k + 1) = c - k := by omega
    have mixed : Tryz.prog.follows .mixedOrders = true := by kernel_rfl
    go_enter Tryz.func54, Tryz.ntmps54
    go_wp2_with (first
      | (at_builtin; refine Lib.wpList_append_run _ rfl _ _ 22 3 rfl _ _ rfl rfl _ _ (hrz _) ?_)
      | (at_builtin; refine wpList_copy_runQ _ rfl _ _ 22 22 rfl _ _ rfl rfl (hcpA _ _) ?_))
    go_region_law_o (refine step_copy_runQ rfl _ _ 22 22 rfl _ _ (by simp [Act.eval, Act.put]) (by simp [Act.eval, Act.put]) (hcpB _ _ _) ?_)
    go_wp2
    go_ret
    exact hres
theorem ins54 : InsC Tryz.prog 54 43 := ⟨⟨_, Tryz.func54, by kernel_rfl, by kernel_rfl⟩, ins54.grow, ins54.room⟩
end Go.Proofs.YtkgnhjmbnmaboaaGreatDoor
end
section
/- slices.Insert of one thing: its contract, along its own text. By this session. -/
set_option linter.unusedVariables false
set_option linter.unusedSimpArgs false
set_option maxRecDepth 100000
namespace Go.Proofs.YtkgnhjmbnmaboaaGreatDoor
open Go Go.Fw Go.RowKit Go.Lib
set_option maxHeartbeats 4000000 in
theorem ins129.room (w : World) (b n k c vb vc : Nat) (cur new : Array Value) (eb ev : TypeId) (fb fv : Nat × Nat) (hk : k ≤ n) (hc : n + 1 ≤ c) (hne : b ≠ vb) (hbig : n + 1 ≤ 140737488355328)
    (hb : w.heap[b]? = some (.cells cur eb fb)) (hfb : ∀ o, o < cur.size + 1 → ¬ (fb.1 ≤ o ∧ o < fb.2)) (hfit : c * Tryz.prog.cellsOf 130 ≤ cur.size) (h1 : ∀ j, j < n * Tryz.prog.cellsOf 130 → (cur.getD j undef).oneCell' = true)
    (hv : w.heap[vb]? = some (.cells new ev fv)) (hfv : ∀ o, o < new.size + 1 → ¬ (fv.1 ≤ o ∧ o < fv.2)) (hfn : Tryz.prog.cellsOf 130 ≤ new.size) (h1n : ∀ j, j < Tryz.prog.cellsOf 130 → (new.getD j undef).oneCell' = true) :
    Calls Tryz.prog 129 #[.slice (some ⟨b, 0, none⟩) n c, .int .i64 k, .slice (some ⟨vb, 0, none⟩) 1 vc] w (RoomRes w b n c cur.size (Tryz.prog.cellsOf 130) (insAt cur 0 new k (Tryz.prog.cellsOf 130))) := by
  obtain ⟨i0, hi⟩ := Option.isSome_iff_exists.1 (show (Tryz.prog.info? 130).isSome = true by kernel_rfl)
  have hz0 : Tryz.prog.cellsOf 130 = 3 := by kernel_rfl
  have hisz : i0.size = 3 := by
    have : Tryz.prog.cellsOf 130 = i0.size := by simp [Program.cellsOf, hi]
    omega
  rw [hz0] at hfit h1 hfn h1n ⊢
  have uS : ∀ w, Sem.run Tryz.prog (underlying 73) w = .ok (TypeDesc.slice 130) w := run_underlying Tryz.underlying73
  have zE : ∀ w, (Go.sizeOf 130).run Tryz.prog w = .ok 3 w := fun w => by simp [sizeOf, typeInfo, hi, hisz]
  have hmul : (n + 1) * 3 ≤ c * 3 := Nat.mul_le_mul_right _ hc
  have hmk : k * 3 ≤ n * 3 := Nat.mul_le_mul_right _ hk
  rw [Nat.add_mul] at hmul
  have hz2 : ¬ ((1 : Int) = 0) := by omega
  by_cases hkn : k = n
  · subst hkn
    have hrun : ∀ ty, (Builtin.append_ #[73, 73] ty #[.slice (some ⟨b, 0, none⟩) k c, .slice (some ⟨vb, 0, none⟩) 1 vc]).run Tryz.prog w = .ok (.slice (some ⟨b, 0, none⟩) (k + 1) c) (w.setRow b (lay cur.toList (k * 3) (new.extract 0 (0 + 3)).toList).toArray) := fun ty => by
      have hst := run_storeCells_row (P := Tryz.prog) b (k * 3) eb fb (new.extract 0 (0 + 3)).toList 0 cur w hb (fun o ho => hfb o (by omega)) (by simp; omega) (fun v hv => by
        obtain ⟨j, hj⟩ := List.mem_iff_getElem?.1 hv
        rw [Array.getElem?_toList, Array.getElem?_extract] at hj
        split at hj
        · have := h1n j (by omega)
          rw [Nat.zero_add] at hj
          rw [Array.getD_eq_getD_getElem?, hj] at this
          exact this
        · cases hj)
      have hf := run_first_row (P := Tryz.prog) (w := w) (a := ⟨vb, 0, none⟩) rfl hv 3 1 vc (by show 0 + 1 * 3 ≤ new.size; omega)
      rw [Nat.one_mul] at hf
      have := run_append_room' (P := Tryz.prog) w 73 73 ty 130 i0 _ Tryz.underlying73 Tryz.underlying73 (.inr ⟨_, rfl⟩) hi ⟨b, 0, none⟩ k c 1 (.slice (some ⟨vb, 0, none⟩) 1 vc) _ (fun w => by simp [Builtin.lenOf]) (by rw [hisz]; exact hf) hc (w' := w.setRow b (lay cur.toList (k * 3) (new.extract 0 (0 + 3)).toList).toArray) (by
        rw [hisz, addr_add _ rfl]
        simpa using hst)
      exact this
    obtain ⟨row, hrow⟩ : ∃ row, (lay cur.toList (k * 3) (new.extract 0 (0 + 3)).toList).toArray = row := ⟨_, rfl⟩
    have hsize : row.size = cur.size := by rw [← hrow]; exact size_lay_in _ _ _ _ _ (by omega) (by omega)
    have hget : ∀ j, row.getD j undef = if k * 3 ≤ j ∧ j < k * 3 + 3 then new.getD (0 + (j - k * 3)) undef else cur.getD j undef := fun j => by rw [← hrow]; exact getD_lay_in _ _ _ _ _ _ (by omega) (by omega)
    rw [hrow] at hrun
    clear hrow
    go_enter Tryz.func129, Tryz.ntmps129
    go_wp2_with (at_builtin; refine Lib.wpList_append_run _ rfl _ _ 73 73 rfl _ _ rfl rfl _ _ (hrun _) ?_)
    go_ret
    refine ⟨row, rfl, rfl, hsize, fun j hj => ?_, ⟨rfl, rfl, rfl⟩⟩
    rw [hget]
    unfold insAt
    rw [Nat.add_mul] at hj
    by_cases hj1 : j < k * 3
    · rw [if_neg (by omega), if_pos hj1, Nat.zero_add]
    · rw [if_pos (by omega), if_neg hj1, if_pos (by omega), Nat.zero_add]
  · have hlt : k < n := by omega
    have hmlt : (k + 1) * 3 ≤ n * 3 := Nat.mul_le_mul_right _ hlt
    have hkk : (k + 1) * 3 = k * 3 + 3 := by rw [Nat.add_mul]
    have hsub : (n - k) * 3 = n * 3 - k * 3 := Nat.sub_mul ..
    obtain ⟨row1, hrow1⟩ : ∃ row, (lay cur.toList (k * 3 + 3) (cur.extract (k * 3) (k * 3 + (n - k) * 3)).toList).toArray = row := ⟨_, rfl⟩
    have hsize1 : row1.size = cur.size := by rw [← hrow1]; exact size_lay_in _ _ _ _ _ (by omega) (by omega)
    have hget1 : ∀ j, row1.getD j undef = if k * 3 + 3 ≤ j ∧ j < k * 3 + 3 + (n - k) * 3 then cur.getD (k * 3 + (j - (k * 3 + 3))) undef else cur.getD j undef := fun j => by rw [← hrow1]; exact getD_lay_in _ _ _ _ _ _ (by omega) (by omega)
    obtain ⟨row2, hrow2⟩ : ∃ row, (lay row1.toList (k * 3) (new.extract 0 (0 + 3)).toList).toArray = row := ⟨_, rfl⟩
    have hsize2 : row2.size = cur.size := by rw [← hrow2, ← hsize1]; exact size_lay_in _ _ _ _ _ (by omega) (by omega)
    have hget2 : ∀ j, row2.getD j undef = if k * 3 ≤ j ∧ j < k * 3 + 3 then new.getD (0 + (j - k * 3)) undef else row1.getD j undef := fun j => by rw [← hrow2]; exact getD_lay_in _ _ _ _ _ _ (by omega) (by omega)
    have hcp1 : ∀ ty dl dc sl sc, Nat.min sl dl = n - k → (Builtin.copy_ #[73, 73] ty #[.slice (some ⟨b, k * 3 + 3, none⟩) dl dc, .slice (some ⟨b, k * 3, none⟩) sl sc]).run Tryz.prog w.drew = .ok (goInt ((n - k : Nat) : Int)) (w.drew.setRow b row1) := fun ty dl dc sl sc hm => by
      have := run_copy_rows (P := Tryz.prog) w.drew 73 73 ty 130 i0 b (k * 3 + 3) dl dc ⟨b, k * 3, none⟩ sl sc (n - k) cur cur eb eb fb fb Tryz.underlying73 hi hm rfl hb (by rw [hisz]; show k * 3 + _ ≤ _; omega) hb (fun o ho => hfb o (by omega)) (by rw [hisz]; omega) (fun j hj => by rw [hisz] at hj; exact h1 _ (by show k * 3 + j < _; omega))
      rw [hisz] at this
      rw [this, ← hrow1]
    have hw1 : (w.drew.setRow b row1).heap[b]? = some (.cells row1 eb fb) := setRow_heap w.drew b cur row1 eb fb hb
    have hv1 : (w.drew.setRow b row1).heap[vb]? = some (.cells new ev fv) := by rw [setRow_other w.drew b vb row1 (fun e => hne e.symm)]; exact hv
    have hcp2 : ∀ ty dl dc, Nat.min 1 dl = 1 → (Builtin.copy_ #[73, 73] ty #[.slice (some ⟨b, k * 3, none⟩) dl dc, .slice (some ⟨vb, 0, none⟩) 1 vc]).run Tryz.prog (w.drew.setRow b row1) = .ok (goInt ((1 : Nat) : Int)) (w.drew.setRow b row2) := fun ty dl dc hm => by
      have := run_copy_rows (P := Tryz.prog) (w.drew.setRow b row1) 73 73 ty 130 i0 b (k * 3) dl dc ⟨vb, 0, none⟩ 1 vc 1 new row1 ev eb fv fb Tryz.underlying73 hi hm rfl hv1 (by rw [hisz]; show 0 + 1 * 3 ≤ _; omega) hw1 (fun o ho => hfb o (by omega)) (by rw [hisz]; omega) (fun j hj => by rw [hisz] at hj; show (new.getD (0 + j) undef).oneCell' = true; rw [Nat.zero_add]; exact h1n _ (by omega))
      rw [hisz, Nat.one_mul] at this
      rw [this, setRow_setRow]
      exact congrArg (fun r => Result.ok (goInt ((1 : Nat) : Int)) (w.drew.setRow b r)) hrow2
    have hov : ∀ lb cb, (callFunc 170 #[.slice (some ⟨vb, 0, none⟩) 1 vc, .slice (some ⟨b, k * 3 + 3, none⟩) lb cb]).run Tryz.prog w = .ok (.value (.bool false)) w := fun lb cb => by
      rw [run_callFunc_extern Tryz.func170 (by kernel_rfl) (by kernel_rfl) (by kernel_rfl) (e := Extern.SlicesOverlaps.overlaps #[73, 73] #[4]) (by kernel_rfl),
        Lib.run_overlaps_apart w 73 4 130 Tryz.underlying73 3 zE ⟨vb, 0, none⟩ ⟨b, k * 3 + 3, none⟩ 1 vc lb cb (fun e => hne e.symm) ev eb new.size cur.size (by simp [World.shape?, hv]) (by simp [World.shape?, hb]) (by omega)
          (by have := hfv 0 (by omega); simp [World.frozen?, hv]; omega) (by have := hfv new.size (by omega); simp [World.frozen?, hv]; omega)]
      rfl
    have hres : RoomRes w b n c cur.size 3 (insAt cur 0 new k 3) (.returned (.slice (some ⟨b, 0, none⟩) (n + 1) c)) (w.drew.setRow b row2) := by
      refine ⟨row2, rfl, rfl, hsize2, fun j hj => ?_, ⟨rfl, rfl, rfl⟩⟩
      rw [hget2, hget1]
      unfold insAt
      rw [Nat.add_mul] at hj
      by_cases hj1 : j < k * 3
      · rw [if_neg (by omega), if_neg (by omega), if_pos hj1, Nat.zero_add]
      · by_cases hj2 : j < k * 3 + 3
        · rw [if_pos (by omega), if_neg hj1, if_pos hj2, Nat.zero_add]
        · rw [if_neg (by omega), if_pos (by omega), if_neg hj1, if_neg hj2]
          congr 1
          omega
    clear hrow1 hrow2 hget1 hget2
    have hw1' : IntKind.i64.wrap ((k : Int) + 1) = (k : Int) + 1 := by rw [IntKind.wrap_i64]; omega
    have hb1' : (0 : Int) ≤ (k : Int) + 1 := by omega
    have hin' : k ≤ n := by omega
    have htn' : ((k : Int) + 1).toNat = k + 1 := by omega
    have hb2' : ¬ (c = k + 1) := by omega
    have hb3' : (k : Int) ≤ (n : Int) + 1 := by omega
    have hb4' : ¬ (c = k) := by omega
    have hcpA := fun ty => hcp1 ty (n - k) (c - (k + 1)) (n + 1 - k) (c - k) (by simp only [Nat.min_def]; split <;> omega)
    have hcpB := fun ty => hcp2 ty (n + 1 - k) (c - k) (by simp only [Nat.min_def]; split <;> omega)
    clear hcp1 hcp2
    have mixed : Tryz.prog.follows .mixedOrders = true := by kernel_rfl
    have hz4 : ¬ ((k : Int) = (n : Int)) := by omega
    have hz5 : ¬ ((c : Int) < (n : Int) + 1) := by omega
    go_enter Tryz.func129, Tryz.ntmps129
    go_wp2_with (simp only [hov])
    go_region_law_o (refine step_copy_runQ rfl _ _ 73 73 rfl _ _ (by simp [Act.eval, Act.put]) (by simp [Act.eval, Act.put]) (hcpA _) ?_)
    go_wp2_with (at_builtin; refine wpList_copy_runQ _ rfl _ _ 73 73 rfl _ _ rfl rfl (hcpB _) ?_)
    go_ret
    exact hres
theorem ins129.info : (Tryz.prog.info? 130).bind (fun i => i.zero.map fun z => (z.cells.size, i.size)) = some (3, 3) := by kernel_rfl
set_option maxHeartbeats 4000000 in
theorem ins129.grow (w : World) (base : Option Addr) (n k c vb vc : Nat) (cur new : Array Value) (o : Nat) (hbase : n = 0 ∨ ∃ a, base = some a ∧ a.off = o ∧ RowAt w a (n * Tryz.prog.cellsOf 130) cur) (hk : k ≤ n) (hnc : n ≤ c) (hcn : c < n + 1)
    (hnew : RowAt w ⟨vb, 0, none⟩ (Tryz.prog.cellsOf 130) new) (hb1 : (n + 1) * Tryz.prog.bytesOf 130 ≤ 140737488355328) (hbig : n + 1 ≤ 140737488355328) :
    Calls Tryz.prog 129 #[.slice base n c, .int .i64 k, .slice (some ⟨vb, 0, none⟩) 1 vc] w (GrowRes w 130 (Tryz.prog.cellsOf 130) n (insAt cur o new k (Tryz.prog.cellsOf 130))) := by
  obtain ⟨i0, hi, hh⟩ := Option.bind_eq_some_iff.1 ins129.info
  obtain ⟨z0, hzv, hh⟩ := Option.map_eq_some_iff.1 hh
  simp only [Prod.mk.injEq] at hh
  obtain ⟨hzs, hisz⟩ := hh
  have hz0 : Tryz.prog.cellsOf 130 = 3 := by kernel_rfl
  have hbytes : Tryz.prog.bytesOf 130 = i0.bytes := by simp [Program.bytesOf, hi]
  rw [hz0] at hbase hnew ⊢
  rw [hbytes] at hb1
  have uS : ∀ w, Sem.run Tryz.prog (underlying 73) w = .ok (TypeDesc.slice 130) w := run_underlying Tryz.underlying73
  have zE : ∀ w, (Go.sizeOf 130).run Tryz.prog w = .ok 3 w := fun w => by simp [sizeOf, typeInfo, hi, hisz]
  have hmk : k * 3 ≤ n * 3 := Nat.mul_le_mul_right _ hk
  have hz2 : ¬ ((1 : Int) = 0) := by omega
  obtain ⟨_, ev, fv, hv, hfn, h1n⟩ := hnew
  have hv : w.heap[vb]? = some (.cells new ev fv) := hv
  have hfn : 3 ≤ new.size := by
    have : 0 + 3 ≤ new.size := hfn
    omega
  have h1n : ∀ j, j < 3 → (new.getD j undef).oneCell' = true := fun j hj => by
    have : (new.getD (0 + j) undef).oneCell' = true := h1n j hj
    rwa [Nat.zero_add] at this
  have hvw : vb < w.heap.size := (Array.getElem?_eq_some_iff.1 hv).1
  have hG : ∀ (m : Nat), m = n + 1 → n + 1 ≤ grownCap w m c 130 := fun m hm => by subst hm; exact grownCap_ge ..
  by_cases hkn : k = n
  · subst hkn
    have hold : ∃ olds : Array Value, (Builtin.firstCells i0.size k (.slice base k c)).run Tryz.prog w.drew = .ok olds w.drew ∧ olds.size = k * 3 ∧ ∀ j, j < k * 3 → olds.getD j undef = cur.getD (o + j) undef := by
      rcases hbase with h0 | ⟨a, rfl, rfl, hsp, ec, fc, hc, hfc, h1c⟩
      · subst h0
        refine ⟨#[], ?_, by simp, fun j hj => by omega⟩
        cases base <;> simp [Builtin.firstCells, loadCells, loadCellsFrom]
      · refine ⟨cur.extract a.off (a.off + k * 3), ?_, by simp; omega, fun j hj => getD_extract_l _ _ _ _ hj⟩
        rw [hisz]
        exact run_first_row (P := Tryz.prog) (w := w.drew) (a := a) hsp hc 3 k c hfc
    obtain ⟨olds, hold, holds, holdg⟩ := hold
    have hf := run_first_row (P := Tryz.prog) (w := w.drew) (a := ⟨vb, 0, none⟩) rfl hv 3 1 vc (by show 0 + 1 * 3 ≤ new.size; omega)
    rw [Nat.one_mul] at hf
    have hrun : ∀ ty, _ := fun ty => run_append_grow' (P := Tryz.prog) w 73 73 ty 130 i0 z0 _ Tryz.underlying73 Tryz.underlying73 (.inr ⟨_, rfl⟩) hi hzv base k c 1 (.slice (some ⟨vb, 0, none⟩) 1 vc) olds _ (fun w => by simp [Builtin.lenOf]) (by rw [hisz]; exact hf) hold hcn (.inr (by omega)) (growslice_fits hcn hb1)
    have hgc := hG _ rfl
    obtain ⟨gc, hgc'⟩ : ∃ gc, grownCap w (k + 1) c 130 = gc := ⟨_, rfl⟩
    rw [hgc'] at hrun hgc
    obtain ⟨row, hrow⟩ : ∃ row, olds ++ new.extract 0 (0 + 3) ++ Builtin.zeroCells z0.cells (gc - (k + 1)) = row := ⟨_, rfl⟩
    have hrow' : olds ++ new.extract (Addr.off ⟨vb, 0, none⟩) (Addr.off ⟨vb, 0, none⟩ + 3) ++ Builtin.zeroCells z0.cells (gc - (k + 1)) = row := hrow
    rw [hrow'] at hrun
    have hes : (new.extract 0 (0 + 3)).size = 3 := by simp; omega
    have hrs : row.size = gc * 3 := by
      rw [← hrow, Array.size_append, Array.size_append, size_zeroCells, hzs, hes, holds, Nat.sub_mul, Nat.add_mul]
      have := Nat.mul_le_mul_right 3 hgc
      rw [Nat.add_mul] at this
      omega
    have hrg : ∀ j, j < (k + 1) * 3 → row.getD j undef = insAt cur o new k 3 j := fun j hj => by
      rw [Nat.add_mul] at hj
      rw [← hrow, getD_append_l _ _ _ (by rw [Array.size_append, holds, hes]; omega)]
      unfold insAt
      by_cases hj1 : j < k * 3
      · rw [if_pos hj1, getD_append_l _ _ _ (by omega), holdg j hj1]
      · rw [if_neg hj1, if_pos (by omega), Array.getD_eq_getD_getElem?, Array.getElem?_append, if_neg (by omega), ← Array.getD_eq_getD_getElem?, holds, getD_extract_l _ _ _ _ (by omega), Nat.zero_add]
    have hres : GrowRes w 130 3 k (insAt cur o new k 3) (.returned (.slice (some ⟨w.heap.size, 0, none⟩) (k + 1) gc)) (w.drew.alloc (.cells row 130)) := ⟨gc, row, hgc, rfl, rfl, hrs, hrg, rfl, rfl, rfl⟩
    clear hrow hrow' hold holdg hgc' hbase hf hG
    go_enter Tryz.func129, Tryz.ntmps129
    cases base with
    | none =>
      go_wp2_with (at_builtin; refine Lib.wpList_append_run _ rfl _ _ 73 73 rfl _ _ rfl rfl _ _ (hrun _) ?_)
      all_goals (go_ret; exact hres)
    | some a =>
      obtain ⟨ab, ao, asp⟩ := a
      go_wp2_with (at_builtin; refine Lib.wpList_append_run _ rfl _ _ 73 73 rfl _ _ rfl rfl _ _ (hrun _) ?_)
      all_goals (go_ret; exact hres)
  · have hlt : k < n := by omega
    obtain rfl : c = n := by omega
    rcases hbase with h0 | ⟨a, rfl, rfl, hsp, ec, fc, hc, hfc, h1c⟩
    · omega
    obtain ⟨ab, ao, asp⟩ := a
    obtain rfl : asp = none := hsp
    have hc : w.heap[ab]? = some (.cells cur ec fc) := hc
    have hfc : ao + c * 3 ≤ cur.size := hfc
    have h1c : ∀ j, j < c * 3 → (cur.getD (ao + j) undef).oneCell' = true := h1c
    show Calls _ _ _ _ (GrowRes w 130 3 c (insAt cur ao new k 3))
    have hcw : ab < w.heap.size := (Array.getElem?_eq_some_iff.1 hc).1
    have hmlt : (k + 1) * 3 ≤ c * 3 := Nat.mul_le_mul_right _ hlt
    have hkk : (k + 1) * 3 = k * 3 + 3 := by rw [Nat.add_mul]
    have hsub : (c - k) * 3 = c * 3 - k * 3 := Nat.sub_mul ..
    have hik : k + (c + 1 - k) = c + 1 := by omega
    have hold := run_first_row (P := Tryz.prog) (w := w.drew) (a := ⟨ab, ao, none⟩) rfl hc 3 k c (by show ao + k * 3 ≤ _; omega)
    have hold : (Builtin.firstCells i0.size k (.slice (some ⟨ab, ao, none⟩) k c)).run Tryz.prog w.drew = .ok (cur.extract ao (ao + k * 3)).toList.toArray w.drew := by rw [hisz, Array.toArray_toList]; exact hold
    have hrz : ∀ ty, _ := fun ty => Lib.run_append_grow_zeros (P := Tryz.prog) w 73 3 ty 130 i0 z0 .i64 .i64 Tryz.underlying73 Tryz.underlying3 hi hzv (some ⟨ab, ao, none⟩) k c _ hold (c + 1 - k) (by omega) (by omega) (by omega) (by omega)
      (Nat.le_trans (Nat.mul_le_mul_right _ (show c + 1 - k ≤ c + 1 by omega)) (by omega)) (by rw [hik]; exact growslice_fits hcn hb1)
    rw [hik] at hrz
    have hgc := hG _ rfl
    obtain ⟨gc, hgc'⟩ : ∃ gc, grownCap w (c + 1) c 130 = gc := ⟨_, rfl⟩
    rw [hgc'] at hrz hgc
    rw [Array.toArray_toList] at hrz
    obtain ⟨row, hrow⟩ : ∃ row, cur.extract ao (ao + k * 3) ++ Builtin.zeroCells z0.cells (c + 1 - k) ++ Builtin.zeroCells z0.cells (gc - (c + 1)) = row := ⟨_, rfl⟩
    rw [hrow] at hrz
    have hkI : ((c + 1 - k : Nat) : Int) = (c : Int) + 1 - (k : Int) := by omega
    rw [hkI] at hrz
    have hes : (cur.extract ao (ao + k * 3)).size = k * 3 := by simp; omega
    have hmc := Nat.mul_le_mul_right 3 hgc
    rw [Nat.add_mul] at hmc
    have hrs : row.size = gc * 3 := by
      rw [← hrow, Array.size_append, Array.size_append, size_zeroCells, size_zeroCells, hzs, hes, Nat.sub_mul, Nat.sub_mul, Nat.add_mul]
      omega
    have hrg : ∀ j, j < k * 3 → row.getD j undef = cur.getD (ao + j) undef := fun j hj => by
      rw [← hrow, getD_append_l _ _ _ (by rw [Array.size_append, hes]; omega), getD_append_l _ _ _ (by omega), getD_extract_l _ _ _ _ hj]
    clear hrow
    have hA : (w.drew.alloc (.cells row 130)).heap[w.heap.size]? = some (.cells row 130 (0, 0)) := heap_alloc_new w.drew _
    have hAv : (w.drew.alloc (.cells row 130)).heap[vb]? = some (.cells new ev fv) := by exact (Go.Fw.alloc_old w.drew _ vb hvw).trans hv
    have hAc : (w.drew.alloc (.cells row 130)).heap[ab]? = some (.cells cur ec fc) := by exact (Go.Fw.alloc_old w.drew _ ab hcw).trans hc
    obtain ⟨row2, hrow2⟩ : ∃ r, (lay row.toList (k * 3) (new.extract 0 (0 + 3)).toList).toArray = r := ⟨_, rfl⟩
    have hs2 : row2.size = row.size := by rw [← hrow2]; exact size_lay_in _ _ _ _ _ (by omega) (by omega)
    have hg2 : ∀ j, row2.getD j undef = if k * 3 ≤ j ∧ j < k * 3 + 3 then new.getD (0 + (j - k * 3)) undef else row.getD j undef := fun j => by rw [← hrow2]; exact getD_lay_in _ _ _ _ _ _ (by omega) (by omega)
    obtain ⟨row3, hrow3⟩ : ∃ r, (lay row2.toList (k * 3 + 3) (cur.extract (ao + k * 3) (ao + k * 3 + (c - k) * 3)).toList).toArray = r := ⟨_, rfl⟩
    have hs3 : row3.size = row.size := by rw [← hrow3, ← hs2]; exact size_lay_in _ _ _ _ _ (by omega) (by omega)
    have hg3 : ∀ j, row3.getD j undef = if k * 3 + 3 ≤ j ∧ j < k * 3 + 3 + (c - k) * 3 then cur.getD (ao + k * 3 + (j - (k * 3 + 3))) undef else row2.getD j undef := fun j => by rw [← hrow3]; exact getD_lay_in _ _ _ _ _ _ (by omega) (by omega)
    have hcpA : ∀ ty dc, (Builtin.copy_ #[73, 73] ty #[.slice (some ⟨w.heap.size, k * 3, none⟩) (c + 1 - k) dc, .slice (some ⟨vb, 0, none⟩) 1 vc]).run Tryz.prog (w.drew.alloc (.cells row 130)) = .ok (goInt ((1 : Nat) : Int)) ((w.drew.alloc (.cells row 130)).setRow w.heap.size row2) := fun ty dc => by
      have := run_copy_rows (P := Tryz.prog) (w.drew.alloc (.cells row 130)) 73 73 ty 130 i0 w.heap.size (k * 3) (c + 1 - k) dc ⟨vb, 0, none⟩ 1 vc 1 new row ev 130 fv (0, 0) Tryz.underlying73 hi (by simp only [Nat.min_def]; split <;> omega) rfl hAv (by rw [hisz]; show 0 + 1 * 3 ≤ _; omega) hA (fun o ho => by simp) (by rw [hisz]; omega) (fun j hj => by rw [hisz] at hj; show (new.getD (0 + j) undef).oneCell' = true; rw [Nat.zero_add]; exact h1n _ (by omega))
      rw [hisz, Nat.one_mul] at this
      rw [this]
      exact congrArg (fun r => Result.ok (goInt ((1 : Nat) : Int)) ((w.drew.alloc (.cells row 130)).setRow w.heap.size r)) hrow2
    obtain ⟨W2, hW2⟩ : ∃ W2, (w.drew.alloc (.cells row 130)).setRow w.heap.size row2 = W2 := ⟨_, rfl⟩
    rw [hW2] at hcpA
    have hcpA : ∀ ty dc, (Builtin.copy_ #[73, 73] ty #[.slice (some ⟨w.heap.size, k * 3, none⟩) (c + 1 - k) dc, .slice (some ⟨vb, 0, none⟩) 1 vc]).run Tryz.prog (w.alloc (.cells row 130)).drew = .ok (goInt ((1 : Nat) : Int)) W2 := hcpA
    have hB : W2.drew.heap[w.heap.size]? = some (.cells row2 130 (0, 0)) := by rw [← hW2]; exact setRow_heap _ _ _ _ _ _ hA
    have hBc : W2.drew.heap[ab]? = some (.cells cur ec fc) := by rw [← hW2]; exact (setRow_other _ _ _ _ (by omega)).trans hAc
    have hcpB : ∀ ty dc sc, (Builtin.copy_ #[73, 73] ty #[.slice (some ⟨w.heap.size, k * 3 + 3, none⟩) (c - k) dc, .slice (some ⟨ab, ao + k * 3, none⟩) (c - k) sc]).run Tryz.prog W2.drew = .ok (goInt ((c - k : Nat) : Int)) (W2.drew.setRow w.heap.size row3) := fun ty dc sc => by
      have := run_copy_rows (P := Tryz.prog) W2.drew 73 73 ty 130 i0 w.heap.size (k * 3 + 3) (c - k) dc ⟨ab, ao + k * 3, none⟩ (c - k) sc (c - k) cur row2 ec 130 fc (0, 0) Tryz.underlying73 hi (by simp only [Nat.min_def]; split <;> omega) rfl hBc (by rw [hisz]; show ao + k * 3 + _ ≤ _; omega) hB (fun o ho => by simp) (by rw [hisz]; omega) (fun j hj => by rw [hisz] at hj; show (cur.getD (ao + k * 3 + j) undef).oneCell' = true; rw [Nat.add_assoc]; exact h1c _ (by omega))
      rw [hisz] at this
      rw [this, ← hrow3]
    have hheap : (W2.drew.setRow w.heap.size row3).heap = w.heap.push (.cells row3 130 (0, 0)) := by
      have e1 : (W2.drew.setRow w.heap.size row3).heap = (((w.drew.alloc (.cells row 130)).setRow w.heap.size row2).setRow w.heap.size row3).heap := by rw [← hW2]; rfl
      rw [e1, setRow_setRow]
      exact alloc_setRow w.drew row row3 130
    have hres : GrowRes w 130 3 c (insAt cur ao new k 3) (.returned (.slice (some ⟨w.heap.size, 0, none⟩) (c + 1) gc)) (W2.drew.setRow w.heap.size row3) := by
      refine ⟨gc, row3, hgc, rfl, hheap, by rw [hs3, hrs], fun j hj => ?_, by rw [← hW2]; exact ⟨rfl, rfl, rfl⟩⟩
      rw [hg3, hg2]
      unfold insAt
      rw [Nat.add_mul] at hj
      by_cases hj1 : j < k * 3
      · rw [if_neg (by omega), if_neg (by omega), if_pos hj1, hrg j hj1]
      · by_cases hj2 : j < k * 3 + 3
        · rw [if_neg (by omega), if_pos (by omega), if_neg hj1, if_pos hj2, Nat.zero_add]
        · rw [if_pos (by omega), if_neg hj1, if_neg hj2]
          congr 1
          omega
    clear hrow2 hrow3 hg2 hg3 hrg hB hBc hA hAv hAc hheap hW2 hold hG
    have hz4 : ¬ ((k : Int) = (c : Int)) := by omega
    have hz5 : (c : Int) < (c : Int) + 1 := by omega
    have hw1' : IntKind.i64.wrap ((k : Int) + 1) = (k : Int) + 1 := by rw [IntKind.wrap_i64]; omega
    have hb1' : (0 : Int) ≤ (k : Int) + 1 := by omega
    have hin' : k ≤ c := by omega
    have htn' : ((k : Int) + 1).toNat = k + 1 := by omega
    have hG1 : ¬ (gc = k) := by omega
    have hG2 : ¬ (gc = k + 1) := by omega
    have hb2' : ¬ (c = k + 1) ∨ c = k + 1 := by omega
    have hb3' : (k : Int) ≤ (c : Int) := by omega
    have hb3'' : (k : Int) ≤ (c : Int) + 1 := by omega
    have hb4' : ¬ (c = k) := by omega
    have hck : c + 1 - (k + 1) = c - k := by omega
    have mixed : Tryz.prog.follows .mixedOrders = true := by kernel_rfl
    go_enter Tryz.func129, Tryz.ntmps129
    go_wp2_with (first
      | (at_builtin; refine Lib.wpList_append_run _ rfl _ _ 73 3 rfl _ _ rfl rfl _ _ (hrz _) ?_)
      | (at_builtin; refine wpList_copy_runQ _ rfl _ _ 73 73 rfl _ _ rfl rfl (hcpA _ _) ?_))
    go_region_law_o (refine step_copy_runQ rfl _ _ 73 73 rfl _ _ (by simp [Act.eval, Act.put]) (by simp [Act.eval, Act.put]) (hcpB _ _ _) ?_)
    go_wp2
    go_ret
    exact hres
theorem ins129 : InsC Tryz.prog 129 130 := ⟨⟨_, Tryz.func129, by kernel_rfl, by kernel_rfl⟩, ins129.grow, ins129.room⟩
end Go.Proofs.YtkgnhjmbnmaboaaGreatDoor
end
section
/- The program of this seat, the types of its data, and its functions without a body. By this session. -/
set_option linter.unusedVariables false
set_option linter.unusedSimpArgs false
namespace Go.Proofs.YtkgnhjmbnmaboaaGreatDoor
open Go Go.Fw
noncomputable abbrev P := Tryz.prog
theorem pick_le {n : Nat} {cs : List D} {A B : Nat → Option (List D)} (h : ∀ g c, A g = some c → B g = some c) : ∀ g c, (bif g == n then some cs else A g) = some c → (bif g == n then some cs else B g) = some c := by
  intro g c
  cases (g == n)
  · exact h g c
  · exact fun h => h
abbrev G0 : Nat → Option (List D) := fun g => bif g == 5 then some [.i .u64 1, .i .u64 10, .i .u64 100, .i .u64 1000, .i .u64 10000, .i .u64 100000, .i .u64 1000000, .i .u64 10000000, .i .u64 100000000, .i .u64 1000000000, .i .u64 10000000000, .i .u64 100000000000, .i .u64 1000000000000, .i .u64 10000000000000, .i .u64 100000000000000, .i .u64 1000000000000000, .i .u64 10000000000000000, .i .u64 100000000000000000, .i .u64 1000000000000000000, .i .u64 10000000000000000000] else bif g == 0 then some [.i .u8 0, .i .u8 0, .i .u8 0, .i .u8 0, .i .u8 0, .i .u8 0, .i .u8 0, .i .u8 0, .i .u8 0, .i .u8 1, .i .u8 1, .i .u8 1, .i .u8 1, .i .u8 1, .i .u8 0, .i .u8 0, .i .u8 0, .i .u8 0, .i .u8 0, .i .u8 0, .i .u8 0, .i .u8 0, .i .u8 0, .i .u8 0, .i .u8 0, .i .u8 0, .i .u8 0, .i .u8 0, .i .u8 0, .i .u8 0, .i .u8 0, .i .u8 0, .i .u8 1, .i .u8 0, .i .u8 0, .i .u8 0, .i .u8 0, .i .u8 0, .i .u8 0, .i .u8 0, .i .u8 0, .i .u8 0, .i .u8 0, .i .u8 0, .i .u8 0, .i .u8 0, .i .u8 0, .i .u8 0, .i .u8 0, .i .u8 0, .i .u8 0, .i .u8 0, .i .u8 0, .i .u8 0, .i .u8 0, .i .u8 0, .i .u8 0, .i .u8 0, .i .u8 0, .i .u8 0, .i .u8 0, .i .u8 0, .i .u8 0, .i .u8 0, .i .u8 0, .i .u8 0, .i .u8 0, .i .u8 0, .i .u8 0, .i .u8 0, .i .u8 0, .i .u8 0, .i .u8 0, .i .u8 0, .i .u8 0, .i .u8 0, .i .u8 0, .i .u8 0, .i .u8 0, .i .u8 0, .i .u8 0, .i .u8 0, .i .u8 0, .i .u8 0, .i .u8 0, .i .u8 0, .i .u8 0, .i .u8 0, .i .u8 0, .i .u8 0, .i .u8 0, .i .u8 0, .i .u8 0, .i .u8 0, .i .u8 0, .i .u8 0, .i .u8 0, .i .u8 0, .i .u8 0, .i .u8 0, .i .u8 0, .i .u8 0, .i .u8 0, .i .u8 0, .i .u8 0, .i .u8 0, .i .u8 0, .i .u8 0, .i .u8 0, .i .u8 0, .i .u8 0, .i .u8 0, .i .u8 0, .i .u8 0, .i .u8 0, .i .u8 0, .i .u8 0, .i .u8 0, .i .u8 0, .i .u8 0, .i .u8 0, .i .u8 0, .i .u8 0, .i .u8 0, .i .u8 0, .i .u8 0, .i .u8 0, .i .u8 0, .i .u8 0, .i .u8 0, .i .u8 0, .i .u8 0, .i .u8 0, .i .u8 0, .i .u8 0, .i .u8 0, .i .u8 0, .i .u8 0, .i .u8 0, .i .u8 0, .i .u8 0, .i .u8 0, .i .u8 0, .i .u8 0, .i .u8 0, .i .u8 0, .i .u8 0, .i .u8 0, .i .u8 0, .i .u8 0, .i .u8 0, .i .u8 0, .i .u8 0, .i .u8 0, .i .u8 0, .i .u8 0, .i .u8 0, .i .u8 0, .i .u8 0, .i .u8 0, .i .u8 0, .i .u8 0, .i .u8 0, .i .u8 0, .i .u8 0, .i .u8 0, .i .u8 0, .i .u8 0, .i .u8 0, .i .u8 0, .i .u8 0, .i .u8 0, .i .u8 0, .i .u8 0, .i .u8 0, .i .u8 0, .i .u8 0, .i .u8 0, .i .u8 0, .i .u8 0, .i .u8 0, .i .u8 0, .i .u8 0, .i .u8 0, .i .u8 0, .i .u8 0, .i .u8 0, .i .u8 0, .i .u8 0, .i .u8 0, .i .u8 0, .i .u8 0, .i .u8 0, .i .u8 0, .i .u8 0, .i .u8 0, .i .u8 0, .i .u8 0, .i .u8 0, .i .u8 0, .i .u8 0, .i .u8 0, .i .u8 0, .i .u8 0, .i .u8 0, .i .u8 0, .i .u8 0, .i .u8 0, .i .u8 0, .i .u8 0, .i .u8 0, .i .u8 0, .i .u8 0, .i .u8 0, .i .u8 0, .i .u8 0, .i .u8 0, .i .u8 0, .i .u8 0, .i .u8 0, .i .u8 0, .i .u8 0, .i .u8 0, .i .u8 0, .i .u8 0, .i .u8 0, .i .u8 0, .i .u8 0, .i .u8 0, .i .u8 0, .i .u8 0, .i .u8 0, .i .u8 0, .i .u8 0, .i .u8 0, .i .u8 0, .i .u8 0, .i .u8 0, .i .u8 0, .i .u8 0, .i .u8 0, .i .u8 0, .i .u8 0, .i .u8 0, .i .u8 0, .i .u8 0, .i .u8 0, .i .u8 0, .i .u8 0, .i .u8 0, .i .u8 0, .i .u8 0, .i .u8 0, .i .u8 0, .i .u8 0, .i .u8 0] else none
abbrev G1 : Nat → Option (List D) := fun g => bif g == 5 then some [.i .u64 1, .i .u64 10, .i .u64 100, .i .u64 1000, .i .u64 10000, .i .u64 100000, .i .u64 1000000, .i .u64 10000000, .i .u64 100000000, .i .u64 1000000000, .i .u64 10000000000, .i .u64 100000000000, .i .u64 1000000000000, .i .u64 10000000000000, .i .u64 100000000000000, .i .u64 1000000000000000, .i .u64 10000000000000000, .i .u64 100000000000000000, .i .u64 1000000000000000000, .i .u64 10000000000000000000] else bif g == 0 then some [.i .u8 0, .i .u8 0, .i .u8 0, .i .u8 0, .i .u8 0, .i .u8 0, .i .u8 0, .i .u8 0, .i .u8 0, .i .u8 1, .i .u8 1, .i .u8 1, .i .u8 1, .i .u8 1, .i .u8 0, .i .u8 0, .i .u8 0, .i .u8 0, .i .u8 0, .i .u8 0, .i .u8 0, .i .u8 0, .i .u8 0, .i .u8 0, .i .u8 0, .i .u8 0, .i .u8 0, .i .u8 0, .i .u8 0, .i .u8 0, .i .u8 0, .i .u8 0, .i .u8 1, .i .u8 0, .i .u8 0, .i .u8 0, .i .u8 0, .i .u8 0, .i .u8 0, .i .u8 0, .i .u8 0, .i .u8 0, .i .u8 0, .i .u8 0, .i .u8 0, .i .u8 0, .i .u8 0, .i .u8 0, .i .u8 0, .i .u8 0, .i .u8 0, .i .u8 0, .i .u8 0, .i .u8 0, .i .u8 0, .i .u8 0, .i .u8 0, .i .u8 0, .i .u8 0, .i .u8 0, .i .u8 0, .i .u8 0, .i .u8 0, .i .u8 0, .i .u8 0, .i .u8 0, .i .u8 0, .i .u8 0, .i .u8 0, .i .u8 0, .i .u8 0, .i .u8 0, .i .u8 0, .i .u8 0, .i .u8 0, .i .u8 0, .i .u8 0, .i .u8 0, .i .u8 0, .i .u8 0, .i .u8 0, .i .u8 0, .i .u8 0, .i .u8 0, .i .u8 0, .i .u8 0, .i .u8 0, .i .u8 0, .i .u8 0, .i .u8 0, .i .u8 0, .i .u8 0, .i .u8 0, .i .u8 0, .i .u8 0, .i .u8 0, .i .u8 0, .i .u8 0, .i .u8 0, .i .u8 0, .i .u8 0, .i .u8 0, .i .u8 0, .i .u8 0, .i .u8 0, .i .u8 0, .i .u8 0, .i .u8 0, .i .u8 0, .i .u8 0, .i .u8 0, .i .u8 0, .i .u8 0, .i .u8 0, .i .u8 0, .i .u8 0, .i .u8 0, .i .u8 0, .i .u8 0, .i .u8 0, .i .u8 0, .i .u8 0, .i .u8 0, .i .u8 0, .i .u8 0, .i .u8 0, .i .u8 0, .i .u8 0, .i .u8 0, .i .u8 0, .i .u8 0, .i .u8 0, .i .u8 0, .i .u8 0, .i .u8 0, .i .u8 0, .i .u8 0, .i .u8 0, .i .u8 0, .i .u8 0, .i .u8 0, .i .u8 0, .i .u8 0, .i .u8 0, .i .u8 0, .i .u8 0, .i .u8 0, .i .u8 0, .i .u8 0, .i .u8 0, .i .u8 0, .i .u8 0, .i .u8 0, .i .u8 0, .i .u8 0, .i .u8 0, .i .u8 0, .i .u8 0, .i .u8 0, .i .u8 0, .i .u8 0, .i .u8 0, .i .u8 0, .i .u8 0, .i .u8 0, .i .u8 0, .i .u8 0, .i .u8 0, .i .u8 0, .i .u8 0, .i .u8 0, .i .u8 0, .i .u8 0, .i .u8 0, .i .u8 0, .i .u8 0, .i .u8 0, .i .u8 0, .i .u8 0, .i .u8 0, .i .u8 0, .i .u8 0, .i .u8 0, .i .u8 0, .i .u8 0, .i .u8 0, .i .u8 0, .i .u8 0, .i .u8 0, .i .u8 0, .i .u8 0, .i .u8 0, .i .u8 0, .i .u8 0, .i .u8 0, .i .u8 0, .i .u8 0, .i .u8 0, .i .u8 0, .i .u8 0, .i .u8 0, .i .u8 0, .i .u8 0, .i .u8 0, .i .u8 0, .i .u8 0, .i .u8 0, .i .u8 0, .i .u8 0, .i .u8 0, .i .u8 0, .i .u8 0, .i .u8 0, .i .u8 0, .i .u8 0, .i .u8 0, .i .u8 0, .i .u8 0, .i .u8 0, .i .u8 0, .i .u8 0, .i .u8 0, .i .u8 0, .i .u8 0, .i .u8 0, .i .u8 0, .i .u8 0, .i .u8 0, .i .u8 0, .i .u8 0, .i .u8 0, .i .u8 0, .i .u8 0, .i .u8 0, .i .u8 0, .i .u8 0, .i .u8 0, .i .u8 0, .i .u8 0, .i .u8 0, .i .u8 0, .i .u8 0, .i .u8 0, .i .u8 0, .i .u8 0, .i .u8 0, .i .u8 0, .i .u8 0, .i .u8 0, .i .u8 0, .i .u8 0, .i .u8 0, .i .u8 0, .i .u8 0, .i .u8 0, .i .u8 0] else bif g == 1 then some [.er true] else bif g == 2 then some [.er true] else none
abbrev G2 : Nat → Option (List D) := fun g => bif g == 5 then some [.i .u64 1, .i .u64 10, .i .u64 100, .i .u64 1000, .i .u64 10000, .i .u64 100000, .i .u64 1000000, .i .u64 10000000, .i .u64 100000000, .i .u64 1000000000, .i .u64 10000000000, .i .u64 100000000000, .i .u64 1000000000000, .i .u64 10000000000000, .i .u64 100000000000000, .i .u64 1000000000000000, .i .u64 10000000000000000, .i .u64 100000000000000000, .i .u64 1000000000000000000, .i .u64 10000000000000000000] else bif g == 0 then some [.i .u8 0, .i .u8 0, .i .u8 0, .i .u8 0, .i .u8 0, .i .u8 0, .i .u8 0, .i .u8 0, .i .u8 0, .i .u8 1, .i .u8 1, .i .u8 1, .i .u8 1, .i .u8 1, .i .u8 0, .i .u8 0, .i .u8 0, .i .u8 0, .i .u8 0, .i .u8 0, .i .u8 0, .i .u8 0, .i .u8 0, .i .u8 0, .i .u8 0, .i .u8 0, .i .u8 0, .i .u8 0, .i .u8 0, .i .u8 0, .i .u8 0, .i .u8 0, .i .u8 1, .i .u8 0, .i .u8 0, .i .u8 0, .i .u8 0, .i .u8 0, .i .u8 0, .i .u8 0, .i .u8 0, .i .u8 0, .i .u8 0, .i .u8 0, .i .u8 0, .i .u8 0, .i .u8 0, .i .u8 0, .i .u8 0, .i .u8 0, .i .u8 0, .i .u8 0, .i .u8 0, .i .u8 0, .i .u8 0, .i .u8 0, .i .u8 0, .i .u8 0, .i .u8 0, .i .u8 0, .i .u8 0, .i .u8 0, .i .u8 0, .i .u8 0, .i .u8 0, .i .u8 0, .i .u8 0, .i .u8 0, .i .u8 0, .i .u8 0, .i .u8 0, .i .u8 0, .i .u8 0, .i .u8 0, .i .u8 0, .i .u8 0, .i .u8 0, .i .u8 0, .i .u8 0, .i .u8 0, .i .u8 0, .i .u8 0, .i .u8 0, .i .u8 0, .i .u8 0, .i .u8 0, .i .u8 0, .i .u8 0, .i .u8 0, .i .u8 0, .i .u8 0, .i .u8 0, .i .u8 0, .i .u8 0, .i .u8 0, .i .u8 0, .i .u8 0, .i .u8 0, .i .u8 0, .i .u8 0, .i .u8 0, .i .u8 0, .i .u8 0, .i .u8 0, .i .u8 0, .i .u8 0, .i .u8 0, .i .u8 0, .i .u8 0, .i .u8 0, .i .u8 0, .i .u8 0, .i .u8 0, .i .u8 0, .i .u8 0, .i .u8 0, .i .u8 0, .i .u8 0, .i .u8 0, .i .u8 0, .i .u8 0, .i .u8 0, .i .u8 0, .i .u8 0, .i .u8 0, .i .u8 0, .i .u8 0, .i .u8 0, .i .u8 0, .i .u8 0, .i .u8 0, .i .u8 0, .i .u8 0, .i .u8 0, .i .u8 0, .i .u8 0, .i .u8 0, .i .u8 0, .i .u8 0, .i .u8 0, .i .u8 0, .i .u8 0, .i .u8 0, .i .u8 0, .i .u8 0, .i .u8 0, .i .u8 0, .i .u8 0, .i .u8 0, .i .u8 0, .i .u8 0, .i .u8 0, .i .u8 0, .i .u8 0, .i .u8 0, .i .u8 0, .i .u8 0, .i .u8 0, .i .u8 0, .i .u8 0, .i .u8 0, .i .u8 0, .i .u8 0, .i .u8 0, .i .u8 0, .i .u8 0, .i .u8 0, .i .u8 0, .i .u8 0, .i .u8 0, .i .u8 0, .i .u8 0, .i .u8 0, .i .u8 0, .i .u8 0, .i .u8 0, .i .u8 0, .i .u8 0, .i .u8 0, .i .u8 0, .i .u8 0, .i .u8 0, .i .u8 0, .i .u8 0, .i .u8 0, .i .u8 0, .i .u8 0, .i .u8 0, .i .u8 0, .i .u8 0, .i .u8 0, .i .u8 0, .i .u8 0, .i .u8 0, .i .u8 0, .i .u8 0, .i .u8 0, .i .u8 0, .i .u8 0, .i .u8 0, .i .u8 0, .i .u8 0, .i .u8 0, .i .u8 0, .i .u8 0, .i .u8 0, .i .u8 0, .i .u8 0, .i .u8 0, .i .u8 0, .i .u8 0, .i .u8 0, .i .u8 0, .i .u8 0, .i .u8 0, .i .u8 0, .i .u8 0, .i .u8 0, .i .u8 0, .i .u8 0, .i .u8 0, .i .u8 0, .i .u8 0, .i .u8 0, .i .u8 0, .i .u8 0, .i .u8 0, .i .u8 0, .i .u8 0, .i .u8 0, .i .u8 0, .i .u8 0, .i .u8 0, .i .u8 0, .i .u8 0, .i .u8 0, .i .u8 0, .i .u8 0, .i .u8 0, .i .u8 0, .i .u8 0, .i .u8 0, .i .u8 0, .i .u8 0, .i .u8 0, .i .u8 0, .i .u8 0, .i .u8 0, .i .u8 0, .i .u8 0, .i .u8 0, .i .u8 0, .i .u8 0, .i .u8 0, .i .u8 0, .i .u8 0] else bif g == 1 then some [.er true] else bif g == 2 then some [.er true] else bif g == 4 then some [.i .u8 128, .i .u8 191, .i .u8 160, .i .u8 191, .i .u8 128, .i .u8 159, .i .u8 144, .i .u8 191, .i .u8 128, .i .u8 143, .i .u8 0, .i .u8 0, .i .u8 0, .i .u8 0, .i .u8 0, .i .u8 0, .i .u8 0, .i .u8 0, .i .u8 0, .i .u8 0, .i .u8 0, .i .u8 0, .i .u8 0, .i .u8 0, .i .u8 0, .i .u8 0, .i .u8 0, .i .u8 0, .i .u8 0, .i .u8 0, .i .u8 0, .i .u8 0] else none
theorem g01 : ∀ g cs, G0 g = some cs → G1 g = some cs := pick_le (pick_le (fun _ _ h => by cases h))
theorem g02 : ∀ g cs, G0 g = some cs → G2 g = some cs := pick_le (pick_le (fun _ _ h => by cases h))
theorem g12 : ∀ g cs, G1 g = some cs → G2 g = some cs := pick_le (pick_le (pick_le (pick_le (fun _ _ h => by cases h))))
abbrev T_api_Field : Ty := (.g (.p (.i .i64) .s))
abbrev T_utf8_acceptRange : Ty := (.g (.p (.i .u8) (.i .u8)))
abbrev T_api_Mti : Ty := (.g (.p (.i .i64) (.p .b (.p .b .b))))
abbrev T_api_Message : Ty := (.g (.p .s (.l T_api_Field)))
abbrev T_api_Line : Ty := (.g (.p T_api_Field (.i .i64)))
abbrev T_api_Spec : Ty := (.g (.p (.i .i64) (.p (.i .i64) (.i .i64))))
abbrev T_api_Post : Ty := (.g (.p (.i .i64) (.p (.i .i64) (.p .s (.p .s (.p .s (.i .i64)))))))
abbrev T_api_Entry : Ty := (.g (.p (.i .i64) (.p .s (.l T_api_Line))))
abbrev T_api_Trade : Ty := (.g (.p .s (.p .s (.p .s (.p (.i .i64) (.p .s (.p .s (.p .s (.p .s (.p .s (.p (.i .i64) (.p (.i .i64) .s))))))))))))
abbrev T_trade_reader : Ty := (.g (.p T_api_Trade (.p T_api_Message .b)))
def add64 : List D → Option (Bool × D) := fun ds => match ds with
  | [.i .u64 x, .i .u64 y, .i .u64 c] => some (decide (0 ≤ x) && decide (0 ≤ y) && decide (0 ≤ c) && decide (c ≤ 1), .tp [.i .u64 ((x + y + c) % 18446744073709551616), .i .u64 ((x + y + c) / 18446744073709551616)])
  | _ => none
theorem add64_ok : ExtOK P 165 (bare add64) := by
  intro ds r h w I vs hsz hv
  unfold bare add64 at h
  split at h
  · rename_i b q hq
    obtain ⟨hb, h⟩ := cond_some h
    injection h with h
    subst h
    split at hq
    · rename_i x y c
      injection hq with hq
      injection hq with hq1 hq2
      subst hq2
      rw [hb] at hq1
      simp only [Bool.and_eq_true, decide_eq_true_eq] at hq1
      have e0 := hv 0 _ rfl
      have e1 := hv 1 _ rfl
      have e2 := hv 2 _ rfl
      have hvs : vs = #[.int .u64 x, .int .u64 y, .int .u64 c] := by
        have : vs = #[vs.getD 0 undef, vs.getD 1 undef, vs.getD 2 undef] := by
          apply Array.ext
          · simpa using hsz
          · intro i hi hi'
            simp at hi'
            have : i = 0 ∨ i = 1 ∨ i = 2 := by omega
            rcases this with rfl | rfl | rfl <;> simp [Array.getD_eq_getD_getElem?, Array.getElem?_eq_getElem hi]
        rw [this]
        generalize vs.getD 0 undef = a0 at e0
        generalize vs.getD 1 undef = a1 at e1
        generalize vs.getD 2 undef = a2 at e2
        cases e0; cases e1; cases e2
        rfl
      refine ⟨_, by rw [hvs, run_callFunc_extern Tryz.func165 (by kernel_rfl) (by kernel_rfl) (by kernel_rfl) (e := add64Entry) (by kernel_rfl), run_add64 x y c (by omega) (by omega) (by omega) (by omega)]; rfl, ?_⟩
      refine .tp _ _ rfl fun j d hj => ?_
      match j, hj with
      | 0, hj => simp at hj; subst hj; exact .i _ _
      | 1, hj => simp at hj; subst hj; exact .i _ _
      | j + 2, hj => simp at hj
    · cases hq
  · cases h
def cntB : List D → Option (Bool × D) := fun ds => match ds with
  | [.s x, .i .u8 y] => some (true, .i .i64 (((Lib.countByte x.data.toList y.toNat.toUInt8 : Nat) : Int)))
  | _ => none
theorem cntB_ok : ExtOK P 230 (bare cntB) := by
  intro ds r h w I vs hsz hv
  unfold bare cntB at h
  split at h
  · rename_i b q hq
    obtain ⟨hb, h⟩ := cond_some h
    injection h with h
    subst h
    split at hq
    · rename_i x y
      injection hq with hq
      injection hq with hq1 hq2
      subst hq2
      have e0 := hv 0 _ rfl
      have e1 := hv 1 _ rfl
      have hvs : vs = #[vs.getD 0 undef, vs.getD 1 undef] := by
        apply Array.ext
        · simpa using hsz
        · intro i hi hi'
          simp at hi'
          have : i = 0 ∨ i = 1 := by omega
          rcases this with rfl | rfl <;> simp [Array.getD_eq_getD_getElem?, Array.getElem?_eq_getElem hi]
      generalize vs.getD 0 undef = a0 at e0 hvs
      generalize vs.getD 1 undef = a1 at e1 hvs
      cases e0; cases e1
      refine ⟨_, by rw [hvs, run_callFunc_extern Tryz.func230 (by kernel_rfl) (by kernel_rfl) (by kernel_rfl) (e := Extern.BytealgCount.count) (by kernel_rfl), Lib.run_countString]; rfl, ?_⟩
      exact .i _ _
    · cases hq
  · cases h
def idxB : List D → Option (Bool × D) := fun ds => match ds with
  | [.s x, .i .u8 y] => some (true, .i .i64 (Lib.indexByte x.data.toList y.toNat.toUInt8))
  | _ => none
theorem idxB_ok : ExtOK P 238 (bare idxB) := by
  intro ds r h w I vs hsz hv
  unfold bare idxB at h
  split at h
  · rename_i b q hq
    obtain ⟨hb, h⟩ := cond_some h
    injection h with h
    subst h
    split at hq
    · rename_i x y
      injection hq with hq
      injection hq with hq1 hq2
      subst hq2
      have e0 := hv 0 _ rfl
      have e1 := hv 1 _ rfl
      have hvs : vs = #[vs.getD 0 undef, vs.getD 1 undef] := by
        apply Array.ext
        · simpa using hsz
        · intro i hi hi'
          simp at hi'
          have : i = 0 ∨ i = 1 := by omega
          rcases this with rfl | rfl <;> simp [Array.getD_eq_getD_getElem?, Array.getElem?_eq_getElem hi]
      generalize vs.getD 0 undef = a0 at e0 hvs
      generalize vs.getD 1 undef = a1 at e1 hvs
      cases e0; cases e1
      refine ⟨_, by rw [hvs, run_callFunc_extern Tryz.func238 (by kernel_rfl) (by kernel_rfl) (by kernel_rfl) (e := Extern.BytealgIndexByte.indexByte) (by kernel_rfl), Lib.run_indexByteString]; rfl, ?_⟩
      exact .i _ _
    · cases hq
  · cases h
abbrev E0 : FuncId → Option (List D → Option (Bool × D)) := fun g => bif g == 165 then some add64 else bif g == 230 then some cntB else bif g == 238 then some idxB else none
theorem e0_ok : ∀ g f, E0 g = some f → ExtOK P g (bare f) := by
  intro g f h
  unfold E0 at h
  cases hg165 : (g == 165) with
  | true =>
    rw [hg165] at h
    injection h with h
    subst h
    have : g = 165 := by simpa using hg165
    subst this
    exact add64_ok
  | false =>
  rw [hg165] at h
  simp only [cond_false] at h
  cases hg230 : (g == 230) with
  | true =>
    rw [hg230] at h
    injection h with h
    subst h
    have : g = 230 := by simpa using hg230
    subst this
    exact cntB_ok
  | false =>
  rw [hg230] at h
  simp only [cond_false] at h
  cases hg238 : (g == 238) with
  | true =>
    rw [hg238] at h
    injection h with h
    subst h
    have : g = 238 := by simpa using hg238
    subst this
    exact idxB_ok
  | false =>
  rw [hg238] at h
  simp only [cond_false] at h
  cases h
abbrev J0 : FuncId → Option TypeId := fun g => bif g == 54 then some 43 else bif g == 129 then some 130 else none
theorem j0_ok : InsAll P J0 := by
  intro g e h
  unfold J0 at h
  cases hg54 : (g == 54) with
  | true =>
    rw [hg54] at h
    injection h with h
    subst h
    have : g = 54 := by simpa using hg54
    subst this
    exact ⟨ins54, by decide +kernel⟩
  | false =>
  rw [hg54] at h
  simp only [cond_false] at h
  cases hg129 : (g == 129) with
  | true =>
    rw [hg129] at h
    injection h with h
    subst h
    have : g = 129 := by simpa using hg129
    subst this
    exact ⟨ins129, by decide +kernel⟩
  | false =>
  rw [hg129] at h
  simp only [cond_false] at h
  cases h
end Go.Proofs.YtkgnhjmbnmaboaaGreatDoor
end
section
/- Small things about the library's contracts. By this session. -/
set_option linter.unusedVariables false
namespace Go.Proofs.YtkgnhjmbnmaboaaGreatDoor
open Go Go.Fw Go.RowKit
theorem grow_below (w : World) (k : Nat) (os : Array Obj) : Below w.heap.size w (Sort.grow (w.drewN k) os) := by
  have h : Below w.heap.size w (w.drewN k) := by
    induction k with
    | zero => rw [World.drewN_zero]; exact .refl _ _
    | succ k ih => exact ⟨rfl, rfl, rfl, Nat.le_refl _, fun _ _ => rfl⟩
  exact h.trans ⟨rfl, rfl, rfl, by simp [Sort.grow], fun i hi => by
    show ((w.drewN k).heap ++ os)[i]? = _
    rw [Array.getElem?_append, if_pos (Nat.lt_of_lt_of_le hi h.size)]⟩
theorem ent_of {g : FuncId} {fn : Func} (h : P.funcs[g]? = some fn) (hn : (fn.name == "runtime.NumGoroutine") = false) (hb : fn.body.isNone = false) : Fw.Enters P g := ⟨fn, h, hn, hb⟩
/-- a call that leaves what was there as it was, and what is known of the memory -/
theorem pcall_belowI {G : Nat → Option (List D)} {g : FuncId} {ds : List D} {r : D}
    (h : ∀ (w : World) (I K : Mem) (vs : Array Value), Glob ⟨w, I, K, fun _ => 0, fun _ => 0, G⟩ → (∀ b, I b → b < w.heap.size) → (∀ b, K b → b < w.heap.size) → vs.size = ds.length → (∀ (j : Nat) (d : D), ds[j]? = some d → RelD w I d (vs.getD j undef)) →
      Calls P g vs w fun e w' => ∃ v, e = .returned v ∧ Below w.heap.size w w' ∧ RelX w' I K r v) : PCall P G g ds r := by
  intro w I K vs hg hI hK hd hsz hargs
  refine (h w I K vs hg hI hK hsz hargs).mono ?_
  rintro e w' ⟨v, rfl, hb, hx⟩
  refine ⟨v, I, rfl, hb.size, fun b hb' => ⟨hb', hb.block b (hI b hb')⟩, fun b hb' => hb.block b (hK b hb'), fun b hb' => ⟨Nat.lt_of_lt_of_le (hI b hb') hb.size, hd b hb'⟩, fun b cs e fz hc => ⟨cs, ?_, rfl⟩, hb.os, hb.tape, hb.output, hx⟩
  rw [hb.block b (Array.getElem?_eq_some_iff.1 hc).1]
  exact hc
theorem alloc_below (w : World) (o : Obj) : Below w.heap.size w (w.alloc o) := ⟨rfl, rfl, rfl, by show w.heap.size ≤ (w.heap.push _).size; simp, fun i hi => by
  show (w.heap.push o)[i]? = _
  rw [Array.getElem?_push, if_neg (by omega)]⟩
/-- a row of one-cell data in a new block -/
theorem frOK_alloc {w : World} {I K : Mem} {xs : List D} {vs : List Value} {t : TypeId} (hI : ∀ b, I b → b < w.heap.size) (hK : ∀ b, K b → b < w.heap.size) (hl : xs.length = vs.length) (hw : ∀ x ∈ xs, x.cells = [x]) (h1 : ∀ v ∈ vs, v.oneCell' = true)
    (h : ∀ (j : Nat) (d : D), xs[j]? = some d → RelD (w.alloc (.cells vs.toArray t)) I d (vs.toArray.getD j undef)) : FrOK (w.alloc (.cells vs.toArray t)) I K 1 xs (.slice (some ⟨w.heap.size, 0, none⟩) xs.length xs.length) := by
  have hh : (w.alloc (.cells vs.toArray t)).heap[w.heap.size]? = some (.cells vs.toArray t) := by
    show (w.heap.push _)[w.heap.size]? = _
    rw [Array.getElem?_push, if_pos rfl]
  refine ⟨_, _, rfl, Nat.le_refl _, rfl, .inl rfl, fun hb => Nat.lt_irrefl _ (hI _ hb), fun hb => Nat.lt_irrefl _ (hK _ hb), ⟨rfl, vs.toArray, t, _, hh, fun o _ ho => by omega, fun x hx => by simp [D.width, hw x hx], by omega, by simp [hl], fun j hj => ?_, fun j k x d hx hd => ?_⟩, _, _, _, hh, by simp [hl], by simp⟩
  · have hj' : j < vs.length := by omega
    rw [Array.getD_eq_getD_getElem?]
    simp only [List.getElem?_toArray, List.getElem?_eq_getElem hj', Option.getD_some]
    exact h1 _ (List.getElem_mem hj')
  · have hm : x ∈ xs := List.mem_of_getElem? hx
    rw [hw x hm] at hd
    cases k with
    | zero =>
      simp only [List.getElem?_cons_zero, Option.some.injEq] at hd
      subst hd
      have := h j x hx
      rw [show j * 1 + 0 = j by omega]
      exact this
    | succ k => simp at hd
end Go.Proofs.YtkgnhjmbnmaboaaGreatDoor
end
section
/- Contracts of the library at this program, in plain words. Written by a tool of the kit.
-/
namespace Go.Proofs
open Go.Shelf
def Tryz.laysC172_ren : Go.Shelf.Ren := ⟨fun | 172 => 97 | 244 => 144 | 245 => 145 | 247 => 181 | 279 => 182 | 280 => 183 | 281 => 184 | 282 => 185 | 287 => 158 | 316 => 212 | 171 => 75 | 205 => 213 | 321 => 195 | 322 => 196 | 243 => 120 | 246 => 160 | 283 => 197 | 284 => 198 | 285 => 199 | 286 => 200 | 129 => 221 | 317 => 220 | 318 => 222 | 319 => 223 | 320 => 224 | 337 => 233 | 338 => 234 | n => n, fun | 9 => 9 | 3 => 3 | 75 => 156 | 76 => 157 | 4 => 4 | 5 => 5 | 167 => 234 | 37 => 146 | 0 => 0 | 85 => 201 | 2 => 2 | 168 => 235 | 53 => 114 | 175 => 170 | 46 => 203 | 210 => 258 | 127 => 243 | 145 => 280 | 143 => 278 | 21 => 21 | 171 => 246 | 173 => 249 | 212 => 268 | 51 => 239 | 20 => 20 | 213 => 269 | 232 => 293 | 233 => 294 | 80 => 211 | n => n, fun | 15 => 1 | 16 => 2 | 17 => 5 | 18 => 8 | 19 => 9 | n => n⟩
theorem Tryz.laysC172 : Go.Proofs.LaysC.n172 Tryz.prog Tryz.laysC172_ren := {
  mixed := by kernel_rfl
  f129 := Tryz.func221.trans (congrArg some (by kernel_rfl))
  f171 := Tryz.func75.trans (congrArg some (by kernel_rfl))
  f172 := Tryz.func97.trans (congrArg some (by kernel_rfl))
  f205 := Tryz.func213.trans (congrArg some (by kernel_rfl))
  f243 := Tryz.func120.trans (congrArg some (by kernel_rfl))
  f244 := Tryz.func144.trans (congrArg some (by kernel_rfl))
  f245 := Tryz.func145.trans (congrArg some (by kernel_rfl))
  f246 := Tryz.func160.trans (congrArg some (by kernel_rfl))
  f247 := Tryz.func181.trans (congrArg some (by kernel_rfl))
  f279 := Tryz.func182.trans (congrArg some (by kernel_rfl))
  f280 := Tryz.func183.trans (congrArg some (by kernel_rfl))
  f281 := Tryz.func184.trans (congrArg some (by kernel_rfl))
  f282 := Tryz.func185.trans (congrArg some (by kernel_rfl))
  f283 := Tryz.func197.trans (congrArg some (by kernel_rfl))
  f284 := Tryz.func198.trans (congrArg some (by kernel_rfl))
  f285 := Tryz.func199.trans (congrArg some (by kernel_rfl))
  f286 := Tryz.func200.trans (congrArg some (by kernel_rfl))
  f287 := Tryz.func158.trans (congrArg some (by kernel_rfl))
  f316 := Tryz.func212.trans (congrArg some (by kernel_rfl))
  f317 := Tryz.func220.trans (congrArg some (by kernel_rfl))
  f318 := Tryz.func222.trans (congrArg some (by kernel_rfl))
  f319 := Tryz.func223.trans (congrArg some (by kernel_rfl))
  f320 := Tryz.func224.trans (congrArg some (by kernel_rfl))
  f321 := Tryz.func195.trans (congrArg some (by kernel_rfl))
  f322 := Tryz.func196.trans (congrArg some (by kernel_rfl))
  f337 := Tryz.func233.trans (congrArg some (by kernel_rfl))
  f338 := Tryz.func234.trans (congrArg some (by kernel_rfl))
  t0 := Tryz.underlying0
  a0 := Tryz.isAgg0
  z0 := Tryz.sizeOf0
  v0 := Tryz.zeroValue0
  t2 := Tryz.underlying2
  a2 := Tryz.isAgg2
  z2 := Tryz.sizeOf2
  v2 := Tryz.zeroValue2
  t3 := Tryz.underlying3
  a3 := Tryz.isAgg3
  z3 := Tryz.sizeOf3
  v3 := Tryz.zeroValue3
  t4 := Tryz.underlying4
  a4 := Tryz.isAgg4
  z4 := Tryz.sizeOf4
  v4 := Tryz.zeroValue4
  t5 := Tryz.underlying5
  a5 := Tryz.isAgg5
  z5 := Tryz.sizeOf5
  v5 := Tryz.zeroValue5
  t9 := Tryz.underlying9
  a9 := Tryz.isAgg9
  z9 := Tryz.sizeOf9
  v9 := Tryz.zeroValue9
  t20 := Tryz.underlying20
  a20 := Tryz.isAgg20
  z20 := Tryz.sizeOf20
  v20 := Tryz.zeroValue20
  t21 := Tryz.underlying21
  a21 := Tryz.isAgg21
  z21 := Tryz.sizeOf21
  v21 := Tryz.zeroValue21
  t37 := Tryz.underlying146
  a37 := Tryz.isAgg146
  z37 := Tryz.sizeOf146
  v37 := Tryz.zeroValue146
  t46 := Tryz.underlying203
  a46 := Tryz.isAgg203
  z46 := Tryz.sizeOf203
  v46 := Tryz.zeroValue203
  t51 := Tryz.underlying239
  a51 := Tryz.isAgg239
  z51 := Tryz.sizeOf239
  v51 := Tryz.zeroValue239
  t53 := Tryz.underlying114
  a53 := Tryz.isAgg114
  z53 := Tryz.sizeOf114
  v53 := Tryz.zeroValue114
  t75 := Tryz.underlying156
  a75 := Tryz.isAgg156
  z75 := Tryz.sizeOf156
  v75 := Tryz.zeroValue156
  t76 := Tryz.underlying157
  a76 := Tryz.isAgg157
  z76 := Tryz.sizeOf157
  v76 := Tryz.zeroValue157
  t85 := Tryz.underlying201
  a85 := Tryz.isAgg201
  z85 := Tryz.sizeOf201
  v85 := Tryz.zeroValue201
  t127 := Tryz.underlying243
  a127 := Tryz.isAgg243
  z127 := Tryz.sizeOf243
  v127 := Tryz.zeroValue243
  t143 := Tryz.underlying278
  a143 := Tryz.isAgg278
  z143 := Tryz.sizeOf278
  v143 := Tryz.zeroValue278
  t145 := Tryz.underlying280
  a145 := Tryz.isAgg280
  z145 := Tryz.sizeOf280
  v145 := Tryz.zeroValue280
  t167 := Tryz.underlying234
  a167 := Tryz.isAgg234
  z167 := Tryz.sizeOf234
  v167 := Tryz.zeroValue234
  t168 := Tryz.underlying235
  a168 := Tryz.isAgg235
  z168 := Tryz.sizeOf235
  v168 := Tryz.zeroValue235
  t171 := Tryz.underlying246
  a171 := Tryz.isAgg246
  z171 := Tryz.sizeOf246
  v171 := Tryz.zeroValue246
  t173 := Tryz.underlying249
  a173 := Tryz.isAgg249
  z173 := Tryz.sizeOf249
  v173 := Tryz.zeroValue249
  t175 := Tryz.underlying170
  a175 := Tryz.isAgg170
  z175 := Tryz.sizeOf170
  v175 := Tryz.zeroValue170
  t210 := Tryz.underlying258
  a210 := Tryz.isAgg258
  z210 := Tryz.sizeOf258
  v210 := Tryz.zeroValue258
  t212 := Tryz.underlying268
  a212 := Tryz.isAgg268
  z212 := Tryz.sizeOf268
  v212 := Tryz.zeroValue268
  t213 := Tryz.underlying269
  a213 := Tryz.isAgg269
  z213 := Tryz.sizeOf269
  t232 := Tryz.underlying293
  a232 := Tryz.isAgg293
  z232 := Tryz.sizeOf293
  v232 := Tryz.zeroValue293
  t233 := Tryz.underlying294
  a233 := Tryz.isAgg294
  z233 := Tryz.sizeOf294
  v233 := Tryz.zeroValue294
  g15 := by kernel_rfl
  g16 := by kernel_rfl
  g17 := by kernel_rfl
  g18 := by kernel_rfl
  g19 := by kernel_rfl
  t80 := Tryz.underlying211
  a80 := Tryz.isAgg211
  z80 := Tryz.sizeOf211
  v80 := Tryz.zeroValue211
  i0 := by kernel_rfl
  i2 := by kernel_rfl
  i3 := by kernel_rfl
  i4 := by kernel_rfl
  i5 := by kernel_rfl
  i9 := by kernel_rfl
  i20 := by kernel_rfl
  i21 := by kernel_rfl
  i37 := by kernel_rfl
  i46 := by kernel_rfl
  i51 := by kernel_rfl
  i53 := by kernel_rfl
  i75 := by kernel_rfl
  i76 := by kernel_rfl
  i80 := by kernel_rfl
  i85 := by kernel_rfl
  i127 := by kernel_rfl
  i143 := by kernel_rfl
  i145 := by kernel_rfl
  i167 := by kernel_rfl
  i168 := by kernel_rfl
  i171 := by kernel_rfl
  i173 := by kernel_rfl
  i175 := by kernel_rfl
  i210 := by kernel_rfl
  i212 := by kernel_rfl
  i232 := by kernel_rfl
  i233 := by kernel_rfl
  m15 := by kernel_rfl
  m16 := by kernel_rfl
  m17 := by kernel_rfl
  m18 := by kernel_rfl
  m19 := by kernel_rfl
  c0 := by kernel_rfl
  c2 := by kernel_rfl
  c3 := by kernel_rfl
  c4 := by kernel_rfl
  c5 := by kernel_rfl
  c9 := by kernel_rfl
  c20 := by kernel_rfl
  c21 := by kernel_rfl
  c37 := by kernel_rfl
  c46 := by kernel_rfl
  c51 := by kernel_rfl
  c53 := by kernel_rfl
  c75 := by kernel_rfl
  c76 := by kernel_rfl
  c80 := by kernel_rfl
  c85 := by kernel_rfl
  c127 := by kernel_rfl
  c143 := by kernel_rfl
  c145 := by kernel_rfl
  c167 := by kernel_rfl
  c168 := by kernel_rfl
  c171 := by kernel_rfl
  c173 := by kernel_rfl
  c175 := by kernel_rfl
  c210 := by kernel_rfl
  c212 := by kernel_rfl
  c213 := by kernel_rfl
  c232 := by kernel_rfl
  c233 := by kernel_rfl }
end Go.Proofs
end
section
/- strconv.Atoi, as a row, by the library's contracts. By this session. -/
set_option linter.unusedVariables false
namespace Go.Proofs.YtkgnhjmbnmaboaaGreatDoor
open Go Go.Fw Go.RowKit Go.Shelf
def atoiU (l : List UInt8) : Int × Bool := match Lib.atoiAll l with
  | .ok v => (v, false)
  | .«syntax» => (0, true)
  | .range => (Lib.atoiSat l, true)
abbrev strconv_Atoi.As : Shs := .cons (.x .s) .nil
abbrev strconv_Atoi.m : Back := [(false, .i .i64), (false, .e)]
abbrev strconv_Atoi.f (a : ByteArray) : Option (Int × Bool) := bif decide (a.size ≤ 281474976710656) then some (atoiU a.data.toList) else none
noncomputable abbrev strconv_Atoi.row : Row := fnRow 97 strconv_Atoi.As strconv_Atoi.m strconv_Atoi.f
theorem atoi_bytes_below (w : World) (t : TypeId) (s : ByteArray) : Below w.heap.size w (Lib.bytesWorld w t s) := by
  unfold Lib.bytesWorld World.freeze
  rw [if_neg (by decide)]
  refine ⟨rfl, rfl, rfl, by simp, fun k hk => ?_⟩
  show ((w.heap.push _).modify _ _)[k]? = _
  rw [Array.getElem?_modify, if_neg (by show ¬ w.heap.size = k; omega), Array.getElem?_push, if_neg (by omega)]
theorem strconv_Atoi.row_ok : RowOK P G1 strconv_Atoi.row := by
  have key : ∀ (ds : List D) (a : ByteArray) (q : Int × Bool), decArgs strconv_Atoi.As ds = some a → strconv_Atoi.f a = some q → Fw.Enters P 97 ∧ PCall P G1 97 ds (.tp [.i .i64 q.1, .er q.2]) := by
    intro ds a q ha hq
    refine ⟨ent_of Tryz.func97 (by kernel_rfl) (by kernel_rfl), ?_⟩
    have hds := (decArgs_argD ha).symm
    refine PCall.coe (ds' := argD strconv_Atoi.As a) ?_ (by rw [← hds]; exact coeA_len) fun w I f hf => by rw [← hds]; exact coeA_rel hf
    refine pcall_below fun w I K vs hg hsz hr => ?_
    have h0 := hr 0 (.s a) rfl
    have hvs : vs = #[.string a] := by
      have hs : vs.size = 1 := hsz
      rw [Array.getD_eq_getD_getElem?, Array.getElem?_eq_getElem (by omega)] at h0
      simp only [Option.getD_some] at h0
      refine Array.ext (by simpa using hs) fun i hi hi' => ?_
      match i, hi with
      | 0, _ => cases h : vs[0] <;> rw [h] at h0 <;> cases h0; rfl
      | i + 1, hi => omega
    subst hvs
    unfold strconv_Atoi.f at hq
    obtain ⟨hb, hq⟩ := cond_some hq
    simp only [decide_eq_true_eq] at hb
    injection hq with hq
    subst hq
    unfold atoiU
    have tup : ∀ (w' : World) (n : Int) (b : Bool) (v : Value), RelD w' I (.er b) v → RelX w' I K (.tp [.i .i64 n, .er b]) (.tuple #[.int .i64 n, v]) := fun w' n b v hv => ⟨_, rfl, RelD.i .i64 n, ⟨hv, trivial, fun b h => by cases b <;> cases h⟩, fun b h => by cases h⟩
    cases hp : Lib.atoiAll a.data.toList with
    | ok u =>
      refine (Any.strconv_Atoi_ok Tryz.laysC172 a (by omega) u hp w).mono ?_
      rintro e w' ⟨rfl, hw⟩
      refine ⟨_, rfl, ?_, tup w' u false _ .er0⟩
      rcases hw with rfl | ⟨t, rfl⟩
      · exact .refl _ _
      · exact atoi_bytes_below _ _ _
    | «syntax» =>
      obtain ⟨tp, p, hv⟩ := err_of_glob (P := P) hg (g := 1) (name := "strconv.ErrSyntax") (by kernel_rfl) rfl
      refine (Any.strconv_Atoi_syntax_var Tryz.laysC172 a hb hp tp p w hv).mono ?_
      rintro e w' ⟨N, rfl, _, _, hb⟩
      exact ⟨_, rfl, hb, tup w' 0 true _ (.er1 _ _)⟩
    | range =>
      obtain ⟨tp, p, hv⟩ := err_of_glob (P := P) hg (g := 2) (name := "strconv.ErrRange") (by kernel_rfl) rfl
      refine (Any.strconv_Atoi_range_var Tryz.laysC172 a hb hp tp p w hv).mono ?_
      rintro e w' ⟨N, rfl, _, _, hb⟩
      exact ⟨_, rfl, hb, tup w' _ true _ (.er1 _ _)⟩
  exact fun ds a q => key ds a q
end Go.Proofs.YtkgnhjmbnmaboaaGreatDoor
end
section
/- Contracts of the library at this program, in plain words. Written by a tool of the kit.
-/
namespace Go.Proofs
open Go.Shelf
def Tryz.lays157_ren : Go.Shelf.Ren := ⟨fun | 157 => 173 | 229 => 207 | 199 => 208 | 261 => 227 | 311 => 235 | 312 => 236 | n => n, fun | 9 => 9 | 31 => 138 | 3 => 3 | 5 => 5 | 4 => 4 | 119 => 255 | 0 => 0 | 40 => 223 | 152 => 273 | 21 => 21 | 154 => 275 | 51 => 239 | 141 => 277 | 196 => 285 | 193 => 282 | 198 => 288 | 49 => 286 | 194 => 283 | 201 => 291 | 226 => 295 | 46 => 203 | 227 => 296 | n => n, fun | 0 => 0 | 6 => 6 | n => n⟩
theorem Tryz.lays157 : Go.Proofs.Lays.n157 Tryz.prog Tryz.lays157_ren := {
  mixed := by kernel_rfl
  f157 := Tryz.func173.trans (congrArg some (by kernel_rfl))
  f199 := Tryz.func208.trans (congrArg some (by kernel_rfl))
  f229 := Tryz.func207.trans (congrArg some (by kernel_rfl))
  f261 := Tryz.func227.trans (congrArg some (by kernel_rfl))
  f311 := Tryz.func235.trans (congrArg some (by kernel_rfl))
  f312 := Tryz.func236.trans (congrArg some (by kernel_rfl))
  t0 := Tryz.underlying0
  a0 := Tryz.isAgg0
  z0 := Tryz.sizeOf0
  v0 := Tryz.zeroValue0
  t3 := Tryz.underlying3
  a3 := Tryz.isAgg3
  z3 := Tryz.sizeOf3
  v3 := Tryz.zeroValue3
  t4 := Tryz.underlying4
  a4 := Tryz.isAgg4
  z4 := Tryz.sizeOf4
  v4 := Tryz.zeroValue4
  t5 := Tryz.underlying5
  a5 := Tryz.isAgg5
  z5 := Tryz.sizeOf5
  v5 := Tryz.zeroValue5
  t9 := Tryz.underlying9
  a9 := Tryz.isAgg9
  z9 := Tryz.sizeOf9
  v9 := Tryz.zeroValue9
  t21 := Tryz.underlying21
  a21 := Tryz.isAgg21
  z21 := Tryz.sizeOf21
  v21 := Tryz.zeroValue21
  t31 := Tryz.underlying138
  a31 := Tryz.isAgg138
  z31 := Tryz.sizeOf138
  v31 := Tryz.zeroValue138
  t40 := Tryz.underlying223
  a40 := Tryz.isAgg223
  z40 := Tryz.sizeOf223
  v40 := Tryz.zeroValue223
  t46 := Tryz.underlying203
  a46 := Tryz.isAgg203
  z46 := Tryz.sizeOf203
  v46 := Tryz.zeroValue203
  t49 := Tryz.underlying286
  a49 := Tryz.isAgg286
  z49 := Tryz.sizeOf286
  v49 := Tryz.zeroValue286
  t51 := Tryz.underlying239
  a51 := Tryz.isAgg239
  z51 := Tryz.sizeOf239
  v51 := Tryz.zeroValue239
  t119 := Tryz.underlying255
  a119 := Tryz.isAgg255
  z119 := Tryz.sizeOf255
  t141 := Tryz.underlying277
  a141 := Tryz.isAgg277
  z141 := Tryz.sizeOf277
  v141 := Tryz.zeroValue277
  t152 := Tryz.underlying273
  a152 := Tryz.isAgg273
  z152 := Tryz.sizeOf273
  v152 := Tryz.zeroValue273
  t154 := Tryz.underlying275
  a154 := Tryz.isAgg275
  z154 := Tryz.sizeOf275
  v154 := Tryz.zeroValue275
  t193 := Tryz.underlying282
  a193 := Tryz.isAgg282
  z193 := Tryz.sizeOf282
  v193 := Tryz.zeroValue282
  t194 := Tryz.underlying283
  a194 := Tryz.isAgg283
  z194 := Tryz.sizeOf283
  v194 := Tryz.zeroValue283
  t196 := Tryz.underlying285
  a196 := Tryz.isAgg285
  z196 := Tryz.sizeOf285
  v196 := Tryz.zeroValue285
  t198 := Tryz.underlying288
  a198 := Tryz.isAgg288
  z198 := Tryz.sizeOf288
  v198 := Tryz.zeroValue288
  t201 := Tryz.underlying291
  a201 := Tryz.isAgg291
  z201 := Tryz.sizeOf291
  v201 := Tryz.zeroValue291
  t226 := Tryz.underlying295
  a226 := Tryz.isAgg295
  z226 := Tryz.sizeOf295
  v226 := Tryz.zeroValue295
  t227 := Tryz.underlying296
  a227 := Tryz.isAgg296
  z227 := Tryz.sizeOf296
  v227 := Tryz.zeroValue296
  g0 := by kernel_rfl
  g6 := by kernel_rfl }
end Go.Proofs
end
section
/- strings.Fields, on texts below 128, as a row, by the library's contract. By this session. -/
set_option linter.unusedVariables false
namespace Go.Proofs.YtkgnhjmbnmaboaaGreatDoor
open Go Go.Fw Go.RowKit Go.Shelf
abbrev strings_Fields.As : Shs := .cons (.x .s) .nil
abbrev strings_Fields.m : Back := [(true, .l .s)]
abbrev strings_Fields.f (a : ByteArray) : Option (List ByteArray) := bif decide (a.size < 4294967281) && a.data.toList.all (fun b => decide (b.toNat < 128)) then some ((Lib.fields a.data.toList).map fun l => bs l) else none
noncomputable abbrev strings_Fields.row : Row := fnRow 173 strings_Fields.As strings_Fields.m strings_Fields.f
theorem strings_Fields.row_ok : RowOK P G0 strings_Fields.row := by
  have key : ∀ (ds : List D) (a : ByteArray) (q : List ByteArray), decArgs strings_Fields.As ds = some a → strings_Fields.f a = some q → Fw.Enters P 173 ∧ PCall P G0 173 ds (.fr 1 (.t .s q)) := by
    intro ds a q ha hq
    refine ⟨ent_of Tryz.func173 (by kernel_rfl) (by kernel_rfl), ?_⟩
    have hds := (decArgs_argD ha).symm
    refine PCall.coe (ds' := argD strings_Fields.As a) ?_ (by rw [← hds]; exact coeA_len) fun w I f hf => by rw [← hds]; exact coeA_rel hf
    refine pcall_belowI fun w I K vs hg hI hK hsz hr => ?_
    have h0 := hr 0 (.s a) rfl
    have hvs : vs = #[.string a] := by
      have hs : vs.size = 1 := hsz
      rw [Array.getD_eq_getD_getElem?, Array.getElem?_eq_getElem (by omega)] at h0
      simp only [Option.getD_some] at h0
      refine Array.ext (by simpa using hs) fun i hi hi' => ?_
      match i, hi with
      | 0, _ => cases h : vs[0] <;> rw [h] at h0 <;> cases h0; rfl
      | i + 1, hi => omega
    subst hvs
    unfold strings_Fields.f at hq
    obtain ⟨hb, hq⟩ := cond_some hq
    simp only [Bool.and_eq_true, decide_eq_true_eq, List.all_eq_true] at hb
    injection hq with hq
    subst hq
    refine (Any.strings_Fields Tryz.lays157 (by kernel_rfl) (by kernel_rfl) a w hb.1 (fun j b hj => hb.2 b (List.mem_of_getElem? hj)) (tab_of_glob hg (g := 0) (by kernel_rfl) (by kernel_rfl))).mono ?_
    rintro e w' ⟨rfl, rfl⟩
    refine ⟨_, rfl, alloc_below _ _, ?_⟩
    obtain ⟨l, hl⟩ : ∃ l, Lib.fields a.data.toList = l := ⟨_, rfl⟩
    rw [hl]
    have := frOK_alloc (w := w) (I := I) (K := K) (xs := (l.map fun l => bs l).map D.s) (vs := l.map fun l => Value.string ⟨l.toArray⟩) (t := 9) hI hK (by simp) (fun x hx => by
      obtain ⟨y, _, rfl⟩ := List.mem_map.1 hx; rfl) (fun v hv => by
      obtain ⟨y, _, rfl⟩ := List.mem_map.1 hv; rfl) (fun j d hj => by
      simp only [List.getElem?_map] at hj
      obtain ⟨y, hy, rfl⟩ := Option.map_eq_some_iff.1 hj
      obtain ⟨z, hz, rfl⟩ := Option.map_eq_some_iff.1 hy
      simp only [Array.getD_eq_getD_getElem?, List.getElem?_toArray, List.getElem?_map, hz, Option.map_some, Option.getD_some]
      exact RelD.s _)
    simp only [List.length_map] at this
    exact .inl this
  exact fun ds a q => key ds a q
end Go.Proofs.YtkgnhjmbnmaboaaGreatDoor
end
section
/- The Go function spec.kinds, as a Lean function, and that it is this one. Written by a program of this session. -/
set_option linter.unusedVariables false
set_option maxRecDepth 100000
namespace Go.Proofs.YtkgnhjmbnmaboaaGreatDoor
open Go Go.Fw
abbrev spec_kinds.row : Row := closedRow 143 (.ag [.s (bs []), .nF, .s (bs [110]), .fn 176 [], .s (bs [97, 110]), .fn 177 [], .s (bs [97, 110, 115]), .fn 179 [], .s (bs [98]), .fn 180 []])
theorem spec_kinds.row_ok : RowOK P G0 spec_kinds.row := closed_ok e0_ok j0_ok (T := []) trivial 60 (by kernel_rfl)
end Go.Proofs.YtkgnhjmbnmaboaaGreatDoor
end
section
/- The Go function spec.read, as a Lean function, and that it is this one. Written by a program of this session. -/
set_option linter.unusedVariables false
set_option maxRecDepth 100000
namespace Go.Proofs.YtkgnhjmbnmaboaaGreatDoor
open Go Go.Fw
noncomputable abbrev spec_read.tab : List (ByteArray × Int × Int × Int) := [(bs [110, 46, 46, 49, 57], (1, 2, 19)), (bs [110, 54], (1, 0, 6)), (bs [110, 49, 50], (1, 0, 12)), (bs [110, 49, 48], (1, 0, 10)), (bs [110, 56], (1, 0, 8)), (bs [110, 52], (1, 0, 4)), (bs [110, 51], (1, 0, 3)), (bs [110, 50], (1, 0, 2)), (bs [110, 49], (1, 0, 1)), (bs [97, 110, 57], (2, 0, 9)), (bs [110, 46, 46, 49, 49], (1, 2, 11)), (bs [97, 110, 46, 46, 50, 56], (2, 2, 28)), (bs [97, 110, 115, 46, 46, 51, 55], (3, 2, 37)), (bs [97, 110, 115, 46, 46, 46, 49, 48, 52], (3, 3, 104)), (bs [97, 110, 49, 50], (2, 0, 12)), (bs [97, 110, 54], (2, 0, 6)), (bs [97, 110, 50], (2, 0, 2)), (bs [97, 110, 51], (2, 0, 3)), (bs [97, 110, 115, 56], (3, 0, 8)), (bs [97, 110, 115, 49, 53], (3, 0, 15)), (bs [97, 110, 115, 52, 48], (3, 0, 40)), (bs [97, 110, 115, 46, 46, 50, 53], (3, 2, 25)), (bs [97, 110, 115, 46, 46, 55, 54], (3, 2, 76)), (bs [97, 110, 115, 46, 46, 46, 57, 57, 57], (3, 3, 999)), (bs [98, 56], (4, 0, 8)), (bs [110, 49, 54], (1, 0, 16)), (bs [97, 110, 46, 46, 46, 49, 50, 48], (2, 3, 120)), (bs [110, 52, 50], (1, 0, 42)), (bs [97, 110, 49], (2, 0, 1)), (bs [97, 110, 53], (2, 0, 5)), (bs [97, 110, 55], (2, 0, 7)), (bs [97, 110, 52, 50], (2, 0, 42)), (bs [97, 110, 49, 55], (2, 0, 17)), (bs [97, 110, 115, 50, 53], (3, 0, 25)), (bs [97, 110, 115, 46, 46, 49, 55], (3, 2, 17)), (bs [97, 110, 115, 46, 46, 50, 56], (3, 2, 28)), (bs [97, 110, 115, 46, 46, 46, 49, 48, 48], (3, 3, 100))]
abbrev spec_read.m : Back := [(false, T_api_Spec)]
noncomputable def spec_read.f : ByteArray → Option (Int × Int × Int) := lookT spec_read.tab
noncomputable abbrev spec_read.row : Row := fnRow 175 AsT spec_read.m spec_read.f
theorem spec_read.row_ok : RowOK P G1 spec_read.row := told_texts e0_ok j0_ok (T := [strconv_Atoi.row, spec_kinds.row]) ⟨strconv_Atoi.row_ok, ⟨(spec_kinds.row_ok.more g01), trivial⟩⟩ (m := spec_read.m) spec_read.tab 60 (by kernel_rfl)
end Go.Proofs.YtkgnhjmbnmaboaaGreatDoor
end
section
/- The Go function spec.table, as a Lean function, and that it is this one. Written by a program of this session. -/
set_option linter.unusedVariables false
set_option maxRecDepth 100000
namespace Go.Proofs.YtkgnhjmbnmaboaaGreatDoor
open Go Go.Fw
abbrev spec_table.row : Row := closedRow 142 (.ag [.i .i64 0, .i .i64 0, .i .i64 0, .i .i64 0, .i .i64 0, .i .i64 0, .i .i64 1, .i .i64 2, .i .i64 19, .i .i64 1, .i .i64 0, .i .i64 6, .i .i64 1, .i .i64 0, .i .i64 12, .i .i64 1, .i .i64 0, .i .i64 12, .i .i64 1, .i .i64 0, .i .i64 12, .i .i64 1, .i .i64 0, .i .i64 10, .i .i64 1, .i .i64 0, .i .i64 8, .i .i64 1, .i .i64 0, .i .i64 8, .i .i64 1, .i .i64 0, .i .i64 8, .i .i64 1, .i .i64 0, .i .i64 6, .i .i64 1, .i .i64 0, .i .i64 6, .i .i64 1, .i .i64 0, .i .i64 4, .i .i64 1, .i .i64 0, .i .i64 4, .i .i64 1, .i .i64 0, .i .i64 4, .i .i64 1, .i .i64 0, .i .i64 4, .i .i64 1, .i .i64 0, .i .i64 4, .i .i64 1, .i .i64 0, .i .i64 4, .i .i64 1, .i .i64 0, .i .i64 3, .i .i64 1, .i .i64 0, .i .i64 3, .i .i64 1, .i .i64 0, .i .i64 3, .i .i64 1, .i .i64 0, .i .i64 3, .i .i64 1, .i .i64 0, .i .i64 3, .i .i64 1, .i .i64 0, .i .i64 3, .i .i64 1, .i .i64 0, .i .i64 2, .i .i64 1, .i .i64 0, .i .i64 2, .i .i64 1, .i .i64 0, .i .i64 1, .i .i64 2, .i .i64 0, .i .i64 9, .i .i64 2, .i .i64 0, .i .i64 9, .i .i64 2, .i .i64 0, .i .i64 9, .i .i64 2, .i .i64 0, .i .i64 9, .i .i64 1, .i .i64 2, .i .i64 11, .i .i64 1, .i .i64 2, .i .i64 11, .i .i64 2, .i .i64 2, .i .i64 28, .i .i64 3, .i .i64 2, .i .i64 37, .i .i64 3, .i .i64 3, .i .i64 104, .i .i64 2, .i .i64 0, .i .i64 12, .i .i64 2, .i .i64 0, .i .i64 6, .i .i64 2, .i .i64 0, .i .i64 2, .i .i64 2, .i .i64 0, .i .i64 3, .i .i64 3, .i .i64 0, .i .i64 8, .i .i64 3, .i .i64 0, .i .i64 15, .i .i64 3, .i .i64 0, .i .i64 40, .i .i64 3, .i .i64 2, .i .i64 25, .i .i64 3, .i .i64 2, .i .i64 76, .i .i64 3, .i .i64 3, .i .i64 999, .i .i64 3, .i .i64 3, .i .i64 999, .i .i64 3, .i .i64 3, .i .i64 999, .i .i64 2, .i .i64 0, .i .i64 3, .i .i64 2, .i .i64 0, .i .i64 3, .i .i64 2, .i .i64 0, .i .i64 3, .i .i64 4, .i .i64 0, .i .i64 8, .i .i64 1, .i .i64 0, .i .i64 16, .i .i64 2, .i .i64 3, .i .i64 120, .i .i64 3, .i .i64 3, .i .i64 999, .i .i64 3, .i .i64 3, .i .i64 999, .i .i64 3, .i .i64 3, .i .i64 999, .i .i64 3, .i .i64 3, .i .i64 999, .i .i64 3, .i .i64 3, .i .i64 999, .i .i64 3, .i .i64 3, .i .i64 999, .i .i64 3, .i .i64 3, .i .i64 999, .i .i64 3, .i .i64 3, .i .i64 999, .i .i64 3, .i .i64 3, .i .i64 999, .i .i64 4, .i .i64 0, .i .i64 8, .i .i64 0, .i .i64 0, .i .i64 0, .i .i64 1, .i .i64 0, .i .i64 1, .i .i64 1, .i .i64 0, .i .i64 2, .i .i64 1, .i .i64 0, .i .i64 3, .i .i64 1, .i .i64 0, .i .i64 3, .i .i64 1, .i .i64 0, .i .i64 3, .i .i64 1, .i .i64 0, .i .i64 4, .i .i64 1, .i .i64 0, .i .i64 4, .i .i64 1, .i .i64 0, .i .i64 6, .i .i64 1, .i .i64 0, .i .i64 10, .i .i64 1, .i .i64 0, .i .i64 10, .i .i64 1, .i .i64 0, .i .i64 10, .i .i64 1, .i .i64 0, .i .i64 10, .i .i64 1, .i .i64 0, .i .i64 10, .i .i64 1, .i .i64 0, .i .i64 10, .i .i64 1, .i .i64 0, .i .i64 10, .i .i64 1, .i .i64 0, .i .i64 10, .i .i64 1, .i .i64 0, .i .i64 12, .i .i64 1, .i .i64 0, .i .i64 12, .i .i64 1, .i .i64 0, .i .i64 12, .i .i64 1, .i .i64 0, .i .i64 12, .i .i64 1, .i .i64 0, .i .i64 16, .i .i64 1, .i .i64 0, .i .i64 16, .i .i64 1, .i .i64 0, .i .i64 16, .i .i64 1, .i .i64 0, .i .i64 16, .i .i64 1, .i .i64 0, .i .i64 42, .i .i64 2, .i .i64 0, .i .i64 1, .i .i64 2, .i .i64 0, .i .i64 2, .i .i64 2, .i .i64 0, .i .i64 5, .i .i64 2, .i .i64 0, .i .i64 7, .i .i64 2, .i .i64 0, .i .i64 42, .i .i64 4, .i .i64 0, .i .i64 8, .i .i64 2, .i .i64 0, .i .i64 17, .i .i64 3, .i .i64 0, .i .i64 25, .i .i64 1, .i .i64 2, .i .i64 11, .i .i64 1, .i .i64 2, .i .i64 11, .i .i64 3, .i .i64 2, .i .i64 17, .i .i64 3, .i .i64 2, .i .i64 28, .i .i64 3, .i .i64 2, .i .i64 28, .i .i64 3, .i .i64 3, .i .i64 100, .i .i64 3, .i .i64 3, .i .i64 999, .i .i64 3, .i .i64 3, .i .i64 999, .i .i64 3, .i .i64 3, .i .i64 999, .i .i64 3, .i .i64 3, .i .i64 999, .i .i64 3, .i .i64 3, .i .i64 999, .i .i64 3, .i .i64 3, .i .i64 999, .i .i64 3, .i .i64 3, .i .i64 999, .i .i64 3, .i .i64 3, .i .i64 999, .i .i64 3, .i .i64 3, .i .i64 999, .i .i64 3, .i .i64 3, .i .i64 999, .i .i64 3, .i .i64 3, .i .i64 999, .i .i64 3, .i .i64 3, .i .i64 999, .i .i64 3, .i .i64 3, .i .i64 999, .i .i64 3, .i .i64 3, .i .i64 999, .i .i64 3, .i .i64 3, .i .i64 999, .i .i64 3, .i .i64 3, .i .i64 999, .i .i64 3, .i .i64 3, .i .i64 999, .i .i64 3, .i .i64 3, .i .i64 999, .i .i64 3, .i .i64 3, .i .i64 999, .i .i64 3, .i .i64 3, .i .i64 999, .i .i64 3, .i .i64 3, .i .i64 999, .i .i64 3, .i .i64 3, .i .i64 999, .i .i64 3, .i .i64 3, .i .i64 999, .i .i64 4, .i .i64 0, .i .i64 8])
theorem spec_table.row_ok : RowOK P G1 spec_table.row := closed_ok e0_ok j0_ok (T := [strconv_Atoi.row, strings_Fields.row, spec_read.row]) ⟨strconv_Atoi.row_ok, ⟨(strings_Fields.row_ok.more g01), ⟨spec_read.row_ok, trivial⟩⟩⟩ 400 (by kernel_rfl)
end Go.Proofs.YtkgnhjmbnmaboaaGreatDoor
end
section
/- The Go function spec.Of, as a Lean function, and that it is this one. Written by a program of this session. -/
set_option linter.unusedVariables false
set_option maxRecDepth 100000
namespace Go.Proofs.YtkgnhjmbnmaboaaGreatDoor
open Go Go.Fw
abbrev spec_Of.As : Shs := (.cons (.x (.i .i64)) .nil)
abbrev spec_Of.m : Back := [(false, T_api_Spec), (false, (.i .i64))]
noncomputable abbrev spec_Of.H : HK := hk P G1 E0 J0 [spec_table.row] noLoops 4
theorem spec_Of.rows : TabOK P G1 (tabF [spec_table.row]) := rows_ok (ws := [spec_table.row]) ⟨spec_table.row_ok, trivial⟩
theorem spec_Of.hok : HKOK P spec_Of.H := hk_ok e0_ok j0_ok spec_Of.rows (fun g n => noLoops_ok g n) 4
noncomputable def spec_Of.f (a : Int) : Option ((Int × (Int × Int)) × Int) := (bif (decide ((a < (0 : Int)))) then (some (((0 : Int), ((0 : Int), (0 : Int))), (7 : Int))) else (bif (decide ((a > (128 : Int)))) then (some (((0 : Int), ((0 : Int), (0 : Int))), (7 : Int))) else (bif (a == (0 : Int)) then (some (((0 : Int), ((0 : Int), (0 : Int))), (7 : Int))) else (bif (a == (1 : Int)) then (some (((0 : Int), ((0 : Int), (0 : Int))), (7 : Int))) else (bif (a == (2 : Int)) then (some (((1 : Int), ((2 : Int), (19 : Int))), (0 : Int))) else (bif (a == (3 : Int)) then (some (((1 : Int), ((0 : Int), (6 : Int))), (0 : Int))) else (bif (a == (4 : Int)) then (some (((1 : Int), ((0 : Int), (12 : Int))), (0 : Int))) else (bif (a == (5 : Int)) then (some (((1 : Int), ((0 : Int), (12 : Int))), (0 : Int))) else (bif (a == (6 : Int)) then (some (((1 : Int), ((0 : Int), (12 : Int))), (0 : Int))) else (bif (a == (7 : Int)) then (some (((1 : Int), ((0 : Int), (10 : Int))), (0 : Int))) else (bif (a == (8 : Int)) then (some (((1 : Int), ((0 : Int), (8 : Int))), (0 : Int))) else (bif (a == (9 : Int)) then (some (((1 : Int), ((0 : Int), (8 : Int))), (0 : Int))) else (bif (a == (10 : Int)) then (some (((1 : Int), ((0 : Int), (8 : Int))), (0 : Int))) else (bif (a == (11 : Int)) then (some (((1 : Int), ((0 : Int), (6 : Int))), (0 : Int))) else (bif (a == (12 : Int)) then (some (((1 : Int), ((0 : Int), (6 : Int))), (0 : Int))) else (bif (a == (13 : Int)) then (some (((1 : Int), ((0 : Int), (4 : Int))), (0 : Int))) else (bif (a == (14 : Int)) then (some (((1 : Int), ((0 : Int), (4 : Int))), (0 : Int))) else (bif (a == (15 : Int)) then (some (((1 : Int), ((0 : Int), (4 : Int))), (0 : Int))) else (bif (a == (16 : Int)) then (some (((1 : Int), ((0 : Int), (4 : Int))), (0 : Int))) else (bif (a == (17 : Int)) then (some (((1 : Int), ((0 : Int), (4 : Int))), (0 : Int))) else (bif (a == (18 : Int)) then (some (((1 : Int), ((0 : Int), (4 : Int))), (0 : Int))) else (bif (a == (19 : Int)) then (some (((1 : Int), ((0 : Int), (3 : Int))), (0 : Int))) else (bif (a == (20 : Int)) then (some (((1 : Int), ((0 : Int), (3 : Int))), (0 : Int))) else (bif (a == (21 : Int)) then (some (((1 : Int), ((0 : Int), (3 : Int))), (0 : Int))) else (bif (a == (22 : Int)) then (some (((1 : Int), ((0 : Int), (3 : Int))), (0 : Int))) else (bif (a == (23 : Int)) then (some (((1 : Int), ((0 : Int), (3 : Int))), (0 : Int))) else (bif (a == (24 : Int)) then (some (((1 : Int), ((0 : Int), (3 : Int))), (0 : Int))) else (bif (a == (25 : Int)) then (some (((1 : Int), ((0 : Int), (2 : Int))), (0 : Int))) else (bif (a == (26 : Int)) then (some (((1 : Int), ((0 : Int), (2 : Int))), (0 : Int))) else (bif (a == (27 : Int)) then (some (((1 : Int), ((0 : Int), (1 : Int))), (0 : Int))) else (bif (a == (28 : Int)) then (some (((2 : Int), ((0 : Int), (9 : Int))), (0 : Int))) else (bif (a == (29 : Int)) then (some (((2 : Int), ((0 : Int), (9 : Int))), (0 : Int))) else (bif (a == (30 : Int)) then (some (((2 : Int), ((0 : Int), (9 : Int))), (0 : Int))) else (bif (a == (31 : Int)) then (some (((2 : Int), ((0 : Int), (9 : Int))), (0 : Int))) else (bif (a == (32 : Int)) then (some (((1 : Int), ((2 : Int), (11 : Int))), (0 : Int))) else (bif (a == (33 : Int)) then (some (((1 : Int), ((2 : Int), (11 : Int))), (0 : Int))) else (bif (a == (34 : Int)) then (some (((2 : Int), ((2 : Int), (28 : Int))), (0 : Int))) else (bif (a == (35 : Int)) then (some (((3 : Int), ((2 : Int), (37 : Int))), (0 : Int))) else (bif (a == (36 : Int)) then (some (((3 : Int), ((3 : Int), (104 : Int))), (0 : Int))) else (bif (a == (37 : Int)) then (some (((2 : Int), ((0 : Int), (12 : Int))), (0 : Int))) else (bif (a == (38 : Int)) then (some (((2 : Int), ((0 : Int), (6 : Int))), (0 : Int))) else (bif (a == (39 : Int)) then (some (((2 : Int), ((0 : Int), (2 : Int))), (0 : Int))) else (bif (a == (40 : Int)) then (some (((2 : Int), ((0 : Int), (3 : Int))), (0 : Int))) else (bif (a == (41 : Int)) then (some (((3 : Int), ((0 : Int), (8 : Int))), (0 : Int))) else (bif (a == (42 : Int)) then (some (((3 : Int), ((0 : Int), (15 : Int))), (0 : Int))) else (bif (a == (43 : Int)) then (some (((3 : Int), ((0 : Int), (40 : Int))), (0 : Int))) else (bif (a == (44 : Int)) then (some (((3 : Int), ((2 : Int), (25 : Int))), (0 : Int))) else (bif (a == (45 : Int)) then (some (((3 : Int), ((2 : Int), (76 : Int))), (0 : Int))) else (bif (a == (46 : Int)) then (some (((3 : Int), ((3 : Int), (999 : Int))), (0 : Int))) else (bif (a == (47 : Int)) then (some (((3 : Int), ((3 : Int), (999 : Int))), (0 : Int))) else (bif (a == (48 : Int)) then (some (((3 : Int), ((3 : Int), (999 : Int))), (0 : Int))) else (bif (a == (49 : Int)) then (some (((2 : Int), ((0 : Int), (3 : Int))), (0 : Int))) else (bif (a == (50 : Int)) then (some (((2 : Int), ((0 : Int), (3 : Int))), (0 : Int))) else (bif (a == (51 : Int)) then (some (((2 : Int), ((0 : Int), (3 : Int))), (0 : Int))) else (bif (a == (52 : Int)) then (some (((4 : Int), ((0 : Int), (8 : Int))), (0 : Int))) else (bif (a == (53 : Int)) then (some (((1 : Int), ((0 : Int), (16 : Int))), (0 : Int))) else (bif (a == (54 : Int)) then (some (((2 : Int), ((3 : Int), (120 : Int))), (0 : Int))) else (bif (a == (55 : Int)) then (some (((3 : Int), ((3 : Int), (999 : Int))), (0 : Int))) else (bif (a == (56 : Int)) then (some (((3 : Int), ((3 : Int), (999 : Int))), (0 : Int))) else (bif (a == (57 : Int)) then (some (((3 : Int), ((3 : Int), (999 : Int))), (0 : Int))) else (bif (a == (58 : Int)) then (some (((3 : Int), ((3 : Int), (999 : Int))), (0 : Int))) else (bif (a == (59 : Int)) then (some (((3 : Int), ((3 : Int), (999 : Int))), (0 : Int))) else (bif (a == (60 : Int)) then (some (((3 : Int), ((3 : Int), (999 : Int))), (0 : Int))) else (bif (a == (61 : Int)) then (some (((3 : Int), ((3 : Int), (999 : Int))), (0 : Int))) else (bif (a == (62 : Int)) then (some (((3 : Int), ((3 : Int), (999 : Int))), (0 : Int))) else (bif (a == (63 : Int)) then (some (((3 : Int), ((3 : Int), (999 : Int))), (0 : Int))) else (bif (a == (64 : Int)) then (some (((4 : Int), ((0 : Int), (8 : Int))), (0 : Int))) else (bif (a == (65 : Int)) then (some (((0 : Int), ((0 : Int), (0 : Int))), (7 : Int))) else (bif (a == (66 : Int)) then (some (((1 : Int), ((0 : Int), (1 : Int))), (0 : Int))) else (bif (a == (67 : Int)) then (some (((1 : Int), ((0 : Int), (2 : Int))), (0 : Int))) else (bif (a == (68 : Int)) then (some (((1 : Int), ((0 : Int), (3 : Int))), (0 : Int))) else (bif (a == (69 : Int)) then (some (((1 : Int), ((0 : Int), (3 : Int))), (0 : Int))) else (bif (a == (70 : Int)) then (some (((1 : Int), ((0 : Int), (3 : Int))), (0 : Int))) else (bif (a == (71 : Int)) then (some (((1 : Int), ((0 : Int), (4 : Int))), (0 : Int))) else (bif (a == (72 : Int)) then (some (((1 : Int), ((0 : Int), (4 : Int))), (0 : Int))) else (bif (a == (73 : Int)) then (some (((1 : Int), ((0 : Int), (6 : Int))), (0 : Int))) else (bif (a == (74 : Int)) then (some (((1 : Int), ((0 : Int), (10 : Int))), (0 : Int))) else (bif (a == (75 : Int)) then (some (((1 : Int), ((0 : Int), (10 : Int))), (0 : Int))) else (bif (a == (76 : Int)) then (some (((1 : Int), ((0 : Int), (10 : Int))), (0 : Int))) else (bif (a == (77 : Int)) then (some (((1 : Int), ((0 : Int), (10 : Int))), (0 : Int))) else (bif (a == (78 : Int)) then (some (((1 : Int), ((0 : Int), (10 : Int))), (0 : Int))) else (bif (a == (79 : Int)) then (some (((1 : Int), ((0 : Int), (10 : Int))), (0 : Int))) else (bif (a == (80 : Int)) then (some (((1 : Int), ((0 : Int), (10 : Int))), (0 : Int))) else (bif (a == (81 : Int)) then (some (((1 : Int), ((0 : Int), (10 : Int))), (0 : Int))) else (bif (a == (82 : Int)) then (some (((1 : Int), ((0 : Int), (12 : Int))), (0 : Int))) else (bif (a == (83 : Int)) then (some (((1 : Int), ((0 : Int), (12 : Int))), (0 : Int))) else (bif (a == (84 : Int)) then (some (((1 : Int), ((0 : Int), (12 : Int))), (0 : Int))) else (bif (a == (85 : Int)) then (some (((1 : Int), ((0 : Int), (12 : Int))), (0 : Int))) else (bif (a == (86 : Int)) then (some (((1 : Int), ((0 : Int), (16 : Int))), (0 : Int))) else (bif (a == (87 : Int)) then (some (((1 : Int), ((0 : Int), (16 : Int))), (0 : Int))) else (bif (a == (88 : Int)) then (some (((1 : Int), ((0 : Int), (16 : Int))), (0 : Int))) else (bif (a == (89 : Int)) then (some (((1 : Int), ((0 : Int), (16 : Int))), (0 : Int))) else (bif (a == (90 : Int)) then (some (((1 : Int), ((0 : Int), (42 : Int))), (0 : Int))) else (bif (a == (91 : Int)) then (some (((2 : Int), ((0 : Int), (1 : Int))), (0 : Int))) else (bif (a == (92 : Int)) then (some (((2 : Int), ((0 : Int), (2 : Int))), (0 : Int))) else (bif (a == (93 : Int)) then (some (((2 : Int), ((0 : Int), (5 : Int))), (0 : Int))) else (bif (a == (94 : Int)) then (some (((2 : Int), ((0 : Int), (7 : Int))), (0 : Int))) else (bif (a == (95 : Int)) then (some (((2 : Int), ((0 : Int), (42 : Int))), (0 : Int))) else (bif (a == (96 : Int)) then (some (((4 : Int), ((0 : Int), (8 : Int))), (0 : Int))) else (bif (a == (97 : Int)) then (some (((2 : Int), ((0 : Int), (17 : Int))), (0 : Int))) else (bif (a == (98 : Int)) then (some (((3 : Int), ((0 : Int), (25 : Int))), (0 : Int))) else (bif (a == (99 : Int)) then (some (((1 : Int), ((2 : Int), (11 : Int))), (0 : Int))) else (bif (a == (100 : Int)) then (some (((1 : Int), ((2 : Int), (11 : Int))), (0 : Int))) else (bif (a == (101 : Int)) then (some (((3 : Int), ((2 : Int), (17 : Int))), (0 : Int))) else (bif (a == (102 : Int)) then (some (((3 : Int), ((2 : Int), (28 : Int))), (0 : Int))) else (bif (a == (103 : Int)) then (some (((3 : Int), ((2 : Int), (28 : Int))), (0 : Int))) else (bif (a == (104 : Int)) then (some (((3 : Int), ((3 : Int), (100 : Int))), (0 : Int))) else (bif (a == (105 : Int)) then (some (((3 : Int), ((3 : Int), (999 : Int))), (0 : Int))) else (bif (a == (106 : Int)) then (some (((3 : Int), ((3 : Int), (999 : Int))), (0 : Int))) else (bif (a == (107 : Int)) then (some (((3 : Int), ((3 : Int), (999 : Int))), (0 : Int))) else (bif (a == (108 : Int)) then (some (((3 : Int), ((3 : Int), (999 : Int))), (0 : Int))) else (bif (a == (109 : Int)) then (some (((3 : Int), ((3 : Int), (999 : Int))), (0 : Int))) else (bif (a == (110 : Int)) then (some (((3 : Int), ((3 : Int), (999 : Int))), (0 : Int))) else (bif (a == (111 : Int)) then (some (((3 : Int), ((3 : Int), (999 : Int))), (0 : Int))) else (bif (a == (112 : Int)) then (some (((3 : Int), ((3 : Int), (999 : Int))), (0 : Int))) else (bif (a == (113 : Int)) then (some (((3 : Int), ((3 : Int), (999 : Int))), (0 : Int))) else (bif (a == (114 : Int)) then (some (((3 : Int), ((3 : Int), (999 : Int))), (0 : Int))) else (bif (a == (115 : Int)) then (some (((3 : Int), ((3 : Int), (999 : Int))), (0 : Int))) else (bif (a == (116 : Int)) then (some (((3 : Int), ((3 : Int), (999 : Int))), (0 : Int))) else (bif (a == (117 : Int)) then (some (((3 : Int), ((3 : Int), (999 : Int))), (0 : Int))) else (bif (a == (118 : Int)) then (some (((3 : Int), ((3 : Int), (999 : Int))), (0 : Int))) else (bif (a == (119 : Int)) then (some (((3 : Int), ((3 : Int), (999 : Int))), (0 : Int))) else (bif (a == (120 : Int)) then (some (((3 : Int), ((3 : Int), (999 : Int))), (0 : Int))) else (bif (a == (121 : Int)) then (some (((3 : Int), ((3 : Int), (999 : Int))), (0 : Int))) else (bif (a == (122 : Int)) then (some (((3 : Int), ((3 : Int), (999 : Int))), (0 : Int))) else (bif (a == (123 : Int)) then (some (((3 : Int), ((3 : Int), (999 : Int))), (0 : Int))) else (bif (a == (124 : Int)) then (some (((3 : Int), ((3 : Int), (999 : Int))), (0 : Int))) else (bif (a == (125 : Int)) then (some (((3 : Int), ((3 : Int), (999 : Int))), (0 : Int))) else (bif (a == (126 : Int)) then (some (((3 : Int), ((3 : Int), (999 : Int))), (0 : Int))) else (bif (a == (127 : Int)) then (some (((3 : Int), ((3 : Int), (999 : Int))), (0 : Int))) else (bif (a == (128 : Int)) then (some (((4 : Int), ((0 : Int), (8 : Int))), (0 : Int))) else none)))))))))))))))))))))))))))))))))))))))))))))))))))))))))))))))))))))))))))))))))))))))))))))))))))))))))))))))))))))))))))))))))))
theorem spec_Of.ok : ∀ a : Vals spec_Of.As.tys, fnK P spec_Of.H (lp []) 95 spec_Of.As spec_Of.m a some = spec_Of.f a := fun a => by kernel_rfl
noncomputable abbrev spec_Of.row : Row := fnRow 95 spec_Of.As spec_Of.m spec_Of.f
theorem spec_Of.row_ok : RowOK P G1 spec_Of.row := row_told spec_Of.hok (lp_of (l := []) trivial) (fun _ => rfl) spec_Of.ok
end Go.Proofs.YtkgnhjmbnmaboaaGreatDoor
end
section
/- The Go function spec.pure, as a Lean function, and that it is this one. Written by a program of this session. -/
set_option linter.unusedVariables false
set_option maxRecDepth 100000
namespace Go.Proofs.YtkgnhjmbnmaboaaGreatDoor
open Go Go.Fw
abbrev spec_pure.As : Shs := (.cons (.x T_api_Spec) (.cons (.x .s) .nil))
abbrev spec_pure.m : Back := [(false, .b)]
noncomputable abbrev spec_pure.H : HK := hk P G0 E0 J0 [spec_kinds.row] noLoops 4
theorem spec_pure.rows : TabOK P G0 (tabF [spec_kinds.row]) := rows_ok (ws := [spec_kinds.row]) ⟨spec_kinds.row_ok, trivial⟩
theorem spec_pure.hok : HKOK P spec_pure.H := hk_ok e0_ok j0_ok spec_pure.rows (fun g n => noLoops_ok g n) 4
noncomputable abbrev spec_pure.sh4 : SSh := ⟨[(1, (.x .s)), (5, (.c 1)), (13, (.x (.i .i64))), (14, (.x (.i .i64)))], []⟩
noncomputable abbrev spec_pure.os4 : PEnds := [((.exit 0), ⟨[], []⟩)]
noncomputable def spec_pure.t4 (s : (ByteArray × (Int × Int))) : Option ((ByteArray × (Int × Int)) ⊕ (Unit)) := (bif (decide ((s.2.2 < s.2.1))) then (bif ((decide (((0 : Int) ≤ s.2.2))) && (decide ((s.2.2 < (s.1.size : Int))))) then none else none) else (some (.inr ())))
theorem spec_pure.t4_ok : ∀ s : Vals spec_pure.sh4.tys, turnK P spec_pure.H (lp []) (bodyAt (codeOf P 96) 4) 0 spec_pure.sh4 spec_pure.os4 s some = spec_pure.t4 s := fun s => by kernel_rfl
noncomputable def spec_pure.l4 : (ByteArray × (Int × Int)) → Option (Unit) := rounds spec_pure.t4
noncomputable abbrev spec_pure.sh4b : SSh := ⟨[(1, (.x .s)), (5, (.fn 176 .nil)), (13, (.x (.i .i64))), (14, (.x (.i .i64)))], []⟩
noncomputable abbrev spec_pure.os4b : PEnds := [(.ret, ⟨[(4, (.x .b))], []⟩), ((.exit 0), ⟨[], []⟩)]
noncomputable def spec_pure.t4b (s : (ByteArray × (Int × Int))) : Option ((ByteArray × (Int × Int)) ⊕ (Bool ⊕ Unit)) := (bif (decide ((s.2.2 < s.2.1))) then (bif ((decide (((0 : Int) ≤ s.2.2))) && (decide ((s.2.2 < (s.1.size : Int))))) then (bif (decide (((bt s.1 (Int.toNat s.2.2)) ≥ (48 : Int)))) then (bif (!(decide (((bt s.1 (Int.toNat s.2.2)) ≤ (57 : Int))))) then (some (.inr (.inl false))) else (some (.inl (s.1, (s.2.1, (IntKind.wrap .i64 (s.2.2 + (1 : Int)))))))) else (some (.inr (.inl false)))) else none) else (some (.inr (.inr ()))))
theorem spec_pure.t4b_ok : ∀ s : Vals spec_pure.sh4b.tys, turnK P spec_pure.H (lp []) (bodyAt (codeOf P 96) 4) 0 spec_pure.sh4b spec_pure.os4b s some = spec_pure.t4b s := fun s => by kernel_rfl
noncomputable def spec_pure.l4b : (ByteArray × (Int × Int)) → Option (Bool ⊕ Unit) := rounds spec_pure.t4b
noncomputable abbrev spec_pure.sh4c : SSh := ⟨[(1, (.x .s)), (5, (.fn 177 .nil)), (13, (.x (.i .i64))), (14, (.x (.i .i64)))], []⟩
noncomputable abbrev spec_pure.os4c : PEnds := [(.ret, ⟨[(4, (.x .b))], []⟩), ((.exit 0), ⟨[], []⟩)]
noncomputable def spec_pure.t4c (s : (ByteArray × (Int × Int))) : Option ((ByteArray × (Int × Int)) ⊕ (Bool ⊕ Unit)) := (bif (decide ((s.2.2 < s.2.1))) then (bif ((decide (((0 : Int) ≤ s.2.2))) && (decide ((s.2.2 < (s.1.size : Int))))) then (bif (decide (((bt s.1 (Int.toNat s.2.2)) ≥ (48 : Int)))) then (bif (decide (((bt s.1 (Int.toNat s.2.2)) ≤ (57 : Int)))) then (some (.inl (s.1, (s.2.1, (IntKind.wrap .i64 (s.2.2 + (1 : Int))))))) else (bif (decide (((bitsOp Go.BinOp.or Go.IntKind.u8 (bt s.1 (Int.toNat s.2.2)) (32 : Int)) ≥ (97 : Int)))) then (bif (decide (((bitsOp Go.BinOp.or Go.IntKind.u8 (bt s.1 (Int.toNat s.2.2)) (32 : Int)) ≤ (122 : Int)))) then (some (.inl (s.1, (s.2.1, (IntKind.wrap .i64 (s.2.2 + (1 : Int))))))) else (bif (!((bt s.1 (Int.toNat s.2.2)) == (32 : Int))) then (some (.inr (.inl false))) else (some (.inl (s.1, (s.2.1, (IntKind.wrap .i64 (s.2.2 + (1 : Int))))))))) else (bif (!((bt s.1 (Int.toNat s.2.2)) == (32 : Int))) then (some (.inr (.inl false))) else (some (.inl (s.1, (s.2.1, (IntKind.wrap .i64 (s.2.2 + (1 : Int)))))))))) else (bif (decide (((bitsOp Go.BinOp.or Go.IntKind.u8 (bt s.1 (Int.toNat s.2.2)) (32 : Int)) ≥ (97 : Int)))) then (bif (decide (((bitsOp Go.BinOp.or Go.IntKind.u8 (bt s.1 (Int.toNat s.2.2)) (32 : Int)) ≤ (122 : Int)))) then (some (.inl (s.1, (s.2.1, (IntKind.wrap .i64 (s.2.2 + (1 : Int))))))) else (bif (!((bt s.1 (Int.toNat s.2.2)) == (32 : Int))) then (some (.inr (.inl false))) else (some (.inl (s.1, (s.2.1, (IntKind.wrap .i64 (s.2.2 + (1 : Int))))))))) else (bif (!((bt s.1 (Int.toNat s.2.2)) == (32 : Int))) then (some (.inr (.inl false))) else (some (.inl (s.1, (s.2.1, (IntKind.wrap .i64 (s.2.2 + (1 : Int)))))))))) else none) else (some (.inr (.inr ()))))
theorem spec_pure.t4c_ok : ∀ s : Vals spec_pure.sh4c.tys, turnK P spec_pure.H (lp []) (bodyAt (codeOf P 96) 4) 0 spec_pure.sh4c spec_pure.os4c s some = spec_pure.t4c s := fun s => by kernel_rfl
noncomputable def spec_pure.l4c : (ByteArray × (Int × Int)) → Option (Bool ⊕ Unit) := rounds spec_pure.t4c
noncomputable abbrev spec_pure.sh4d : SSh := ⟨[(1, (.x .s)), (5, (.fn 179 .nil)), (13, (.x (.i .i64))), (14, (.x (.i .i64)))], []⟩
noncomputable abbrev spec_pure.os4d : PEnds := [(.ret, ⟨[(4, (.x .b))], []⟩), ((.exit 0), ⟨[], []⟩)]
noncomputable def spec_pure.t4d (s : (ByteArray × (Int × Int))) : Option ((ByteArray × (Int × Int)) ⊕ (Bool ⊕ Unit)) := (bif (decide ((s.2.2 < s.2.1))) then (bif ((decide (((0 : Int) ≤ s.2.2))) && (decide ((s.2.2 < (s.1.size : Int))))) then (bif (decide (((bt s.1 (Int.toNat s.2.2)) ≥ (32 : Int)))) then (bif (!(decide (((bt s.1 (Int.toNat s.2.2)) ≤ (126 : Int))))) then (some (.inr (.inl false))) else (some (.inl (s.1, (s.2.1, (IntKind.wrap .i64 (s.2.2 + (1 : Int)))))))) else (some (.inr (.inl false)))) else none) else (some (.inr (.inr ()))))
theorem spec_pure.t4d_ok : ∀ s : Vals spec_pure.sh4d.tys, turnK P spec_pure.H (lp []) (bodyAt (codeOf P 96) 4) 0 spec_pure.sh4d spec_pure.os4d s some = spec_pure.t4d s := fun s => by kernel_rfl
noncomputable def spec_pure.l4d : (ByteArray × (Int × Int)) → Option (Bool ⊕ Unit) := rounds spec_pure.t4d
noncomputable abbrev spec_pure.sh4e : SSh := ⟨[(1, (.x .s)), (5, (.fn 180 .nil)), (13, (.x (.i .i64))), (14, (.x (.i .i64)))], []⟩
noncomputable abbrev spec_pure.os4e : PEnds := [((.exit 0), ⟨[], []⟩)]
noncomputable def spec_pure.t4e (s : (ByteArray × (Int × Int))) : Option ((ByteArray × (Int × Int)) ⊕ (Unit)) := (bif (decide ((s.2.2 < s.2.1))) then (bif ((decide (((0 : Int) ≤ s.2.2))) && (decide ((s.2.2 < (s.1.size : Int))))) then (some (.inl (s.1, (s.2.1, (IntKind.wrap .i64 (s.2.2 + (1 : Int))))))) else none) else (some (.inr ())))
theorem spec_pure.t4e_ok : ∀ s : Vals spec_pure.sh4e.tys, turnK P spec_pure.H (lp []) (bodyAt (codeOf P 96) 4) 0 spec_pure.sh4e spec_pure.os4e s some = spec_pure.t4e s := fun s => by kernel_rfl
noncomputable def spec_pure.l4e : (ByteArray × (Int × Int)) → Option (Unit) := rounds spec_pure.t4e
noncomputable def spec_pure.f (a : ((Int × (Int × Int)) × ByteArray)) : Option Bool := (bif (a.1.1 == (0 : Int)) then (((spec_pure.l4 (a.2, ((a.2.size : Int), (0 : Int))))).bind fun (x2 : PUnit) => (some true)) else (bif (a.1.1 == (1 : Int)) then (((spec_pure.l4b (a.2, ((a.2.size : Int), (0 : Int))))).bind fun (x2 : (Bool ⊕ PUnit)) => (match x2 with | .inl x3 => (some x3) | .inr x3 => (some true))) else (bif (a.1.1 == (2 : Int)) then (((spec_pure.l4c (a.2, ((a.2.size : Int), (0 : Int))))).bind fun (x2 : (Bool ⊕ PUnit)) => (match x2 with | .inl x3 => (some x3) | .inr x3 => (some true))) else (bif (a.1.1 == (3 : Int)) then (((spec_pure.l4d (a.2, ((a.2.size : Int), (0 : Int))))).bind fun (x2 : (Bool ⊕ PUnit)) => (match x2 with | .inl x3 => (some x3) | .inr x3 => (some true))) else (bif (a.1.1 == (4 : Int)) then (((spec_pure.l4e (a.2, ((a.2.size : Int), (0 : Int))))).bind fun (x2 : PUnit) => (some true)) else none)))))
theorem spec_pure.ok : ∀ a : Vals spec_pure.As.tys, fnK P spec_pure.H (lp [(4, (orS 0 spec_pure.sh4 (NodeT.summ ⟨spec_pure.sh4, spec_pure.os4, spec_pure.l4⟩ 0) (orS 0 spec_pure.sh4b (NodeT.summ ⟨spec_pure.sh4b, spec_pure.os4b, spec_pure.l4b⟩ 0) (orS 0 spec_pure.sh4c (NodeT.summ ⟨spec_pure.sh4c, spec_pure.os4c, spec_pure.l4c⟩ 0) (orS 0 spec_pure.sh4d (NodeT.summ ⟨spec_pure.sh4d, spec_pure.os4d, spec_pure.l4d⟩ 0) (NodeT.summ ⟨spec_pure.sh4e, spec_pure.os4e, spec_pure.l4e⟩ 0))))))]) 96 spec_pure.As spec_pure.m a some = spec_pure.f a := fun a => by kernel_rfl
noncomputable abbrev spec_pure.row : Row := fnRow 96 spec_pure.As spec_pure.m spec_pure.f
theorem spec_pure.row_ok : RowOK P G0 spec_pure.row := row_told spec_pure.hok (lp_of (l := [(4, (orS 0 spec_pure.sh4 (NodeT.summ ⟨spec_pure.sh4, spec_pure.os4, spec_pure.l4⟩ 0) (orS 0 spec_pure.sh4b (NodeT.summ ⟨spec_pure.sh4b, spec_pure.os4b, spec_pure.l4b⟩ 0) (orS 0 spec_pure.sh4c (NodeT.summ ⟨spec_pure.sh4c, spec_pure.os4c, spec_pure.l4c⟩ 0) (orS 0 spec_pure.sh4d (NodeT.summ ⟨spec_pure.sh4d, spec_pure.os4d, spec_pure.l4d⟩ 0) (NodeT.summ ⟨spec_pure.sh4e, spec_pure.os4e, spec_pure.l4e⟩ 0))))))]) ⟨(or_sum (loop_sum spec_pure.hok (by kernel_rfl) (by kernel_rfl) (l := []) trivial spec_pure.sh4 spec_pure.os4 (by kernel_rfl) spec_pure.t4 spec_pure.t4_ok) (or_sum (loop_sum spec_pure.hok (by kernel_rfl) (by kernel_rfl) (l := []) trivial spec_pure.sh4b spec_pure.os4b (by kernel_rfl) spec_pure.t4b spec_pure.t4b_ok) (or_sum (loop_sum spec_pure.hok (by kernel_rfl) (by kernel_rfl) (l := []) trivial spec_pure.sh4c spec_pure.os4c (by kernel_rfl) spec_pure.t4c spec_pure.t4c_ok) (or_sum (loop_sum spec_pure.hok (by kernel_rfl) (by kernel_rfl) (l := []) trivial spec_pure.sh4d spec_pure.os4d (by kernel_rfl) spec_pure.t4d spec_pure.t4d_ok) (loop_sum spec_pure.hok (by kernel_rfl) (by kernel_rfl) (l := []) trivial spec_pure.sh4e spec_pure.os4e (by kernel_rfl) spec_pure.t4e spec_pure.t4e_ok))))), trivial⟩) (fun _ => rfl) spec_pure.ok
end Go.Proofs.YtkgnhjmbnmaboaaGreatDoor
end
section
/- The Go function bursarref16.in, as a Lean function, and that it is this one. Written by a program of this session. -/
set_option linter.unusedVariables false
set_option maxRecDepth 100000
namespace Go.Proofs.YtkgnhjmbnmaboaaGreatDoor
open Go Go.Fw
abbrev bursarref16_in.As : Shs := (.cons (.x (.i .i64)) (.cons (.x (.i .i64)) (.cons (.x (.i .i64)) .nil)))
abbrev bursarref16_in.m : Back := [(false, .b)]
noncomputable abbrev bursarref16_in.H : HK := hk P G0 E0 J0 [] noLoops 4
theorem bursarref16_in.rows : TabOK P G0 (tabF []) := rows_ok (ws := []) trivial
theorem bursarref16_in.hok : HKOK P bursarref16_in.H := hk_ok e0_ok j0_ok bursarref16_in.rows (fun g n => noLoops_ok g n) 4
noncomputable def bursarref16_in.f (a : (Int × (Int × Int))) : Option Bool := (bif (decide ((a.2.1 ≤ a.1))) then (some (decide ((a.1 ≤ a.2.2)))) else (some false))
theorem bursarref16_in.ok : ∀ a : Vals bursarref16_in.As.tys, fnK P bursarref16_in.H (lp []) 138 bursarref16_in.As bursarref16_in.m a some = bursarref16_in.f a := fun a => by kernel_rfl
noncomputable abbrev bursarref16_in.row : Row := fnRow 138 bursarref16_in.As bursarref16_in.m bursarref16_in.f
theorem bursarref16_in.row_ok : RowOK P G0 bursarref16_in.row := row_told bursarref16_in.hok (lp_of (l := []) trivial) (fun _ => rfl) bursarref16_in.ok
end Go.Proofs.YtkgnhjmbnmaboaaGreatDoor
end
section
/- The Go function bursarref16.Of, as a Lean function, and that it is this one. Written by a program of this session. -/
set_option linter.unusedVariables false
set_option maxRecDepth 100000
namespace Go.Proofs.YtkgnhjmbnmaboaaGreatDoor
open Go Go.Fw
abbrev bursarref16_Of.As : Shs := (.cons (.x (.i .i64)) .nil)
abbrev bursarref16_Of.m : Back := [(false, T_api_Spec)]
noncomputable abbrev bursarref16_Of.H : HK := hk P G0 E0 J0 [bursarref16_in.row] noLoops 4
theorem bursarref16_Of.rows : TabOK P G0 (tabF [bursarref16_in.row]) := rows_ok (ws := [bursarref16_in.row]) ⟨bursarref16_in.row_ok, trivial⟩
theorem bursarref16_Of.hok : HKOK P bursarref16_Of.H := hk_ok e0_ok j0_ok bursarref16_Of.rows (fun g n => noLoops_ok g n) 4
noncomputable def bursarref16_Of.f (a : Int) : Option (Int × (Int × Int)) := (bif (a == (2 : Int)) then (some ((1 : Int), ((2 : Int), (19 : Int)))) else (bif (a == (3 : Int)) then (some ((1 : Int), ((0 : Int), (6 : Int)))) else (bif (a == (11 : Int)) then (some ((1 : Int), ((0 : Int), (6 : Int)))) else (bif (a == (12 : Int)) then (some ((1 : Int), ((0 : Int), (6 : Int)))) else (bif (a == (73 : Int)) then (some ((1 : Int), ((0 : Int), (6 : Int)))) else (((bursarref16_in.f (a, ((4 : Int), (6 : Int))))).bind fun (x1 : Bool) => (bif x1 then (some ((1 : Int), ((0 : Int), (12 : Int)))) else (((bursarref16_in.f (a, ((82 : Int), (85 : Int))))).bind fun (x2 : Bool) => (bif x2 then (some ((1 : Int), ((0 : Int), (12 : Int)))) else (bif (a == (7 : Int)) then (some ((1 : Int), ((0 : Int), (10 : Int)))) else (((bursarref16_in.f (a, ((74 : Int), (81 : Int))))).bind fun (x3 : Bool) => (bif x3 then (some ((1 : Int), ((0 : Int), (10 : Int)))) else (((bursarref16_in.f (a, ((8 : Int), (10 : Int))))).bind fun (x4 : Bool) => (bif x4 then (some ((1 : Int), ((0 : Int), (8 : Int)))) else (((bursarref16_in.f (a, ((13 : Int), (18 : Int))))).bind fun (x5 : Bool) => (bif x5 then (some ((1 : Int), ((0 : Int), (4 : Int)))) else (bif (a == (71 : Int)) then (some ((1 : Int), ((0 : Int), (4 : Int)))) else (bif (a == (72 : Int)) then (some ((1 : Int), ((0 : Int), (4 : Int)))) else (((bursarref16_in.f (a, ((19 : Int), (24 : Int))))).bind fun (x6 : Bool) => (bif x6 then (some ((1 : Int), ((0 : Int), (3 : Int)))) else (((bursarref16_in.f (a, ((68 : Int), (70 : Int))))).bind fun (x7 : Bool) => (bif x7 then (some ((1 : Int), ((0 : Int), (3 : Int)))) else (bif (a == (25 : Int)) then (some ((1 : Int), ((0 : Int), (2 : Int)))) else (bif (a == (26 : Int)) then (some ((1 : Int), ((0 : Int), (2 : Int)))) else (bif (a == (67 : Int)) then (some ((1 : Int), ((0 : Int), (2 : Int)))) else (bif (a == (27 : Int)) then (some ((1 : Int), ((0 : Int), (1 : Int)))) else (bif (a == (66 : Int)) then (some ((1 : Int), ((0 : Int), (1 : Int)))) else (((bursarref16_in.f (a, ((28 : Int), (31 : Int))))).bind fun (x8 : Bool) => (bif x8 then (some ((2 : Int), ((0 : Int), (9 : Int)))) else (bif (a == (32 : Int)) then (some ((1 : Int), ((2 : Int), (11 : Int)))) else (bif (a == (33 : Int)) then (some ((1 : Int), ((2 : Int), (11 : Int)))) else (bif (a == (99 : Int)) then (some ((1 : Int), ((2 : Int), (11 : Int)))) else (bif (a == (100 : Int)) then (some ((1 : Int), ((2 : Int), (11 : Int)))) else (bif (a == (34 : Int)) then (some ((2 : Int), ((2 : Int), (28 : Int)))) else (bif (a == (35 : Int)) then (some ((3 : Int), ((2 : Int), (37 : Int)))) else (bif (a == (36 : Int)) then (some ((3 : Int), ((3 : Int), (104 : Int)))) else (bif (a == (37 : Int)) then (some ((2 : Int), ((0 : Int), (12 : Int)))) else (bif (a == (38 : Int)) then (some ((2 : Int), ((0 : Int), (6 : Int)))) else (bif (a == (39 : Int)) then (some ((2 : Int), ((0 : Int), (2 : Int)))) else (bif (a == (92 : Int)) then (some ((2 : Int), ((0 : Int), (2 : Int)))) else (bif (a == (40 : Int)) then (some ((2 : Int), ((0 : Int), (3 : Int)))) else (((bursarref16_in.f (a, ((49 : Int), (51 : Int))))).bind fun (x9 : Bool) => (bif x9 then (some ((2 : Int), ((0 : Int), (3 : Int)))) else (bif (a == (41 : Int)) then (some ((3 : Int), ((0 : Int), (8 : Int)))) else (bif (a == (42 : Int)) then (some ((3 : Int), ((0 : Int), (15 : Int)))) else (bif (a == (43 : Int)) then (some ((3 : Int), ((0 : Int), (40 : Int)))) else (bif (a == (44 : Int)) then (some ((3 : Int), ((2 : Int), (25 : Int)))) else (bif (a == (45 : Int)) then (some ((3 : Int), ((2 : Int), (76 : Int)))) else (((bursarref16_in.f (a, ((46 : Int), (48 : Int))))).bind fun (x10 : Bool) => (bif x10 then (some ((3 : Int), ((3 : Int), (999 : Int)))) else (((bursarref16_in.f (a, ((55 : Int), (63 : Int))))).bind fun (x11 : Bool) => (bif x11 then (some ((3 : Int), ((3 : Int), (999 : Int)))) else (((bursarref16_in.f (a, ((105 : Int), (127 : Int))))).bind fun (x12 : Bool) => (bif x12 then (some ((3 : Int), ((3 : Int), (999 : Int)))) else (bif (a == (52 : Int)) then (some ((4 : Int), ((0 : Int), (8 : Int)))) else (bif (a == (64 : Int)) then (some ((4 : Int), ((0 : Int), (8 : Int)))) else (bif (a == (96 : Int)) then (some ((4 : Int), ((0 : Int), (8 : Int)))) else (bif (a == (128 : Int)) then (some ((4 : Int), ((0 : Int), (8 : Int)))) else (bif (a == (53 : Int)) then (some ((1 : Int), ((0 : Int), (16 : Int)))) else (((bursarref16_in.f (a, ((86 : Int), (89 : Int))))).bind fun (x13 : Bool) => (bif x13 then (some ((1 : Int), ((0 : Int), (16 : Int)))) else (bif (a == (54 : Int)) then (some ((2 : Int), ((3 : Int), (120 : Int)))) else (bif (a == (90 : Int)) then (some ((1 : Int), ((0 : Int), (42 : Int)))) else (bif (a == (91 : Int)) then (some ((2 : Int), ((0 : Int), (1 : Int)))) else (bif (a == (93 : Int)) then (some ((2 : Int), ((0 : Int), (5 : Int)))) else (bif (a == (94 : Int)) then (some ((2 : Int), ((0 : Int), (7 : Int)))) else (bif (a == (95 : Int)) then (some ((2 : Int), ((0 : Int), (42 : Int)))) else (bif (a == (97 : Int)) then (some ((2 : Int), ((0 : Int), (17 : Int)))) else (bif (a == (98 : Int)) then (some ((3 : Int), ((0 : Int), (25 : Int)))) else (bif (a == (101 : Int)) then (some ((3 : Int), ((2 : Int), (17 : Int)))) else (bif (a == (102 : Int)) then (some ((3 : Int), ((2 : Int), (28 : Int)))) else (bif (a == (103 : Int)) then (some ((3 : Int), ((2 : Int), (28 : Int)))) else (bif (a == (104 : Int)) then (some ((3 : Int), ((3 : Int), (100 : Int)))) else (some ((0 : Int), ((0 : Int), (0 : Int)))))))))))))))))))))))))))))))))))))))))))))))))))))))))))))))))))))))))))))
theorem bursarref16_Of.ok : ∀ a : Vals bursarref16_Of.As.tys, fnK P bursarref16_Of.H (lp []) 89 bursarref16_Of.As bursarref16_Of.m a some = bursarref16_Of.f a := fun a => by kernel_rfl
noncomputable abbrev bursarref16_Of.row : Row := fnRow 89 bursarref16_Of.As bursarref16_Of.m bursarref16_Of.f
theorem bursarref16_Of.row_ok : RowOK P G0 bursarref16_Of.row := row_told bursarref16_Of.hok (lp_of (l := []) trivial) (fun _ => rfl) bursarref16_Of.ok
end Go.Proofs.YtkgnhjmbnmaboaaGreatDoor
end
section
/- The Go function bursarref16.pure, as a Lean function, and that it is this one. Written by a program of this session. -/
set_option linter.unusedVariables false
set_option maxRecDepth 100000
namespace Go.Proofs.YtkgnhjmbnmaboaaGreatDoor
open Go Go.Fw
abbrev bursarref16_pure.As : Shs := (.cons (.x (.i .i64)) (.cons (.x .s) .nil))
abbrev bursarref16_pure.m : Back := [(false, .b)]
noncomputable abbrev bursarref16_pure.H : HK := hk P G0 E0 J0 [] noLoops 4
theorem bursarref16_pure.rows : TabOK P G0 (tabF []) := rows_ok (ws := []) trivial
theorem bursarref16_pure.hok : HKOK P bursarref16_pure.H := hk_ok e0_ok j0_ok bursarref16_pure.rows (fun g n => noLoops_ok g n) 4
noncomputable abbrev bursarref16_pure.sh3 : SSh := ⟨[(0, (.x (.i .i64))), (1, (.x .s)), (5, (.x (.i .i64)))], []⟩
noncomputable abbrev bursarref16_pure.sh3_4 : SSh := ⟨[(0, (.x (.i .i64))), (1, (.x .s)), (5, (.x (.i .i64))), (6, (.x (.i .u8)))], []⟩
noncomputable abbrev bursarref16_pure.os3_4 : PEnds := [(.n, ⟨[(0, (.x (.i .i64))), (1, (.x .s)), (5, (.x (.i .i64))), (6, (.x (.i .u8))), (7, (.x .b))], []⟩)]
noncomputable def bursarref16_pure.l3_4 (s : (Int × (ByteArray × (Int × Int)))) : Option ((Int × (ByteArray × (Int × (Int × Bool))))) := (bif (decide (((48 : Int) ≤ s.2.2.2))) then (some (s.1, (s.2.1, (s.2.2.1, (s.2.2.2, (decide ((s.2.2.2 ≤ (57 : Int))))))))) else (some (s.1, (s.2.1, (s.2.2.1, (s.2.2.2, false))))))
theorem bursarref16_pure.l3_4_ok : ∀ s : Vals bursarref16_pure.sh3_4.tys, nodeK P bursarref16_pure.H (lp []) (placeAt (bodyAt (codeOf P 139) 3) 4) 0 bursarref16_pure.sh3_4 bursarref16_pure.os3_4 s some = bursarref16_pure.l3_4 s := fun s => by kernel_rfl
noncomputable abbrev bursarref16_pure.sh3_5 : SSh := ⟨[(0, (.x (.i .i64))), (1, (.x .s)), (5, (.x (.i .i64))), (6, (.x (.i .u8))), (7, (.x .b))], []⟩
noncomputable abbrev bursarref16_pure.os3_5 : PEnds := [(.n, ⟨[(0, (.x (.i .i64))), (1, (.x .s)), (5, (.x (.i .i64))), (6, (.x (.i .u8))), (7, (.x .b)), (8, (.x .b))], []⟩)]
noncomputable def bursarref16_pure.l3_5 (s : (Int × (ByteArray × (Int × (Int × Bool))))) : Option ((Int × (ByteArray × (Int × (Int × (Bool × Bool)))))) := (bif (decide (((65 : Int) ≤ s.2.2.2.1))) then (bif (decide ((s.2.2.2.1 ≤ (90 : Int)))) then (some (s.1, (s.2.1, (s.2.2.1, (s.2.2.2.1, (s.2.2.2.2, true)))))) else (bif (decide (((97 : Int) ≤ s.2.2.2.1))) then (bif (decide ((s.2.2.2.1 ≤ (122 : Int)))) then (some (s.1, (s.2.1, (s.2.2.1, (s.2.2.2.1, (s.2.2.2.2, true)))))) else (some (s.1, (s.2.1, (s.2.2.1, (s.2.2.2.1, (s.2.2.2.2, (s.2.2.2.1 == (32 : Int))))))))) else (some (s.1, (s.2.1, (s.2.2.1, (s.2.2.2.1, (s.2.2.2.2, (s.2.2.2.1 == (32 : Int)))))))))) else (bif (decide (((97 : Int) ≤ s.2.2.2.1))) then (bif (decide ((s.2.2.2.1 ≤ (122 : Int)))) then (some (s.1, (s.2.1, (s.2.2.1, (s.2.2.2.1, (s.2.2.2.2, true)))))) else (some (s.1, (s.2.1, (s.2.2.1, (s.2.2.2.1, (s.2.2.2.2, (s.2.2.2.1 == (32 : Int))))))))) else (some (s.1, (s.2.1, (s.2.2.1, (s.2.2.2.1, (s.2.2.2.2, (s.2.2.2.1 == (32 : Int))))))))))
theorem bursarref16_pure.l3_5_ok : ∀ s : Vals bursarref16_pure.sh3_5.tys, nodeK P bursarref16_pure.H (lp []) (placeAt (bodyAt (codeOf P 139) 3) 5) 0 bursarref16_pure.sh3_5 bursarref16_pure.os3_5 s some = bursarref16_pure.l3_5 s := fun s => by kernel_rfl
noncomputable abbrev bursarref16_pure.sh3_6 : SSh := ⟨[(0, (.x (.i .i64))), (1, (.x .s)), (5, (.x (.i .i64))), (6, (.x (.i .u8))), (7, (.x .b)), (8, (.x .b))], []⟩
noncomputable abbrev bursarref16_pure.os3_6 : PEnds := [(.n, ⟨[(0, (.x (.i .i64))), (1, (.x .s)), (5, (.x (.i .i64))), (7, (.x .b)), (8, (.x .b)), (9, (.x .b))], []⟩)]
noncomputable def bursarref16_pure.l3_6 (s : (Int × (ByteArray × (Int × (Int × (Bool × Bool)))))) : Option ((Int × (ByteArray × (Int × (Bool × (Bool × Bool)))))) := (bif (decide (((32 : Int) ≤ s.2.2.2.1))) then (some (s.1, (s.2.1, (s.2.2.1, (s.2.2.2.2.1, (s.2.2.2.2.2, (decide ((s.2.2.2.1 ≤ (126 : Int)))))))))) else (some (s.1, (s.2.1, (s.2.2.1, (s.2.2.2.2.1, (s.2.2.2.2.2, false)))))))
theorem bursarref16_pure.l3_6_ok : ∀ s : Vals bursarref16_pure.sh3_6.tys, nodeK P bursarref16_pure.H (lp []) (placeAt (bodyAt (codeOf P 139) 3) 6) 0 bursarref16_pure.sh3_6 bursarref16_pure.os3_6 s some = bursarref16_pure.l3_6 s := fun s => by kernel_rfl
noncomputable abbrev bursarref16_pure.sh3_7 : SSh := ⟨[(0, (.x (.i .i64))), (1, (.x .s)), (5, (.x (.i .i64))), (7, (.x .b)), (8, (.x .b)), (9, (.x .b))], []⟩
noncomputable abbrev bursarref16_pure.os3_7 : PEnds := [(.n, ⟨[(0, (.x (.i .i64))), (1, (.x .s)), (5, (.x (.i .i64))), (74, (.x .b))], []⟩)]
noncomputable def bursarref16_pure.l3_7 (s : (Int × (ByteArray × (Int × (Bool × (Bool × Bool)))))) : Option ((Int × (ByteArray × (Int × Bool)))) := (bif (s.1 == (1 : Int)) then (bif (!s.2.2.2.1) then (some (s.1, (s.2.1, (s.2.2.1, true)))) else (bif (s.1 == (2 : Int)) then (bif (!s.2.2.2.1) then (bif (!s.2.2.2.2.1) then (some (s.1, (s.2.1, (s.2.2.1, true)))) else (bif (s.1 == (3 : Int)) then (some (s.1, (s.2.1, (s.2.2.1, (!s.2.2.2.2.2))))) else (some (s.1, (s.2.1, (s.2.2.1, false)))))) else (bif (s.1 == (3 : Int)) then (some (s.1, (s.2.1, (s.2.2.1, (!s.2.2.2.2.2))))) else (some (s.1, (s.2.1, (s.2.2.1, false)))))) else (bif (s.1 == (3 : Int)) then (some (s.1, (s.2.1, (s.2.2.1, (!s.2.2.2.2.2))))) else (some (s.1, (s.2.1, (s.2.2.1, false))))))) else (bif (s.1 == (2 : Int)) then (bif (!s.2.2.2.1) then (bif (!s.2.2.2.2.1) then (some (s.1, (s.2.1, (s.2.2.1, true)))) else (bif (s.1 == (3 : Int)) then (some (s.1, (s.2.1, (s.2.2.1, (!s.2.2.2.2.2))))) else (some (s.1, (s.2.1, (s.2.2.1, false)))))) else (bif (s.1 == (3 : Int)) then (some (s.1, (s.2.1, (s.2.2.1, (!s.2.2.2.2.2))))) else (some (s.1, (s.2.1, (s.2.2.1, false)))))) else (bif (s.1 == (3 : Int)) then (some (s.1, (s.2.1, (s.2.2.1, (!s.2.2.2.2.2))))) else (some (s.1, (s.2.1, (s.2.2.1, false)))))))
theorem bursarref16_pure.l3_7_ok : ∀ s : Vals bursarref16_pure.sh3_7.tys, nodeK P bursarref16_pure.H (lp []) (placeAt (bodyAt (codeOf P 139) 3) 7) 0 bursarref16_pure.sh3_7 bursarref16_pure.os3_7 s some = bursarref16_pure.l3_7 s := fun s => by kernel_rfl
noncomputable abbrev bursarref16_pure.os3 : PEnds := [(.ret, ⟨[(4, (.x .b))], []⟩), ((.exit 0), ⟨[], []⟩)]
noncomputable def bursarref16_pure.t3 (s : (Int × (ByteArray × Int))) : Option ((Int × (ByteArray × Int)) ⊕ (Bool ⊕ Unit)) := (bif (decide ((s.2.2 < (s.2.1.size : Int)))) then (bif ((decide (((0 : Int) ≤ s.2.2))) && (decide ((s.2.2 < (s.2.1.size : Int))))) then (((bursarref16_pure.l3_4 (s.1, (s.2.1, (s.2.2, (bt s.2.1 (Int.toNat s.2.2))))))).bind fun (x3 : (Int × (ByteArray × (Int × (Int × Bool))))) => (((bursarref16_pure.l3_5 x3)).bind fun (x4 : (Int × (ByteArray × (Int × (Int × (Bool × Bool)))))) => (((bursarref16_pure.l3_6 x4)).bind fun (x5 : (Int × (ByteArray × (Int × (Bool × (Bool × Bool)))))) => (((bursarref16_pure.l3_7 x5)).bind fun (x6 : (Int × (ByteArray × (Int × Bool)))) => (bif x6.2.2.2 then (some (.inr (.inl false))) else (some (.inl (x6.1, (x6.2.1, (IntKind.wrap .i64 (x6.2.2.1 + (1 : Int)))))))))))) else none) else (some (.inr (.inr ()))))
theorem bursarref16_pure.t3_ok : ∀ s : Vals bursarref16_pure.sh3.tys, turnK P bursarref16_pure.H (lp [(4, (NodeT.summ ⟨bursarref16_pure.sh3_4, bursarref16_pure.os3_4, bursarref16_pure.l3_4⟩ 0)), (5, (NodeT.summ ⟨bursarref16_pure.sh3_5, bursarref16_pure.os3_5, bursarref16_pure.l3_5⟩ 0)), (6, (NodeT.summ ⟨bursarref16_pure.sh3_6, bursarref16_pure.os3_6, bursarref16_pure.l3_6⟩ 0)), (7, (NodeT.summ ⟨bursarref16_pure.sh3_7, bursarref16_pure.os3_7, bursarref16_pure.l3_7⟩ 0))]) (bodyAt (codeOf P 139) 3) 0 bursarref16_pure.sh3 bursarref16_pure.os3 s some = bursarref16_pure.t3 s := fun s => by kernel_rfl
noncomputable def bursarref16_pure.l3 : (Int × (ByteArray × Int)) → Option (Bool ⊕ Unit) := rounds bursarref16_pure.t3
noncomputable def bursarref16_pure.f (a : (Int × ByteArray)) : Option Bool := (((bursarref16_pure.l3 (a.1, (a.2, (0 : Int))))).bind fun (x2 : (Bool ⊕ PUnit)) => (match x2 with | .inl x3 => (some x3) | .inr x3 => (some true)))
theorem bursarref16_pure.ok : ∀ a : Vals bursarref16_pure.As.tys, fnK P bursarref16_pure.H (lp [(3, (NodeT.summ ⟨bursarref16_pure.sh3, bursarref16_pure.os3, bursarref16_pure.l3⟩ 0))]) 139 bursarref16_pure.As bursarref16_pure.m a some = bursarref16_pure.f a := fun a => by kernel_rfl
noncomputable abbrev bursarref16_pure.row : Row := fnRow 139 bursarref16_pure.As bursarref16_pure.m bursarref16_pure.f
theorem bursarref16_pure.row_ok : RowOK P G0 bursarref16_pure.row := row_told bursarref16_pure.hok (lp_of (l := [(3, (NodeT.summ ⟨bursarref16_pure.sh3, bursarref16_pure.os3, bursarref16_pure.l3⟩ 0))]) ⟨(loop_sum bursarref16_pure.hok (by kernel_rfl) (by kernel_rfl) (l := [(4, (NodeT.summ ⟨bursarref16_pure.sh3_4, bursarref16_pure.os3_4, bursarref16_pure.l3_4⟩ 0)), (5, (NodeT.summ ⟨bursarref16_pure.sh3_5, bursarref16_pure.os3_5, bursarref16_pure.l3_5⟩ 0)), (6, (NodeT.summ ⟨bursarref16_pure.sh3_6, bursarref16_pure.os3_6, bursarref16_pure.l3_6⟩ 0)), (7, (NodeT.summ ⟨bursarref16_pure.sh3_7, bursarref16_pure.os3_7, bursarref16_pure.l3_7⟩ 0))]) ⟨(place_sum bursarref16_pure.hok (by kernel_rfl) (l := []) trivial bursarref16_pure.sh3_4 bursarref16_pure.os3_4 bursarref16_pure.l3_4 bursarref16_pure.l3_4_ok), ⟨(place_sum bursarref16_pure.hok (by kernel_rfl) (l := []) trivial bursarref16_pure.sh3_5 bursarref16_pure.os3_5 bursarref16_pure.l3_5 bursarref16_pure.l3_5_ok), ⟨(place_sum bursarref16_pure.hok (by kernel_rfl) (l := []) trivial bursarref16_pure.sh3_6 bursarref16_pure.os3_6 bursarref16_pure.l3_6 bursarref16_pure.l3_6_ok), ⟨(place_sum bursarref16_pure.hok (by kernel_rfl) (l := []) trivial bursarref16_pure.sh3_7 bursarref16_pure.os3_7 bursarref16_pure.l3_7 bursarref16_pure.l3_7_ok), trivial⟩⟩⟩⟩ bursarref16_pure.sh3 bursarref16_pure.os3 (by kernel_rfl) bursarref16_pure.t3 bursarref16_pure.t3_ok), trivial⟩) (fun _ => rfl) bursarref16_pure.ok
end Go.Proofs.YtkgnhjmbnmaboaaGreatDoor
end
section
/- What fields are, and of which octets: plain laws. By this session. -/
set_option linter.unusedVariables false
set_option linter.unusedSimpArgs false
namespace Go.Proofs.YtkgnhjmbnmaboaaGreatDoor
open Go Go.Fw
/-! ### the table -/
def okSpec (k v l : Int) : Bool := (decide (k = 0) && (decide (v = 0) && decide (l = 0))) || (decide (1 ≤ k) && (decide (k ≤ 4) && ((decide (v = 0) || (decide (v = 2) && decide (l ≤ 99)) || decide (v = 3)) && (decide (1 ≤ l) && decide (l ≤ 999)))))
noncomputable def tabCheck (n : Nat) : Bool := match bursarref16_Of.f (n : Int), spec_Of.f (n : Int) with
  | some (k, v, l), some ((k', v', l'), e) => (decide (k = k') && (decide (v = v') && decide (l = l'))) && (decide (e = bif decide (k = 0) then 7 else 0) && okSpec k v l)
  | _, _ => false
theorem tab_all : (List.range 129).all tabCheck = true := by kernel_rfl
theorem of_out {n : Int} (h : ¬ (0 ≤ n ∧ n ≤ 128)) : bursarref16_Of.f n = some (0, 0, 0) ∧ spec_Of.f n = some ((0, 0, 0), 7) := by
  constructor
  · have e : ∀ k : Int, 0 ≤ k → k ≤ 128 → (n == k) = false := fun k h0 h1 => by rw [beq_eq_false_iff_ne]; omega
    have i : ∀ lo hi : Int, 0 ≤ lo → hi ≤ 128 → bursarref16_in.f (n, lo, hi) = some false := fun lo hi h0 h1 => by
      unfold bursarref16_in.f
      by_cases hl : lo ≤ n
      · have : ¬ n ≤ hi := by omega
        simp [hl, this]
      · simp [hl]
    unfold bursarref16_Of.f
    simp [e, i]
  · unfold spec_Of.f
    by_cases h0 : n < 0
    · simp [h0]
    · have h1 : n > 128 := by omega
      simp [h0, h1]
theorem of_is (n : Int) : ∃ k v l : Int, bursarref16_Of.f n = some (k, v, l) ∧ spec_Of.f n = some ((k, v, l), bif decide (k = 0) then 7 else 0) ∧ okSpec k v l = true := by
  by_cases h : 0 ≤ n ∧ n ≤ 128
  · have := List.all_eq_true.1 tab_all n.toNat (List.mem_range.2 (by omega))
    unfold tabCheck at this
    rw [show ((n.toNat : Nat) : Int) = n by omega] at this
    split at this
    · rename_i k v l k' v' l' e h1 h2
      simp only [Bool.and_eq_true, decide_eq_true_eq] at this
      obtain ⟨⟨rfl, rfl, rfl⟩, rfl, h3⟩ := this
      exact ⟨k, v, l, h1, h2, h3⟩
    · cases this
  · obtain ⟨h1, h2⟩ := of_out h
    exact ⟨0, 0, 0, h1, h2, rfl⟩
/-! ### octets of a kind -/
def okN (c : UInt8) : Bool := decide (48 ≤ c.toNat) && decide (c.toNat ≤ 57)
def okA (c : UInt8) : Bool := okN c || (decide (65 ≤ c.toNat) && decide (c.toNat ≤ 90)) || (decide (97 ≤ c.toNat) && decide (c.toNat ≤ 122)) || decide (c.toNat = 32)
def okS (c : UInt8) : Bool := decide (32 ≤ c.toNat) && decide (c.toNat ≤ 126)
def okC (k : Int) (c : UInt8) : Bool := bif k == 1 then okN c else bif k == 2 then okA c else bif k == 3 then okS c else true
theorem or32 : (List.range 256).all (fun c => (decide (97 ≤ bitsOp .or .u8 (c : Int) 32) && decide (bitsOp .or .u8 (c : Int) 32 ≤ 122)) == ((decide (65 ≤ c) && decide (c ≤ 90)) || (decide (97 ≤ c) && decide (c ≤ 122)))) = true := by kernel_rfl
theorem or32_is (c : UInt8) : (decide (97 ≤ bitsOp .or .u8 (c.toNat : Int) 32) && decide (bitsOp .or .u8 (c.toNat : Int) 32 ≤ 122)) = ((decide (65 ≤ c.toNat) && decide (c.toNat ≤ 90)) || (decide (97 ≤ c.toNat) && decide (c.toNat ≤ 122))) := by
  have := List.all_eq_true.1 or32 c.toNat (List.mem_range.2 c.toNat_lt)
  exact eq_of_beq this
/-- rounds over a text, while each octet is right -/
theorem text_rounds {S R : Type} {t : S → Option (S ⊕ R)} (st : Nat → S) (s : ByteArray) (ok : UInt8 → Bool) (out fin : R)
    (h : ∀ i, i < s.size → t (st i) = some (bif ok (s.data.toList.getD i 0) then .inl (st (i + 1)) else .inr out)) (hf : t (st s.size) = some (.inr fin)) : rounds t (st 0) = some (bif s.data.toList.all ok then fin else out) := by
  have := rounds_all st (fun i => ok (s.data.toList.getD i 0)) out fin s.size h hf
  rw [this]
  have e := range_all ok 0 s.data.toList
  rw [show s.data.toList.length = s.size from rfl] at e
  rw [e]
theorem ge0 (i : Nat) : decide ((0 : Int) ≤ (i : Int)) = true := by simp
theorem pure_is {k v l : Int} {s : ByteArray} (hk : 1 ≤ k ∧ k ≤ 4) (hs : s.size < 9223372036854775807) : spec_pure.f ((k, v, l), s) = some (s.data.toList.all (okC k)) := by
  have hk : k = 1 ∨ k = 2 ∨ k = 3 ∨ k = 4 := by omega
  have lt : ∀ i, i < s.size → decide ((i : Int) < (s.size : Int)) = true := fun i hi => by simp only [decide_eq_true_eq]; omega
  have end' : decide ((s.size : Int) < (s.size : Int)) = false := by simp
  rcases hk with rfl | rfl | rfl | rfl
  · have hl : spec_pure.l4b (s, (s.size : Int), 0) = some (bif s.data.toList.all (okC 1) then .inr () else .inl false) := by
      refine text_rounds (t := spec_pure.t4b) (fun i => (s, (s.size : Int), (i : Int))) s (okC 1) (.inl false) (.inr ()) (fun i hi => ?_) ?_
      · simp only [spec_pure.t4b, lt i hi, ge0 i, Bool.true_and, Bool.and_true, Bool.and_self, cond_true, Int.toNat_natCast, wrap_up (show i < 9223372036854775807 by omega), bt]
        obtain ⟨c, hc⟩ : ∃ c, s.data.toList.getD i 0 = c := ⟨_, rfl⟩
        have e1 : decide ((c.toNat : Int) ≥ 48) = decide (48 ≤ c.toNat) := by rw [Bool.eq_iff_iff]; simp; omega
        have e2 : decide ((c.toNat : Int) ≤ 57) = decide (c.toNat ≤ 57) := by rw [Bool.eq_iff_iff]; simp; omega
        simp only [hc, okC, okN, e1, e2]
        cases decide (48 ≤ c.toNat) <;> cases decide (c.toNat ≤ 57) <;> rfl
      · simp [spec_pure.t4b]
    unfold spec_pure.f
    simp only [hl, show ((1 : Int) == 0) = false from rfl, show ((1 : Int) == 1) = true from rfl, cond_true, cond_false, Option.bind_some]
    cases s.data.toList.all (okC 1) <;> rfl
  · have hl : spec_pure.l4c (s, (s.size : Int), 0) = some (bif s.data.toList.all (okC 2) then .inr () else .inl false) := by
      refine text_rounds (t := spec_pure.t4c) (fun i => (s, (s.size : Int), (i : Int))) s (okC 2) (.inl false) (.inr ()) (fun i hi => ?_) ?_
      · simp only [spec_pure.t4c, lt i hi, ge0 i, Bool.true_and, Bool.and_true, Bool.and_self, cond_true, Int.toNat_natCast, wrap_up (show i < 9223372036854775807 by omega), bt]
        obtain ⟨c, hc⟩ : ∃ c, s.data.toList.getD i 0 = c := ⟨_, rfl⟩
        have h32 := or32_is c
        simp only [hc, okC, okA, okN, ge_iff_le, show ((2 : Int) == 1) = false from rfl, show ((2 : Int) == 2) = true from rfl, cond_true, cond_false]
        have e0 : ((c.toNat : Int) == 32) = decide (c.toNat = 32) := by rw [Bool.eq_iff_iff]; simp; omega
        have e1 : decide ((48 : Int) ≤ (c.toNat : Int)) = decide (48 ≤ c.toNat) := by rw [Bool.eq_iff_iff]; simp; omega
        have e2 : decide ((c.toNat : Int) ≤ 57) = decide (c.toNat ≤ 57) := by rw [Bool.eq_iff_iff]; simp; omega
        rw [e0, e1, e2]
        obtain ⟨a, ha⟩ : ∃ a, decide (48 ≤ c.toNat) = a := ⟨_, rfl⟩
        obtain ⟨b, hb⟩ : ∃ a, decide (c.toNat ≤ 57) = a := ⟨_, rfl⟩
        obtain ⟨d, hd⟩ : ∃ a, decide (c.toNat = 32) = a := ⟨_, rfl⟩
        obtain ⟨x, hx⟩ : ∃ a, decide (97 ≤ bitsOp .or .u8 (c.toNat : Int) 32) = a := ⟨_, rfl⟩
        obtain ⟨y, hy⟩ : ∃ a, decide (bitsOp .or .u8 (c.toNat : Int) 32 ≤ 122) = a := ⟨_, rfl⟩
        rw [hx, hy] at h32
        rw [ha, hb, hd, hx, hy, Bool.or_assoc (a && b), ← h32]
        cases a <;> cases b <;> cases d <;> cases x <;> cases y <;> rfl
      · simp [spec_pure.t4c]
    unfold spec_pure.f
    simp only [hl, show ((2 : Int) == 0) = false from rfl, show ((2 : Int) == 1) = false from rfl, show ((2 : Int) == 2) = true from rfl, cond_true, cond_false, Option.bind_some]
    cases s.data.toList.all (okC 2) <;> rfl
  · have hl : spec_pure.l4d (s, (s.size : Int), 0) = some (bif s.data.toList.all (okC 3) then .inr () else .inl false) := by
      refine text_rounds (t := spec_pure.t4d) (fun i => (s, (s.size : Int), (i : Int))) s (okC 3) (.inl false) (.inr ()) (fun i hi => ?_) ?_
      · simp only [spec_pure.t4d, lt i hi, ge0 i, Bool.true_and, Bool.and_true, Bool.and_self, cond_true, Int.toNat_natCast, wrap_up (show i < 9223372036854775807 by omega), bt]
        obtain ⟨c, hc⟩ : ∃ c, s.data.toList.getD i 0 = c := ⟨_, rfl⟩
        have e1 : decide ((c.toNat : Int) ≥ 32) = decide (32 ≤ c.toNat) := by rw [Bool.eq_iff_iff]; simp; omega
        have e2 : decide ((c.toNat : Int) ≤ 126) = decide (c.toNat ≤ 126) := by rw [Bool.eq_iff_iff]; simp; omega
        simp only [hc, okC, okS, e1, e2]
        cases decide (32 ≤ c.toNat) <;> cases decide (c.toNat ≤ 126) <;> rfl
      · simp [spec_pure.t4d]
    unfold spec_pure.f
    simp only [hl, show ((3 : Int) == 0) = false from rfl, show ((3 : Int) == 1) = false from rfl, show ((3 : Int) == 2) = false from rfl, show ((3 : Int) == 3) = true from rfl, cond_true, cond_false, Option.bind_some]
    cases s.data.toList.all (okC 3) <;> rfl
  · have hl : spec_pure.l4e (s, (s.size : Int), 0) = some () := by
      have := rounds_to (t := spec_pure.t4e) (fun i => (s, (s.size : Int), (i : Int))) s.size fun i hi => by
        simp only [spec_pure.t4e, lt i hi, ge0 i, Bool.true_and, Bool.and_true, Bool.and_self, cond_true, wrap_up (show i < 9223372036854775807 by omega)]
      show rounds spec_pure.t4e _ = _
      refine this.trans (rounds_end ?_)
      simp [spec_pure.t4e]
    unfold spec_pure.f
    simp only [hl, show ((4 : Int) == 0) = false from rfl, show ((4 : Int) == 1) = false from rfl, show ((4 : Int) == 2) = false from rfl, show ((4 : Int) == 3) = false from rfl, show ((4 : Int) == 4) = true from rfl, cond_true, cond_false, Option.bind_some]
    have : s.data.toList.all (okC 4) = true := by rw [List.all_eq_true]; intro x _; rfl
    rw [this]
theorem rp4 (k : Int) (s : ByteArray) (i n : Int) : bursarref16_pure.l3_4 (k, s, i, n) = some (k, s, i, n, decide (48 ≤ n) && decide (n ≤ 57)) := by
  simp only [bursarref16_pure.l3_4]
  cases decide (48 ≤ n) <;> rfl
theorem rp5 (k : Int) (s : ByteArray) (i n : Int) (b : Bool) : bursarref16_pure.l3_5 (k, s, i, n, b) = some (k, s, i, n, b, (decide (65 ≤ n) && decide (n ≤ 90)) || (decide (97 ≤ n) && decide (n ≤ 122)) || n == 32) := by
  simp only [bursarref16_pure.l3_5]
  cases decide (65 ≤ n) <;> cases decide (n ≤ 90) <;> cases decide (97 ≤ n) <;> cases decide (n ≤ 122) <;> rfl
theorem rp6 (k : Int) (s : ByteArray) (i n : Int) (b d : Bool) : bursarref16_pure.l3_6 (k, s, i, n, b, d) = some (k, s, i, b, d, decide (32 ≤ n) && decide (n ≤ 126)) := by
  simp only [bursarref16_pure.l3_6]
  cases decide (32 ≤ n) <;> rfl
theorem rp7 (k : Int) (s : ByteArray) (i : Int) (b d e : Bool) (hk : 1 ≤ k ∧ k ≤ 4) : bursarref16_pure.l3_7 (k, s, i, b, d, e) = some (k, s, i, !(bif k == 1 then b else bif k == 2 then b || d else bif k == 3 then e else true)) := by
  have hk : k = 1 ∨ k = 2 ∨ k = 3 ∨ k = 4 := by omega
  simp only [bursarref16_pure.l3_7]
  rcases hk with rfl | rfl | rfl | rfl <;> cases b <;> cases d <;> cases e <;> rfl
theorem okC_bt (k : Int) (c : UInt8) : okC k c = (bif k == 1 then decide ((48 : Int) ≤ (c.toNat : Int)) && decide ((c.toNat : Int) ≤ 57) else bif k == 2 then (decide ((48 : Int) ≤ (c.toNat : Int)) && decide ((c.toNat : Int) ≤ 57)) || ((decide ((65 : Int) ≤ (c.toNat : Int)) && decide ((c.toNat : Int) ≤ 90)) || (decide ((97 : Int) ≤ (c.toNat : Int)) && decide ((c.toNat : Int) ≤ 122)) || ((c.toNat : Int) == 32)) else bif k == 3 then decide ((32 : Int) ≤ (c.toNat : Int)) && decide ((c.toNat : Int) ≤ 126) else true) := by
  have e : ∀ a b : Nat, decide ((a : Int) ≤ (b : Int)) = decide (a ≤ b) := fun a b => by rw [Bool.eq_iff_iff]; simp
  have e0 : ((c.toNat : Int) == 32) = decide (c.toNat = 32) := by rw [Bool.eq_iff_iff]; simp; omega
  have e1 := e 48 c.toNat; have e2 := e c.toNat 57; have e3 := e 65 c.toNat; have e4 := e c.toNat 90; have e5 := e 97 c.toNat; have e6 := e c.toNat 122; have e7 := e 32 c.toNat; have e8 := e c.toNat 126
  simp only [Int.cast_ofNat_Int] at e1 e2 e3 e4 e5 e6 e7 e8
  simp only [okC, okA, okN, okS, e0, e1, e2, e3, e4, e5, e6, e7, e8, Bool.or_assoc]
theorem refpure_is {k : Int} {s : ByteArray} (hk : 1 ≤ k ∧ k ≤ 4) (hs : s.size < 9223372036854775807) : bursarref16_pure.f (k, s) = some (s.data.toList.all (okC k)) := by
  have lt : ∀ i, i < s.size → decide ((i : Int) < (s.size : Int)) = true := fun i hi => by simp only [decide_eq_true_eq]; omega
  have hl : bursarref16_pure.l3 (k, s, 0) = some (bif s.data.toList.all (okC k) then .inr () else .inl false) := by
    refine text_rounds (t := bursarref16_pure.t3) (fun i => (k, s, (i : Int))) s (okC k) (.inl false) (.inr ()) (fun i hi => ?_) ?_
    · simp only [bursarref16_pure.t3, lt i hi, ge0 i, Bool.true_and, Bool.and_true, Bool.and_self, cond_true, Int.toNat_natCast, wrap_up (show i < 9223372036854775807 by omega), bt, rp4, rp5, rp6, rp7 _ _ _ _ _ _ hk, Option.bind_some, okC_bt]
      obtain ⟨b, hb⟩ : ∃ b, (bif k == 1 then decide ((48 : Int) ≤ ((s.data.toList.getD i 0).toNat : Int)) && decide (((s.data.toList.getD i 0).toNat : Int) ≤ 57) else bif k == 2 then (decide ((48 : Int) ≤ ((s.data.toList.getD i 0).toNat : Int)) && decide (((s.data.toList.getD i 0).toNat : Int) ≤ 57)) || ((decide ((65 : Int) ≤ ((s.data.toList.getD i 0).toNat : Int)) && decide (((s.data.toList.getD i 0).toNat : Int) ≤ 90)) || (decide ((97 : Int) ≤ ((s.data.toList.getD i 0).toNat : Int)) && decide (((s.data.toList.getD i 0).toNat : Int) ≤ 122)) || (((s.data.toList.getD i 0).toNat : Int) == 32)) else bif k == 3 then decide ((32 : Int) ≤ ((s.data.toList.getD i 0).toNat : Int)) && decide (((s.data.toList.getD i 0).toNat : Int) ≤ 126) else true) = b := ⟨_, rfl⟩
      rw [hb]
      cases b <;> rfl
    · simp [bursarref16_pure.t3]
  unfold bursarref16_pure.f
  simp only [hl, Option.bind_some]
  cases s.data.toList.all (okC k) <;> rfl
end Go.Proofs.YtkgnhjmbnmaboaaGreatDoor
end
section
/- The Go function spec.Valid, as a Lean function, and that it is this one. Written by a program of this session. -/
set_option linter.unusedVariables false
set_option maxRecDepth 100000
namespace Go.Proofs.YtkgnhjmbnmaboaaGreatDoor
open Go Go.Fw
abbrev spec_Valid.As : Shs := (.cons (.x (.i .i64)) (.cons (.x .s) .nil))
abbrev spec_Valid.m : Back := [(false, .b)]
noncomputable abbrev spec_Valid.H : HK := hk P G1 E0 J0 [spec_Of.row, spec_pure.row] noLoops 4
theorem spec_Valid.rows : TabOK P G1 (tabF [spec_Of.row, spec_pure.row]) := rows_ok (ws := [spec_Of.row, spec_pure.row]) ⟨spec_Of.row_ok, ⟨(spec_pure.row_ok.more g01), trivial⟩⟩
theorem spec_Valid.hok : HKOK P spec_Valid.H := hk_ok e0_ok j0_ok spec_Valid.rows (fun g n => noLoops_ok g n) 4
noncomputable def spec_Valid.f (a : (Int × ByteArray)) : Option Bool := (((spec_Of.f a.1)).bind fun (x2 : ((Int × (Int × Int)) × Int)) => (bif ((a.2.size : Int) == x2.1.2.2) then (bif (x2.2 == (0 : Int)) then (((spec_pure.f (x2.1, a.2))).bind fun (x3 : Bool) => (some x3)) else (some false)) else (bif (decide ((x2.1.2.1 > (0 : Int)))) then (bif (x2.2 == (0 : Int)) then (bif (decide (((a.2.size : Int) < x2.1.2.2))) then (((spec_pure.f (x2.1, a.2))).bind fun (x3 : Bool) => (some x3)) else (some false)) else (some false)) else (bif (x2.2 == (0 : Int)) then (some false) else (some false)))))
theorem spec_Valid.ok : ∀ a : Vals spec_Valid.As.tys, fnK P spec_Valid.H (lp []) 137 spec_Valid.As spec_Valid.m a some = spec_Valid.f a := fun a => by kernel_rfl
noncomputable abbrev spec_Valid.row : Row := fnRow 137 spec_Valid.As spec_Valid.m spec_Valid.f
theorem spec_Valid.row_ok : RowOK P G1 spec_Valid.row := row_told spec_Valid.hok (lp_of (l := []) trivial) (fun _ => rfl) spec_Valid.ok
end Go.Proofs.YtkgnhjmbnmaboaaGreatDoor
end
section
/- Contracts of the library at this program, in plain words. Written by a tool of the kit.
-/
namespace Go.Proofs
open Go.Shelf
def Tryz.laysM171_ren : Go.Shelf.Ren := ⟨fun | 171 => 75 | 243 => 120 | 246 => 160 | 283 => 197 | 284 => 198 | 285 => 199 | 286 => 200 | 129 => 221 | 317 => 220 | 318 => 222 | 319 => 223 | 320 => 224 | 337 => 233 | 338 => 234 | n => n, fun | 3 => 3 | 9 => 9 | 2 => 2 | 4 => 4 | 171 => 246 | 0 => 0 | 53 => 114 | 37 => 146 | 5 => 5 | 173 => 249 | 212 => 268 | 51 => 239 | 20 => 20 | 213 => 269 | 46 => 203 | 232 => 293 | 233 => 294 | n => n, fun | 17 => 5 | 18 => 8 | 19 => 9 | n => n⟩
theorem Tryz.laysM171 : Go.Proofs.LaysM.n171 Tryz.prog Tryz.laysM171_ren := {
  mixed := by kernel_rfl
  f129 := Tryz.func221.trans (congrArg some (by kernel_rfl))
  f171 := Tryz.func75.trans (congrArg some (by kernel_rfl))
  f243 := Tryz.func120.trans (congrArg some (by kernel_rfl))
  f246 := Tryz.func160.trans (congrArg some (by kernel_rfl))
  f283 := Tryz.func197.trans (congrArg some (by kernel_rfl))
  f284 := Tryz.func198.trans (congrArg some (by kernel_rfl))
  f285 := Tryz.func199.trans (congrArg some (by kernel_rfl))
  f286 := Tryz.func200.trans (congrArg some (by kernel_rfl))
  f317 := Tryz.func220.trans (congrArg some (by kernel_rfl))
  f318 := Tryz.func222.trans (congrArg some (by kernel_rfl))
  f319 := Tryz.func223.trans (congrArg some (by kernel_rfl))
  f320 := Tryz.func224.trans (congrArg some (by kernel_rfl))
  f337 := Tryz.func233.trans (congrArg some (by kernel_rfl))
  f338 := Tryz.func234.trans (congrArg some (by kernel_rfl))
  t0 := Tryz.underlying0
  a0 := Tryz.isAgg0
  z0 := Tryz.sizeOf0
  v0 := Tryz.zeroValue0
  t2 := Tryz.underlying2
  a2 := Tryz.isAgg2
  z2 := Tryz.sizeOf2
  v2 := Tryz.zeroValue2
  t3 := Tryz.underlying3
  a3 := Tryz.isAgg3
  z3 := Tryz.sizeOf3
  v3 := Tryz.zeroValue3
  t4 := Tryz.underlying4
  a4 := Tryz.isAgg4
  z4 := Tryz.sizeOf4
  v4 := Tryz.zeroValue4
  t5 := Tryz.underlying5
  a5 := Tryz.isAgg5
  z5 := Tryz.sizeOf5
  v5 := Tryz.zeroValue5
  t9 := Tryz.underlying9
  a9 := Tryz.isAgg9
  z9 := Tryz.sizeOf9
  v9 := Tryz.zeroValue9
  t20 := Tryz.underlying20
  a20 := Tryz.isAgg20
  z20 := Tryz.sizeOf20
  v20 := Tryz.zeroValue20
  t37 := Tryz.underlying146
  a37 := Tryz.isAgg146
  z37 := Tryz.sizeOf146
  v37 := Tryz.zeroValue146
  t46 := Tryz.underlying203
  a46 := Tryz.isAgg203
  z46 := Tryz.sizeOf203
  v46 := Tryz.zeroValue203
  t51 := Tryz.underlying239
  a51 := Tryz.isAgg239
  z51 := Tryz.sizeOf239
  v51 := Tryz.zeroValue239
  t53 := Tryz.underlying114
  a53 := Tryz.isAgg114
  z53 := Tryz.sizeOf114
  v53 := Tryz.zeroValue114
  t171 := Tryz.underlying246
  a171 := Tryz.isAgg246
  z171 := Tryz.sizeOf246
  v171 := Tryz.zeroValue246
  t173 := Tryz.underlying249
  a173 := Tryz.isAgg249
  z173 := Tryz.sizeOf249
  v173 := Tryz.zeroValue249
  t212 := Tryz.underlying268
  a212 := Tryz.isAgg268
  z212 := Tryz.sizeOf268
  v212 := Tryz.zeroValue268
  t213 := Tryz.underlying269
  a213 := Tryz.isAgg269
  z213 := Tryz.sizeOf269
  t232 := Tryz.underlying293
  a232 := Tryz.isAgg293
  z232 := Tryz.sizeOf293
  v232 := Tryz.zeroValue293
  t233 := Tryz.underlying294
  a233 := Tryz.isAgg294
  z233 := Tryz.sizeOf294
  v233 := Tryz.zeroValue294
  g17 := by kernel_rfl
  g18 := by kernel_rfl
  g19 := by kernel_rfl
  i0 := by kernel_rfl
  i2 := by kernel_rfl
  i3 := by kernel_rfl
  i4 := by kernel_rfl
  i5 := by kernel_rfl
  i9 := by kernel_rfl
  i20 := by kernel_rfl
  i37 := by kernel_rfl
  i46 := by kernel_rfl
  i51 := by kernel_rfl
  i53 := by kernel_rfl
  i171 := by kernel_rfl
  i173 := by kernel_rfl
  i212 := by kernel_rfl
  i232 := by kernel_rfl
  i233 := by kernel_rfl
  m17 := by kernel_rfl
  m18 := by kernel_rfl
  m19 := by kernel_rfl }
end Go.Proofs
end
section
/- strconv.Itoa, as a row, by the library's contracts. By this session. -/
set_option linter.unusedVariables false
namespace Go.Proofs.YtkgnhjmbnmaboaaGreatDoor
open Go Go.Fw Go.RowKit Go.Shelf
/-- a number's digits, with its sign -/
def itoaI (n : Int) : List UInt8 := bif decide (n < 0) then 45 :: decF 20 n.natAbs else decF 20 n.toNat
abbrev strconv_Itoa.As : Shs := .cons (.x (.i .i64)) .nil
abbrev strconv_Itoa.m : Back := [(false, .s)]
abbrev strconv_Itoa.f (a : Int) : Option ByteArray := bif decide (-9223372036854775808 ≤ a) && decide (a ≤ 9223372036854775807) then some (bs (itoaI a)) else none
noncomputable abbrev strconv_Itoa.row : Row := fnRow 75 strconv_Itoa.As strconv_Itoa.m strconv_Itoa.f
theorem itoaI_is {n : Int} (h0 : -9223372036854775808 ≤ n) (h1 : n ≤ 9223372036854775807) : itoaI n = Lib.itoa n := by
  unfold itoaI Lib.itoa
  rw [decF_is 19 _ (by omega)]
  by_cases h : n < 0
  · simp [h]
  · simp only [h, decide_false, cond_false, if_false]
    exact decF_is 19 _ (by omega)
theorem strconv_Itoa.row_ok : RowOK P G0 strconv_Itoa.row := by
  have key : ∀ (ds : List D) (a : Int) (q : ByteArray), decArgs strconv_Itoa.As ds = some a → strconv_Itoa.f a = some q → Fw.Enters P 75 ∧ PCall P G0 75 ds (.s q) := by
    intro ds a q ha hq
    refine ⟨ent_of Tryz.func75 (by kernel_rfl) (by kernel_rfl), ?_⟩
    have hds := (decArgs_argD ha).symm
    refine PCall.coe (ds' := argD strconv_Itoa.As a) ?_ (by rw [← hds]; exact coeA_len) fun w I f hf => by rw [← hds]; exact coeA_rel hf
    refine pcall_below fun w I K vs hg hsz hr => ?_
    have h0 := hr 0 (.i .i64 a) rfl
    have hvs : vs = #[.int .i64 a] := by
      have hs : vs.size = 1 := hsz
      rw [Array.getD_eq_getD_getElem?, Array.getElem?_eq_getElem (by omega)] at h0
      simp only [Option.getD_some] at h0
      refine Array.ext (by simpa using hs) fun i hi hi' => ?_
      match i, hi with
      | 0, _ => cases h : vs[0] <;> rw [h] at h0 <;> cases h0; rfl
      | i + 1, hi => omega
    subst hvs
    unfold strconv_Itoa.f at hq
    obtain ⟨hb, hq⟩ := cond_some hq
    simp only [Bool.and_eq_true, decide_eq_true_eq] at hb
    injection hq with hq
    subst hq
    refine (Any.strconv_Itoa Tryz.laysM171 a hb.1 hb.2 w (tab_of_glob hg (g := 5) (by kernel_rfl) rfl)).mono ?_
    rintro e w' ⟨rfl, k, os, rfl⟩
    refine ⟨_, rfl, grow_below w k os, ?_⟩
    rw [itoaI_is hb.1 hb.2]
    exact RelD.s _
  exact fun ds a q => key ds a q
end Go.Proofs.YtkgnhjmbnmaboaaGreatDoor
end
section
/- The Go function spec.Pack, as a Lean function, and that it is this one. Written by a program of this session. -/
set_option linter.unusedVariables false
set_option maxRecDepth 100000
namespace Go.Proofs.YtkgnhjmbnmaboaaGreatDoor
open Go Go.Fw
abbrev spec_Pack.As : Shs := (.cons (.x (.i .i64)) (.cons (.x .s) .nil))
abbrev spec_Pack.m : Back := [(false, .s), (false, (.i .i64))]
noncomputable abbrev spec_Pack.H : HK := hk P G1 E0 J0 [strconv_Itoa.row, spec_Of.row, spec_Valid.row] noLoops 4
theorem spec_Pack.rows : TabOK P G1 (tabF [strconv_Itoa.row, spec_Of.row, spec_Valid.row]) := rows_ok (ws := [strconv_Itoa.row, spec_Of.row, spec_Valid.row]) ⟨(strconv_Itoa.row_ok.more g01), ⟨spec_Of.row_ok, ⟨spec_Valid.row_ok, trivial⟩⟩⟩
theorem spec_Pack.hok : HKOK P spec_Pack.H := hk_ok e0_ok j0_ok spec_Pack.rows (fun g n => noLoops_ok g n) 4
noncomputable def spec_Pack.f (a : (Int × ByteArray)) : Option (ByteArray × Int) := (((spec_Of.f a.1)).bind fun (x2 : ((Int × (Int × Int)) × Int)) => (bif (x2.2 != (0 : Int)) then (some ((bs []), x2.2)) else (((spec_Valid.f a)).bind fun (x3 : Bool) => (bif (!x3) then (some ((bs []), (16 : Int))) else (((strconv_Itoa.f (IntKind.wrap .i64 ((1000 : Int) + (a.2.size : Int))))).bind fun (x4 : ByteArray) => (bif ((decide (((0 : Int) ≤ (IntKind.wrap .i64 ((4 : Int) - x2.1.2.1))))) && (decide (((IntKind.wrap .i64 ((4 : Int) - x2.1.2.1)) ≤ (x4.size : Int))))) then (bif (Nat.ble ((ByteArray.extract x4 (Int.toNat (IntKind.wrap .i64 ((4 : Int) - x2.1.2.1))) x4.size).size + a.2.size) 9223372036854775807) then (some (((ByteArray.extract x4 (Int.toNat (IntKind.wrap .i64 ((4 : Int) - x2.1.2.1))) x4.size) ++ a.2), (0 : Int))) else none) else none))))))
theorem spec_Pack.ok : ∀ a : Vals spec_Pack.As.tys, fnK P spec_Pack.H (lp []) 87 spec_Pack.As spec_Pack.m a some = spec_Pack.f a := fun a => by kernel_rfl
noncomputable abbrev spec_Pack.row : Row := fnRow 87 spec_Pack.As spec_Pack.m spec_Pack.f
theorem spec_Pack.row_ok : RowOK P G1 spec_Pack.row := row_told spec_Pack.hok (lp_of (l := []) trivial) (fun _ => rfl) spec_Pack.ok
end Go.Proofs.YtkgnhjmbnmaboaaGreatDoor
end
section
/- The Go function spec.Take, as a Lean function, and that it is this one. Written by a program of this session. -/
set_option linter.unusedVariables false
set_option maxRecDepth 100000
namespace Go.Proofs.YtkgnhjmbnmaboaaGreatDoor
open Go Go.Fw
abbrev spec_Take.As : Shs := (.cons (.x (.i .i64)) (.cons (.x .s) .nil))
abbrev spec_Take.m : Back := [(false, .s), (false, (.i .i64)), (false, (.i .i64))]
noncomputable abbrev spec_Take.H : HK := hk P G1 E0 J0 [spec_Of.row, spec_pure.row, strconv_Atoi.row] noLoops 4
theorem spec_Take.rows : TabOK P G1 (tabF [spec_Of.row, spec_pure.row, strconv_Atoi.row]) := rows_ok (ws := [spec_Of.row, spec_pure.row, strconv_Atoi.row]) ⟨spec_Of.row_ok, ⟨(spec_pure.row_ok.more g01), ⟨strconv_Atoi.row_ok, trivial⟩⟩⟩
theorem spec_Take.hok : HKOK P spec_Take.H := hk_ok e0_ok j0_ok spec_Take.rows (fun g n => noLoops_ok g n) 4
noncomputable def spec_Take.f (a : (Int × ByteArray)) : Option (ByteArray × (Int × Int)) := (((spec_Of.f a.1)).bind fun (x2 : ((Int × (Int × Int)) × Int)) => (bif (x2.2 != (0 : Int)) then (some ((bs []), ((0 : Int), x2.2))) else (bif (decide (((a.2.size : Int) < x2.1.2.1))) then (some ((bs []), ((0 : Int), (3 : Int)))) else (bif (decide ((x2.1.2.1 > (0 : Int)))) then (bif ((decide (((0 : Int) ≤ x2.1.2.1))) && (decide ((x2.1.2.1 ≤ (a.2.size : Int))))) then (((spec_pure.f (((1 : Int), ((0 : Int), (0 : Int))), (ByteArray.extract a.2 0 (Int.toNat x2.1.2.1))))).bind fun (x3 : Bool) => (bif (!x3) then (some ((bs []), ((0 : Int), (16 : Int)))) else (((strconv_Atoi.f (ByteArray.extract a.2 0 (Int.toNat x2.1.2.1)))).bind fun (x4 : (Int × Bool)) => (bif (decide ((x4.1 > x2.1.2.2))) then (some ((bs []), ((0 : Int), (16 : Int)))) else (bif (decide (((a.2.size : Int) < (IntKind.wrap .i64 (x2.1.2.1 + x4.1))))) then (some ((bs []), ((0 : Int), (3 : Int)))) else (bif ((decide (((0 : Int) ≤ (IntKind.wrap .i64 (x2.1.2.1 + x4.1))))) && (decide (((IntKind.wrap .i64 (x2.1.2.1 + x4.1)) ≤ (a.2.size : Int))))) then (bif ((decide (((0 : Int) ≤ x2.1.2.1))) && (decide ((x2.1.2.1 ≤ ((Int.toNat (IntKind.wrap .i64 (x2.1.2.1 + x4.1))) : Int))))) then (((spec_pure.f (x2.1, (ByteArray.extract a.2 (Int.toNat x2.1.2.1) (Int.toNat (IntKind.wrap .i64 (x2.1.2.1 + x4.1))))))).bind fun (x5 : Bool) => (bif (!x5) then (some ((bs []), ((0 : Int), (16 : Int)))) else (bif ((decide (((0 : Int) ≤ (IntKind.wrap .i64 (x2.1.2.1 + x4.1))))) && (decide (((IntKind.wrap .i64 (x2.1.2.1 + x4.1)) ≤ (a.2.size : Int))))) then (bif ((decide (((0 : Int) ≤ x2.1.2.1))) && (decide ((x2.1.2.1 ≤ ((Int.toNat (IntKind.wrap .i64 (x2.1.2.1 + x4.1))) : Int))))) then (some ((ByteArray.extract a.2 (Int.toNat x2.1.2.1) (Int.toNat (IntKind.wrap .i64 (x2.1.2.1 + x4.1)))), ((IntKind.wrap .i64 (x2.1.2.1 + x4.1)), (0 : Int)))) else none) else none))) else none) else none)))))) else none) else (bif (decide (((a.2.size : Int) < (IntKind.wrap .i64 (x2.1.2.1 + x2.1.2.2))))) then (some ((bs []), ((0 : Int), (3 : Int)))) else (bif ((decide (((0 : Int) ≤ (IntKind.wrap .i64 (x2.1.2.1 + x2.1.2.2))))) && (decide (((IntKind.wrap .i64 (x2.1.2.1 + x2.1.2.2)) ≤ (a.2.size : Int))))) then (bif ((decide (((0 : Int) ≤ x2.1.2.1))) && (decide ((x2.1.2.1 ≤ ((Int.toNat (IntKind.wrap .i64 (x2.1.2.1 + x2.1.2.2))) : Int))))) then (((spec_pure.f (x2.1, (ByteArray.extract a.2 (Int.toNat x2.1.2.1) (Int.toNat (IntKind.wrap .i64 (x2.1.2.1 + x2.1.2.2))))))).bind fun (x3 : Bool) => (bif (!x3) then (some ((bs []), ((0 : Int), (16 : Int)))) else (bif ((decide (((0 : Int) ≤ (IntKind.wrap .i64 (x2.1.2.1 + x2.1.2.2))))) && (decide (((IntKind.wrap .i64 (x2.1.2.1 + x2.1.2.2)) ≤ (a.2.size : Int))))) then (bif ((decide (((0 : Int) ≤ x2.1.2.1))) && (decide ((x2.1.2.1 ≤ ((Int.toNat (IntKind.wrap .i64 (x2.1.2.1 + x2.1.2.2))) : Int))))) then (some ((ByteArray.extract a.2 (Int.toNat x2.1.2.1) (Int.toNat (IntKind.wrap .i64 (x2.1.2.1 + x2.1.2.2)))), ((IntKind.wrap .i64 (x2.1.2.1 + x2.1.2.2)), (0 : Int)))) else none) else none))) else none) else none))))))
theorem spec_Take.ok : ∀ a : Vals spec_Take.As.tys, fnK P spec_Take.H (lp []) 47 spec_Take.As spec_Take.m a some = spec_Take.f a := fun a => by kernel_rfl
noncomputable abbrev spec_Take.row : Row := fnRow 47 spec_Take.As spec_Take.m spec_Take.f
theorem spec_Take.row_ok : RowOK P G1 spec_Take.row := row_told spec_Take.hok (lp_of (l := []) trivial) (fun _ => rfl) spec_Take.ok
end Go.Proofs.YtkgnhjmbnmaboaaGreatDoor
end
section
/- The Go function bursarref16.Valid, as a Lean function, and that it is this one. Written by a program of this session. -/
set_option linter.unusedVariables false
set_option maxRecDepth 100000
namespace Go.Proofs.YtkgnhjmbnmaboaaGreatDoor
open Go Go.Fw
abbrev bursarref16_Valid.As : Shs := (.cons (.x (.i .i64)) (.cons (.x .s) .nil))
abbrev bursarref16_Valid.m : Back := [(false, .b)]
noncomputable abbrev bursarref16_Valid.H : HK := hk P G0 E0 J0 [bursarref16_Of.row, bursarref16_pure.row] noLoops 4
theorem bursarref16_Valid.rows : TabOK P G0 (tabF [bursarref16_Of.row, bursarref16_pure.row]) := rows_ok (ws := [bursarref16_Of.row, bursarref16_pure.row]) ⟨bursarref16_Of.row_ok, ⟨bursarref16_pure.row_ok, trivial⟩⟩
theorem bursarref16_Valid.hok : HKOK P bursarref16_Valid.H := hk_ok e0_ok j0_ok bursarref16_Valid.rows (fun g n => noLoops_ok g n) 4
noncomputable def bursarref16_Valid.f (a : (Int × ByteArray)) : Option Bool := (((bursarref16_Of.f a.1)).bind fun (x2 : (Int × (Int × Int))) => (bif (x2.1 == (0 : Int)) then (some false) else (bif (decide (((a.2.size : Int) > x2.2.2))) then (some false) else (bif (x2.2.1 == (0 : Int)) then (bif (decide (((a.2.size : Int) < x2.2.2))) then (some false) else (((bursarref16_pure.f (x2.1, a.2))).bind fun (x3 : Bool) => (some x3))) else (((bursarref16_pure.f (x2.1, a.2))).bind fun (x3 : Bool) => (some x3))))))
theorem bursarref16_Valid.ok : ∀ a : Vals bursarref16_Valid.As.tys, fnK P bursarref16_Valid.H (lp []) 90 bursarref16_Valid.As bursarref16_Valid.m a some = bursarref16_Valid.f a := fun a => by kernel_rfl
noncomputable abbrev bursarref16_Valid.row : Row := fnRow 90 bursarref16_Valid.As bursarref16_Valid.m bursarref16_Valid.f
theorem bursarref16_Valid.row_ok : RowOK P G0 bursarref16_Valid.row := row_told bursarref16_Valid.hok (lp_of (l := []) trivial) (fun _ => rfl) bursarref16_Valid.ok
end Go.Proofs.YtkgnhjmbnmaboaaGreatDoor
end
section
/- The Go function bursarref16.digits, as a Lean function, and that it is this one. Written by a program of this session. -/
set_option linter.unusedVariables false
set_option maxRecDepth 100000
namespace Go.Proofs.YtkgnhjmbnmaboaaGreatDoor
open Go Go.Fw
abbrev bursarref16_digits.As : Shs := (.cons (.x (.i .i64)) (.cons (.x (.i .i64)) .nil))
abbrev bursarref16_digits.m : Back := [(false, .s)]
noncomputable abbrev bursarref16_digits.H : HK := hk P G0 E0 J0 [] noLoops 4
theorem bursarref16_digits.rows : TabOK P G0 (tabF []) := rows_ok (ws := []) trivial
theorem bursarref16_digits.hok : HKOK P bursarref16_digits.H := hk_ok e0_ok j0_ok bursarref16_digits.rows (fun g n => noLoops_ok g n) 4
noncomputable abbrev bursarref16_digits.sh4 : SSh := ⟨[(0, (.x (.i .i64))), (1, (.x (.i .i64))), (5, (.x .s)), (6, (.x (.i .i64)))], []⟩
noncomputable abbrev bursarref16_digits.os4 : PEnds := [((.exit 0), ⟨[(5, (.x .s))], []⟩)]
noncomputable def bursarref16_digits.t4 (s : (Int × (Int × (ByteArray × Int)))) : Option ((Int × (Int × (ByteArray × Int))) ⊕ (ByteArray)) := (bif (decide ((s.2.2.2 < s.2.1))) then (bif (Nat.ble ((ByteArray.mk (List.toArray (List.map (fun y4 => (UInt8.ofNat (Int.toNat y4))) ((IntKind.wrap .u8 (IntKind.wrap .i64 ((48 : Int) + (Int.tmod s.1 (10 : Int))))) :: [])))).size + s.2.2.1.size) 9223372036854775807) then (some (.inl ((IntKind.wrap .i64 (Int.tdiv s.1 (10 : Int))), (s.2.1, (((ByteArray.mk (List.toArray (List.map (fun y4 => (UInt8.ofNat (Int.toNat y4))) ((IntKind.wrap .u8 (IntKind.wrap .i64 ((48 : Int) + (Int.tmod s.1 (10 : Int))))) :: [])))) ++ s.2.2.1), (IntKind.wrap .i64 (s.2.2.2 + (1 : Int)))))))) else none) else (some (.inr s.2.2.1)))
theorem bursarref16_digits.t4_ok : ∀ s : Vals bursarref16_digits.sh4.tys, turnK P bursarref16_digits.H (lp []) (bodyAt (codeOf P 91) 4) 0 bursarref16_digits.sh4 bursarref16_digits.os4 s some = bursarref16_digits.t4 s := fun s => by kernel_rfl
noncomputable def bursarref16_digits.l4 : (Int × (Int × (ByteArray × Int))) → Option (ByteArray) := rounds bursarref16_digits.t4
noncomputable def bursarref16_digits.f (a : (Int × Int)) : Option ByteArray := (((bursarref16_digits.l4 (a.1, (a.2, ((bs []), (0 : Int)))))).bind fun (x2 : ByteArray) => (some x2))
theorem bursarref16_digits.ok : ∀ a : Vals bursarref16_digits.As.tys, fnK P bursarref16_digits.H (lp [(4, (NodeT.summ ⟨bursarref16_digits.sh4, bursarref16_digits.os4, bursarref16_digits.l4⟩ 0))]) 91 bursarref16_digits.As bursarref16_digits.m a some = bursarref16_digits.f a := fun a => by kernel_rfl
noncomputable abbrev bursarref16_digits.row : Row := fnRow 91 bursarref16_digits.As bursarref16_digits.m bursarref16_digits.f
theorem bursarref16_digits.row_ok : RowOK P G0 bursarref16_digits.row := row_told bursarref16_digits.hok (lp_of (l := [(4, (NodeT.summ ⟨bursarref16_digits.sh4, bursarref16_digits.os4, bursarref16_digits.l4⟩ 0))]) ⟨(loop_sum bursarref16_digits.hok (by kernel_rfl) (by kernel_rfl) (l := []) trivial bursarref16_digits.sh4 bursarref16_digits.os4 (by kernel_rfl) bursarref16_digits.t4 bursarref16_digits.t4_ok), trivial⟩) (fun _ => rfl) bursarref16_digits.ok
end Go.Proofs.YtkgnhjmbnmaboaaGreatDoor
end
section
/- The Go function bursarref16.Pack, as a Lean function, and that it is this one. Written by a program of this session. -/
set_option linter.unusedVariables false
set_option maxRecDepth 100000
namespace Go.Proofs.YtkgnhjmbnmaboaaGreatDoor
open Go Go.Fw
abbrev bursarref16_Pack.As : Shs := (.cons (.x (.i .i64)) (.cons (.x .s) .nil))
abbrev bursarref16_Pack.m : Back := [(false, .s), (false, (.i .i64))]
noncomputable abbrev bursarref16_Pack.H : HK := hk P G0 E0 J0 [bursarref16_Of.row, bursarref16_Valid.row, bursarref16_digits.row] noLoops 4
theorem bursarref16_Pack.rows : TabOK P G0 (tabF [bursarref16_Of.row, bursarref16_Valid.row, bursarref16_digits.row]) := rows_ok (ws := [bursarref16_Of.row, bursarref16_Valid.row, bursarref16_digits.row]) ⟨bursarref16_Of.row_ok, ⟨bursarref16_Valid.row_ok, ⟨bursarref16_digits.row_ok, trivial⟩⟩⟩
theorem bursarref16_Pack.hok : HKOK P bursarref16_Pack.H := hk_ok e0_ok j0_ok bursarref16_Pack.rows (fun g n => noLoops_ok g n) 4
noncomputable def bursarref16_Pack.f (a : (Int × ByteArray)) : Option (ByteArray × Int) := (((bursarref16_Of.f a.1)).bind fun (x2 : (Int × (Int × Int))) => (bif (x2.1 == (0 : Int)) then (some ((bs []), (7 : Int))) else (((bursarref16_Valid.f a)).bind fun (x3 : Bool) => (bif (!x3) then (some ((bs []), (16 : Int))) else (((bursarref16_digits.f ((a.2.size : Int), x2.2.1))).bind fun (x4 : ByteArray) => (bif (Nat.ble (x4.size + a.2.size) 9223372036854775807) then (some ((x4 ++ a.2), (0 : Int))) else none))))))
theorem bursarref16_Pack.ok : ∀ a : Vals bursarref16_Pack.As.tys, fnK P bursarref16_Pack.H (lp []) 42 bursarref16_Pack.As bursarref16_Pack.m a some = bursarref16_Pack.f a := fun a => by kernel_rfl
noncomputable abbrev bursarref16_Pack.row : Row := fnRow 42 bursarref16_Pack.As bursarref16_Pack.m bursarref16_Pack.f
theorem bursarref16_Pack.row_ok : RowOK P G0 bursarref16_Pack.row := row_told bursarref16_Pack.hok (lp_of (l := []) trivial) (fun _ => rfl) bursarref16_Pack.ok
end Go.Proofs.YtkgnhjmbnmaboaaGreatDoor
end
section
/- Fields as they stand in a message: plain laws of packing and taking. By this session. -/
set_option linter.unusedVariables false
set_option linter.unusedSimpArgs false
namespace Go.Proofs.YtkgnhjmbnmaboaaGreatDoor
open Go Go.Fw
/-- may a field be a text? -/
def mayF (k v l : Int) (s : List UInt8) : Bool := !decide (k = 0) && (decide ((s.length : Int) ≤ l) && (!(decide (v = 0) && decide ((s.length : Int) < l)) && s.all (okC k)))
theorem okSpec_is {k v l : Int} (h : okSpec k v l = true) : (k = 0 ∧ v = 0 ∧ l = 0) ∨ (1 ≤ k ∧ k ≤ 4 ∧ (v = 0 ∨ (v = 2 ∧ l ≤ 99) ∨ v = 3) ∧ 1 ≤ l ∧ l ≤ 999) := by
  simp only [okSpec, Bool.or_eq_true, Bool.and_eq_true, decide_eq_true_eq] at h
  omega
theorem refValid_is {n k v l : Int} {s : List UInt8} (hR : bursarref16_Of.f n = some (k, v, l)) (hk : okSpec k v l = true) (hs : s.length ≤ 5000) : bursarref16_Valid.f (n, bs s) = some (mayF k v l s) := by
  unfold bursarref16_Valid.f
  simp only [hR, Option.bind_some, bs_size]
  rcases okSpec_is hk with ⟨rfl, rfl, rfl⟩ | ⟨h1, h2, h3, h4, h5⟩
  · simp [mayF]
  · have hp := refpure_is (k := k) (s := bs s) ⟨h1, h2⟩ (by rw [bs_size]; omega)
    rw [bs_list] at hp
    have e : (k == 0) = false := by rw [beq_eq_false_iff_ne]; omega
    have e' : decide (k = 0) = false := decide_eq_false (by omega)
    simp only [e, cond_false, hp, Option.bind_some, mayF, e', Bool.not_false, Bool.true_and]
    by_cases hl : (s.length : Int) > l
    · have : ¬ (s.length : Int) ≤ l := by omega
      simp [hl, this]
    · have : (s.length : Int) ≤ l := by omega
      by_cases hv : v = 0
      · subst hv
        by_cases hlt : (s.length : Int) < l
        · simp [hl, this, hlt]
        · simp [hl, this, hlt]
      · have hb : (v == 0) = false := by simpa using hv
        simp [hl, this, hv, hb]
theorem valid_is {n k v l : Int} {s : List UInt8} (hO : spec_Of.f n = some ((k, v, l), bif decide (k = 0) then 7 else 0)) (hk : okSpec k v l = true) (hs : s.length ≤ 5000) : spec_Valid.f (n, bs s) = some (mayF k v l s) := by
  unfold spec_Valid.f
  simp only [hO, Option.bind_some, bs_size]
  rcases okSpec_is hk with ⟨rfl, rfl, rfl⟩ | ⟨h1, h2, h3, h4, h5⟩
  · cases h : ((s.length : Int) == 0) <;> simp [mayF, h]
  · have hp := pure_is (k := k) (v := v) (l := l) (s := bs s) ⟨h1, h2⟩ (by rw [bs_size]; omega)
    rw [bs_list] at hp
    have e' : decide (k = 0) = false := decide_eq_false (by omega)
    simp only [hp, Option.bind_some, mayF, e', Bool.not_false, Bool.true_and, cond_false, show ((0 : Int) == 0) = true from rfl, cond_true]
    by_cases he : (s.length : Int) = l
    · simp [he]
    · have hb : ((s.length : Int) == l) = false := by simpa using he
      simp only [hb, cond_false]
      by_cases hv : v > 0
      · have hv0 : ¬ v = 0 := by omega
        by_cases hlt : (s.length : Int) < l
        · have : (s.length : Int) ≤ l := by omega
          simp [hv, hlt, this, hv0]
        · have : ¬ (s.length : Int) ≤ l := by omega
          simp [hv, hlt, this]
      · have hv0 : v = 0 := by omega
        subst hv0
        by_cases hlt : (s.length : Int) < l
        · simp [hlt]
        · have : ¬ (s.length : Int) ≤ l := by omega
          simp [this]
/-! ### digits -/
def digs (v : Int) (n : Nat) : List UInt8 := bif decide (v = 2) then [dgt (n / 10 % 10), dgt (n % 10)] else bif decide (v = 3) then [dgt (n / 100 % 10), dgt (n / 10 % 10), dgt (n % 10)] else []
theorem digs_len {v : Int} (hv : v = 0 ∨ v = 2 ∨ v = 3) (n : Nat) : ((digs v n).length : Int) = v := by rcases hv with rfl | rfl | rfl <;> rfl
theorem itoa_all : (List.range 1000).all (fun n => decide (itoaI ((1000 : Int) + (n : Int)) = [dgt 1, dgt (n / 100 % 10), dgt (n / 10 % 10), dgt (n % 10)])) = true := by kernel_rfl
theorem itoa_is {n : Nat} (h : n ≤ 999) : itoaI ((1000 : Int) + (n : Int)) = [dgt 1, dgt (n / 100 % 10), dgt (n / 10 % 10), dgt (n % 10)] := of_decide_eq_true (List.all_eq_true.1 itoa_all n (List.mem_range.2 (by omega)))
theorem digit_step {x : Nat} {d : List UInt8} (hx : x < 1000) (hd : d.length ≤ 10) (v i : Int) (hi : 0 ≤ i) (hi' : i < v) (hv : v ≤ 10) : bursarref16_digits.t4 ((x : Int), v, bs d, i) = some (.inl (((x / 10 : Nat) : Int), v, bs (dgt (x % 10) :: d), i + 1)) := by
  have e1 : Int.tmod (x : Int) 10 = ((x % 10 : Nat) : Int) := by rw [Int.tmod_eq_emod_of_nonneg (by omega)]; rfl
  have e2 : Int.tdiv (x : Int) 10 = ((x / 10 : Nat) : Int) := by rw [Int.tdiv_eq_ediv_of_nonneg (by omega)]; rfl
  have w1 : IntKind.wrap .i64 ((48 : Int) + ((x % 10 : Nat) : Int)) = ((48 + x % 10 : Nat) : Int) := by rw [wrap_i64 (by omega) (by omega)]; omega
  have w2 : IntKind.wrap .u8 ((48 + x % 10 : Nat) : Int) = ((48 + x % 10 : Nat) : Int) := by rw [wrap_u8]; omega
  have w3 : IntKind.wrap .i64 ((x / 10 : Nat) : Int) = ((x / 10 : Nat) : Int) := wrap_i64 (by omega) (by omega)
  have w4 : IntKind.wrap .i64 (i + 1) = i + 1 := wrap_i64 (by omega) (by omega)
  have hb : ByteArray.mk (List.toArray (List.map (fun y4 => UInt8.ofNat (Int.toNat y4)) [((48 + x % 10 : Nat) : Int)])) = bs [dgt (x % 10)] := rfl
  unfold bursarref16_digits.t4
  simp only [e1, e2, w1, w2, w3, w4, decide_eq_true hi', cond_true, hb, bs_size, bs_append]
  rw [Nat.ble_eq_true_of_le (by simp; omega)]
  rfl
theorem digits16_is {v : Int} (hv : v = 0 ∨ v = 2 ∨ v = 3) {n : Nat} (hn : n ≤ 999) : bursarref16_digits.f ((n : Int), v) = some (bs (digs v n)) := by
  unfold bursarref16_digits.f bursarref16_digits.l4
  have fin : ∀ (x : Int) (d : List UInt8) (v : Int), bursarref16_digits.t4 (x, v, bs d, v) = some (.inr (bs d)) := fun x d v => by simp [bursarref16_digits.t4]
  rcases hv with rfl | rfl | rfl
  · rw [rounds_end (fin _ [] 0)]; rfl
  · rw [rounds_next (digit_step (x := n) (d := []) (by omega) (by simp) 2 0 (by omega) (by omega) (by omega)), rounds_next (digit_step (x := n / 10) (d := _) (by omega) (by simp) 2 (0 + 1) (by omega) (by omega) (by omega)), show (0 : Int) + 1 + 1 = 2 from rfl, rounds_end (fin _ _ 2)]
    rfl
  · rw [rounds_next (digit_step (x := n) (d := []) (by omega) (by simp) 3 0 (by omega) (by omega) (by omega)), rounds_next (digit_step (x := n / 10) (d := _) (by omega) (by simp) 3 (0 + 1) (by omega) (by omega) (by omega)), rounds_next (digit_step (x := n / 10 / 10) (d := _) (by omega) (by simp) 3 (0 + 1 + 1) (by omega) (by omega) (by omega)), show (0 : Int) + 1 + 1 + 1 = 3 from rfl, rounds_end (fin _ _ 3)]
    simp only [Option.bind_some, digs]
    rw [show n / 10 / 10 = n / 100 by omega]
    rfl
/-! ### packing -/
theorem mayF_len {k v l : Int} {s : List UInt8} (hk : okSpec k v l = true) (h : mayF k v l s = true) : 1 ≤ k ∧ k ≤ 4 ∧ (v = 0 ∨ v = 2 ∨ v = 3) ∧ (s.length : Int) ≤ l ∧ s.length ≤ 999 ∧ (v = 2 → s.length ≤ 99) ∧ (v = 0 → (s.length : Int) = l) ∧ s.all (okC k) = true := by
  simp only [mayF, Bool.and_eq_true, Bool.not_eq_true', decide_eq_false_iff_not, Bool.and_eq_false_iff, decide_eq_true_eq] at h
  obtain ⟨h0, h1, h2, h3⟩ := h
  rcases okSpec_is hk with ⟨rfl, _⟩ | ⟨g1, g2, g3, g4, g5⟩
  · exact absurd rfl h0
  · refine ⟨g1, g2, by omega, h1, by omega, by omega, fun hv => ?_, h3⟩
    rcases h2 with h2 | h2
    · exact absurd hv h2
    · omega
theorem refPack_is {n k v l : Int} {s : List UInt8} (hR : bursarref16_Of.f n = some (k, v, l)) (hk : okSpec k v l = true) (hs : s.length ≤ 5000) :
    bursarref16_Pack.f (n, bs s) = some (bif decide (k = 0) then (bs [], 7) else bif mayF k v l s then (bs (digs v s.length ++ s), 0) else (bs [], 16)) := by
  unfold bursarref16_Pack.f
  simp only [hR, Option.bind_some, refValid_is hR hk hs]
  by_cases h0 : k = 0
  · subst h0; rfl
  · have e : (k == 0) = false := by rw [beq_eq_false_iff_ne]; exact h0
    simp only [e, cond_false, decide_eq_false h0]
    cases hm : mayF k v l s
    · rfl
    · obtain ⟨_, _, h3, _, h5, _⟩ := mayF_len hk hm
      simp only [Bool.not_true, cond_false, cond_true, bs_size, digits16_is h3 h5, Option.bind_some, bs_append]
      have := digs_len h3 s.length
      rw [Nat.ble_eq_true_of_le (by omega)]
      rfl
theorem pack_is {n k v l : Int} {s : List UInt8} (hO : spec_Of.f n = some ((k, v, l), bif decide (k = 0) then 7 else 0)) (hk : okSpec k v l = true) (hs : s.length ≤ 5000) :
    spec_Pack.f (n, bs s) = some (bif decide (k = 0) then (bs [], 7) else bif mayF k v l s then (bs (digs v s.length ++ s), 0) else (bs [], 16)) := by
  unfold spec_Pack.f
  simp only [hO, Option.bind_some, valid_is hO hk hs]
  by_cases h0 : k = 0
  · subst h0; rfl
  · simp only [decide_eq_false h0, cond_false, show ((0 : Int) != 0) = false from rfl]
    cases hm : mayF k v l s
    · rfl
    · obtain ⟨_, _, h3, _, h5, _⟩ := mayF_len hk hm
      have w : IntKind.wrap .i64 ((1000 : Int) + (s.length : Int)) = (1000 : Int) + (s.length : Int) := wrap_i64 (by omega) (by omega)
      have w2 : IntKind.wrap .i64 ((4 : Int) - v) = 4 - v := wrap_i64 (by omega) (by omega)
      have it : strconv_Itoa.f ((1000 : Int) + (s.length : Int)) = some (bs [dgt 1, dgt (s.length / 100 % 10), dgt (s.length / 10 % 10), dgt (s.length % 10)]) := by
        unfold strconv_Itoa.f
        rw [decide_eq_true (by omega), decide_eq_true (by omega), itoa_is h5]
        rfl
      have le0 : decide ((0 : Int) ≤ 4 - v) = true := decide_eq_true (by omega)
      have le1 : decide (4 - v ≤ (([dgt 1, dgt (s.length / 100 % 10), dgt (s.length / 10 % 10), dgt (s.length % 10)] : List UInt8).length : Int)) = true := decide_eq_true (by simp only [List.length_cons, List.length_nil]; omega)
      simp only [Bool.not_true, cond_false, cond_true, bs_size, w, w2, it, Option.bind_some, le0, le1, Bool.and_self, bs_extract, bs_append]
      have cut : (([dgt 1, dgt (s.length / 100 % 10), dgt (s.length / 10 % 10), dgt (s.length % 10)] : List UInt8).take ([dgt 1, dgt (s.length / 100 % 10), dgt (s.length / 10 % 10), dgt (s.length % 10)] : List UInt8).length).drop (4 - v).toNat = digs v s.length := by
        rcases h3 with rfl | rfl | rfl <;> rfl
      have := digs_len h3 s.length
      rw [cut, Nat.ble_eq_true_of_le (by omega)]
      rfl
/-! ### taking -/
def valD (l : List UInt8) : Nat := l.foldl (fun a c => 10 * a + (c.toNat - 48)) 0
theorem okN_dgt {c : UInt8} (h : okN c = true) : c.toNat - 48 < 10 ∧ c = dgt (c.toNat - 48) := by
  simp only [okN, Bool.and_eq_true, decide_eq_true_eq] at h
  refine ⟨by omega, ?_⟩
  apply UInt8.toNat_inj.1
  rw [dgt_nat (by omega)]
  omega
theorem atoi2 : (List.range 100).all (fun n => decide (atoiU [dgt (n / 10), dgt (n % 10)] = ((n : Int), false))) = true := by kernel_rfl
theorem atoi3 : (List.range 1000).all (fun n => decide (atoiU [dgt (n / 100), dgt (n / 10 % 10), dgt (n % 10)] = ((n : Int), false))) = true := by kernel_rfl
theorem atoi_is {l : List UInt8} (h : l.all okN = true) (hl : l.length = 2 ∨ l.length = 3) : strconv_Atoi.f (bs l) = some ((valD l : Int), false) := by
  have hsz : decide ((bs l).size ≤ 281474976710656) = true := decide_eq_true (by rw [bs_size]; omega)
  unfold strconv_Atoi.f
  rw [hsz, cond_true, bs_list]
  congr 1
  rcases hl with hl | hl
  · match l, hl with
    | [a, b], _ =>
      simp only [List.all_cons, List.all_nil, Bool.and_true, Bool.and_eq_true] at h
      obtain ⟨a1, a2⟩ := okN_dgt h.1
      obtain ⟨b1, b2⟩ := okN_dgt h.2
      obtain ⟨x, hx⟩ : ∃ x, a.toNat - 48 = x := ⟨_, rfl⟩
      obtain ⟨y, hy⟩ : ∃ x, b.toNat - 48 = x := ⟨_, rfl⟩
      rw [hx] at a1 a2
      rw [hy] at b1 b2
      have := of_decide_eq_true (List.all_eq_true.1 atoi2 (10 * x + y) (List.mem_range.2 (by omega)))
      rw [show (10 * x + y) / 10 = x by omega, show (10 * x + y) % 10 = y by omega] at this
      have hv : valD [a, b] = 10 * x + y := by simp only [valD, List.foldl_cons, List.foldl_nil, hx, hy]; omega
      rw [hv, ← this, ← a2, ← b2]
  · match l, hl with
    | [a, b, c], _ =>
      simp only [List.all_cons, List.all_nil, Bool.and_true, Bool.and_eq_true] at h
      obtain ⟨a1, a2⟩ := okN_dgt h.1
      obtain ⟨b1, b2⟩ := okN_dgt h.2.1
      obtain ⟨c1, c2⟩ := okN_dgt h.2.2
      obtain ⟨x, hx⟩ : ∃ x, a.toNat - 48 = x := ⟨_, rfl⟩
      obtain ⟨y, hy⟩ : ∃ x, b.toNat - 48 = x := ⟨_, rfl⟩
      obtain ⟨z, hz⟩ : ∃ x, c.toNat - 48 = x := ⟨_, rfl⟩
      rw [hx] at a1 a2
      rw [hy] at b1 b2
      rw [hz] at c1 c2
      have := of_decide_eq_true (List.all_eq_true.1 atoi3 (100 * x + 10 * y + z) (List.mem_range.2 (by omega)))
      rw [show (100 * x + 10 * y + z) / 100 = x by omega, show (100 * x + 10 * y + z) / 10 % 10 = y by omega, show (100 * x + 10 * y + z) % 10 = z by omega] at this
      have hv : valD [a, b, c] = 100 * x + 10 * y + z := by simp only [valD, List.foldl_cons, List.foldl_nil, hx, hy, hz]; omega
      rw [hv, ← this, ← a2, ← b2, ← c2]
theorem valD_le {l : List UInt8} (h : l.all okN = true) (hl : l.length = 2 ∨ l.length = 3) : valD l ≤ 999 := by
  rcases hl with hl | hl
  · match l, hl with
    | [a, b], _ =>
      simp only [List.all_cons, List.all_nil, Bool.and_true, Bool.and_eq_true] at h
      have := okN_dgt h.1
      have := okN_dgt h.2
      simp only [valD, List.foldl_cons, List.foldl_nil]; omega
  · match l, hl with
    | [a, b, c], _ =>
      simp only [List.all_cons, List.all_nil, Bool.and_true, Bool.and_eq_true] at h
      have := okN_dgt h.1
      have := okN_dgt h.2.1
      have := okN_dgt h.2.2
      simp only [valD, List.foldl_cons, List.foldl_nil]; omega
/-- behind the digits: so many octets -/
def bodyF (k : Int) (v m : Nat) (s : List UInt8) : List UInt8 × Int × Int := bif decide (s.length < v + m) then ([], 0, 3) else bif ((s.drop v).take m).all (okC k) then ((s.drop v).take m, ((v + m : Nat) : Int), 0) else ([], 0, 16)
def takeF (k : Int) (v l : Nat) (s : List UInt8) : List UInt8 × Int × Int :=
  bif decide (s.length < v) then ([], 0, 3) else bif decide (v = 0) then bodyF k 0 l s else bif (s.take v).all okN then (bif decide (l < valD (s.take v)) then ([], 0, 16) else bodyF k v (valD (s.take v)) s) else ([], 0, 16)
abbrev inB2 (x : List UInt8 × Int × Int) : ByteArray × Int × Int := (bs x.1, x.2)
theorem all_okC1 (l : List UInt8) : l.all (okC 1) = l.all okN := rfl
theorem take16_is {n k v l : Int} {s : List UInt8} (hO : spec_Of.f n = some ((k, v, l), bif decide (k = 0) then 7 else 0)) (hk : okSpec k v l = true) (hs : s.length ≤ 5000) :
    spec_Take.f (n, bs s) = some (bif decide (k = 0) then (bs [], 0, 7) else inB2 (takeF k v.toNat l.toNat s)) := by
  unfold spec_Take.f
  simp only [hO, Option.bind_some]
  rcases okSpec_is hk with ⟨rfl, rfl, rfl⟩ | ⟨h1, h2, h3, h4, h5⟩
  · rfl
  have e' : decide (k = 0) = false := decide_eq_false (by omega)
  obtain ⟨v', rfl⟩ : ∃ v' : Nat, v = v' := ⟨v.toNat, by omega⟩
  obtain ⟨l', rfl⟩ : ∃ l' : Nat, l = l' := ⟨l.toNat, by omega⟩
  have cut : ∀ (m : Nat), v' ≤ 3 → m ≤ 999 → v' + m ≤ s.length → spec_pure.f ((k, (v' : Int), (l' : Int)), bs ((s.drop v').take m)) = some (((s.drop v').take m).all (okC k)) := fun m hv hm hle => by
    rw [pure_is ⟨h1, h2⟩ (by rw [bs_size]; simp; omega), bs_list]
  have cut' : ∀ m : Nat, (s.take (v' + m)).drop v' = (s.drop v').take m := fun m => by rw [List.drop_take]; congr 1; omega
  simp only [e', cond_false, show ((0 : Int) != 0) = false from rfl, bs_size, Int.toNat_natCast]
  unfold takeF
  by_cases hsv : s.length < v'
  · rw [decide_eq_true (show (s.length : Int) < (v' : Int) by omega), decide_eq_true hsv]; rfl
  rw [decide_eq_false (show ¬ (s.length : Int) < (v' : Int) by omega), decide_eq_false hsv]
  simp only [cond_false]
  by_cases hv0 : v' = 0
  · subst hv0
    rw [decide_eq_false (show ¬ ((0 : Nat) : Int) > 0 by omega), decide_eq_true rfl]
    have w : IntKind.wrap .i64 (((0 : Nat) : Int) + (l' : Int)) = ((0 + l' : Nat) : Int) := by rw [wrap_i64 (by omega) (by omega)]; omega
    simp only [cond_false, cond_true, w, Int.toNat_natCast, bs_extract]
    unfold bodyF
    by_cases hl : s.length < 0 + l'
    · rw [decide_eq_true (show (s.length : Int) < ((0 + l' : Nat) : Int) by omega), decide_eq_true hl]; rfl
    · rw [decide_eq_false (show ¬ (s.length : Int) < ((0 + l' : Nat) : Int) by omega), decide_eq_false hl, decide_eq_true (show (0 : Int) ≤ ((0 + l' : Nat) : Int) by omega), decide_eq_true (show ((0 + l' : Nat) : Int) ≤ (s.length : Int) by omega), decide_eq_true (show (0 : Int) ≤ ((0 : Nat) : Int) by omega), decide_eq_true (show ((0 : Nat) : Int) ≤ ((0 + l' : Nat) : Int) by omega)]
      simp only [cond_false, cond_true, Bool.and_self, cut l' (by omega) (by omega) (by omega), Option.bind_some, cut']
      cases ((s.drop 0).take l').all (okC k) <;> rfl
  · have hv : v' = 2 ∨ v' = 3 := by omega
    have hlen : (s.take v').length = v' := by rw [List.length_take]; omega
    have head : spec_pure.f ((1, 0, 0), bs (s.take v')) = some ((s.take v').all okN) := by rw [pure_is ⟨by omega, by omega⟩ (by rw [bs_size]; omega), bs_list, all_okC1]
    rw [decide_eq_true (show (v' : Int) > 0 by omega), decide_eq_false hv0, decide_eq_true (show (0 : Int) ≤ (v' : Int) by omega), decide_eq_true (show (v' : Int) ≤ (s.length : Int) by omega)]
    simp only [cond_true, cond_false, Bool.and_self, bs_extract, List.drop_zero, head, Option.bind_some]
    cases hd : (s.take v').all okN
    · rfl
    · have at' := atoi_is hd (by omega)
      have hm := valD_le hd (by omega)
      obtain ⟨m, hm'⟩ : ∃ m, valD (s.take v') = m := ⟨_, rfl⟩
      rw [hm'] at at' hm
      simp only [Bool.not_true, cond_false, cond_true, at', Option.bind_some, hm']
      have w : IntKind.wrap .i64 ((v' : Int) + (m : Int)) = ((v' + m : Nat) : Int) := by rw [wrap_i64 (by omega) (by omega)]; omega
      simp only [w, Int.toNat_natCast]
      by_cases hml : l' < m
      · rw [decide_eq_true (show (m : Int) > (l' : Int) by omega), decide_eq_true hml]; rfl
      rw [decide_eq_false (show ¬ (m : Int) > (l' : Int) by omega), decide_eq_false hml]
      unfold bodyF
      by_cases hl : s.length < v' + m
      · rw [decide_eq_true (show (s.length : Int) < ((v' + m : Nat) : Int) by omega), decide_eq_true hl]; rfl
      · rw [decide_eq_false (show ¬ (s.length : Int) < ((v' + m : Nat) : Int) by omega), decide_eq_false hl, decide_eq_true (show (0 : Int) ≤ ((v' + m : Nat) : Int) by omega), decide_eq_true (show ((v' + m : Nat) : Int) ≤ (s.length : Int) by omega), decide_eq_true (show ((v' : Nat) : Int) ≤ ((v' + m : Nat) : Int) by omega)]
        simp only [cond_false, cond_true, Bool.and_self, cut m (by omega) (by omega) (by omega), Option.bind_some, cut']
        cases ((s.drop v').take m).all (okC k) <;> rfl
end Go.Proofs.YtkgnhjmbnmaboaaGreatDoor
end
section
/- Fields are packed and taken as the document says: plain laws. By this session. -/
set_option linter.unusedVariables false
set_option linter.unusedSimpArgs false
namespace Go.Proofs.YtkgnhjmbnmaboaaGreatDoor
open Go Go.Fw
theorem digs_okN {v : Int} {n : Nat} : (digs v n).all okN = true := by
  unfold digs
  have h : ∀ x, okN (dgt (x % 10)) = true := fun x => by
    have := dgt_nat (n := x % 10) (by omega)
    simp only [okN, this, Bool.and_eq_true, decide_eq_true_eq]; omega
  by_cases h2 : v = 2
  · rw [decide_eq_true h2]; simp only [cond_true, List.all_cons, List.all_nil, h, Bool.and_self]
  · by_cases h3 : v = 3
    · rw [decide_eq_false h2, decide_eq_true h3]; simp only [cond_true, cond_false, List.all_cons, List.all_nil, h, Bool.and_self]
    · rw [decide_eq_false h2, decide_eq_false h3]; rfl
theorem digs_val {v : Int} {n : Nat} (h : (v = 2 ∧ n ≤ 99) ∨ (v = 3 ∧ n ≤ 999)) : valD (digs v n) = n := by
  have h' : ∀ x, (dgt (x % 10)).toNat - 48 = x % 10 := fun x => by
    have := dgt_nat (n := x % 10) (by omega); omega
  rcases h with ⟨rfl, h⟩ | ⟨rfl, h⟩
  · show valD [dgt (n / 10 % 10), dgt (n % 10)] = n
    simp only [valD, List.foldl_cons, List.foldl_nil, h']; omega
  · show valD [dgt (n / 100 % 10), dgt (n / 10 % 10), dgt (n % 10)] = n
    simp only [valD, List.foldl_cons, List.foldl_nil, h']; omega
/-- what is packed is taken as it was -/
theorem takeF_digs {k v l : Int} {s b : List UInt8} (hk : okSpec k v l = true) (hm : mayF k v l s = true) : takeF k v.toNat l.toNat (digs v s.length ++ s ++ b) = (s, ((digs v s.length ++ s).length : Int), 0) := by
  obtain ⟨h1, h2, h3, h4, h5, h6, h7, h8⟩ := mayF_len hk hm
  have hl := digs_len h3 s.length
  obtain ⟨v', rfl⟩ : ∃ v' : Nat, v = v' := ⟨v.toNat, by omega⟩
  obtain ⟨l', rfl⟩ : ∃ l' : Nat, l = l' := ⟨l.toNat, by
    rcases okSpec_is hk with ⟨_, _, rfl⟩ | ⟨_, _, _, h, _⟩ <;> omega⟩
  have hl' : (digs (v' : Int) s.length).length = v' := by omega
  have tk : (digs (v' : Int) s.length ++ s ++ b).take v' = digs (v' : Int) s.length := by rw [List.append_assoc, List.take_append_of_le_length (by omega), List.take_of_length_le (by omega)]
  have dr : (digs (v' : Int) s.length ++ s ++ b).drop v' = s ++ b := by
    rw [List.append_assoc, List.drop_append_of_le_length (by omega), List.drop_of_length_le (by omega), List.nil_append]
  have body : bodyF k v' s.length (digs (v' : Int) s.length ++ s ++ b) = (s, ((digs (v' : Int) s.length ++ s).length : Int), 0) := by
    unfold bodyF
    rw [decide_eq_false (by simp only [List.length_append]; omega), cond_false, dr, List.take_left, h8, cond_true]
    simp only [List.length_append, hl']
  unfold takeF
  simp only [Int.toNat_natCast]
  rw [decide_eq_false (by simp only [List.length_append]; omega), cond_false]
  simp only [tk, digs_okN, cond_true]
  by_cases hv : v' = 0
  · subst hv
    rw [decide_eq_true rfl, cond_true]
    have : s.length = l' := by have := h7 rfl; omega
    rw [← this]
    exact body
  · have hd : valD (digs (v' : Int) s.length) = s.length := digs_val (by omega)
    simp only [decide_eq_false hv, cond_false, hd, decide_eq_false (show ¬ l' < s.length by omega)]
    exact body
end Go.Proofs.YtkgnhjmbnmaboaaGreatDoor
end
section
/- The Go function bitmap.bit, as a Lean function, and that it is this one. Written by a program of this session. -/
set_option linter.unusedVariables false
set_option maxRecDepth 100000
namespace Go.Proofs.YtkgnhjmbnmaboaaGreatDoor
open Go Go.Fw
abbrev bitmap_bit.As : Shs := (.cons (.x (.i .i64)) .nil)
abbrev bitmap_bit.m : Back := [(false, (.i .i64)), (false, (.i .u8))]
noncomputable abbrev bitmap_bit.H : HK := hk P G0 E0 J0 [] noLoops 4
theorem bitmap_bit.rows : TabOK P G0 (tabF []) := rows_ok (ws := []) trivial
theorem bitmap_bit.hok : HKOK P bitmap_bit.H := hk_ok e0_ok j0_ok bitmap_bit.rows (fun g n => noLoops_ok g n) 4
noncomputable def bitmap_bit.f (a : Int) : Option (Int × Int) := (bif (decide (((Int.tmod (IntKind.wrap .i64 (a - (1 : Int))) (8 : Int)) < (0 : Int)))) then none else (some ((IntKind.wrap .i64 (Int.tdiv (IntKind.wrap .i64 (a - (1 : Int))) (8 : Int))), (Int.fdiv (128 : Int) ((2 : Int) ^ (Min.min (Int.toNat (Int.tmod (IntKind.wrap .i64 (a - (1 : Int))) (8 : Int))) 8))))))
theorem bitmap_bit.ok : ∀ a : Vals bitmap_bit.As.tys, fnK P bitmap_bit.H (lp []) 136 bitmap_bit.As bitmap_bit.m a some = bitmap_bit.f a := fun a => by kernel_rfl
noncomputable abbrev bitmap_bit.row : Row := fnRow 136 bitmap_bit.As bitmap_bit.m bitmap_bit.f
theorem bitmap_bit.row_ok : RowOK P G0 bitmap_bit.row := row_told bitmap_bit.hok (lp_of (l := []) trivial) (fun _ => rfl) bitmap_bit.ok
end Go.Proofs.YtkgnhjmbnmaboaaGreatDoor
end
section
/- The Go function bitmap.may, as a Lean function, and that it is this one. Written by a program of this session. -/
set_option linter.unusedVariables false
set_option maxRecDepth 100000
namespace Go.Proofs.YtkgnhjmbnmaboaaGreatDoor
open Go Go.Fw
abbrev bitmap_may.As : Shs := (.cons (.x (.l (.i .i64))) .nil)
abbrev bitmap_may.m : Back := [(false, .b)]
noncomputable abbrev bitmap_may.H : HK := hk P G1 E0 J0 [spec_Of.row] noLoops 4
theorem bitmap_may.rows : TabOK P G1 (tabF [spec_Of.row]) := rows_ok (ws := [spec_Of.row]) ⟨spec_Of.row_ok, trivial⟩
theorem bitmap_may.hok : HKOK P bitmap_may.H := hk_ok e0_ok j0_ok bitmap_may.rows (fun g n => noLoops_ok g n) 4
noncomputable abbrev bitmap_may.sh3 : SSh := ⟨[(0, (.x (.l (.i .i64)))), (7, (.x (.l (.i .i64)))), (8, (.x (.i .i64))), (9, (.x (.i .i64)))], []⟩
noncomputable abbrev bitmap_may.os3 : PEnds := [(.ret, ⟨[(2, (.x .b))], []⟩), ((.exit 0), ⟨[], []⟩)]
noncomputable def bitmap_may.t3 (s : ((List Int) × ((List Int) × (Int × Int)))) : Option (((List Int) × ((List Int) × (Int × Int))) ⊕ (Bool ⊕ Unit)) := (bif (decide ((s.2.2.2 < s.2.2.1))) then (bif ((decide (((0 : Int) ≤ s.2.2.2))) && (decide ((s.2.2.2 < ((List.length s.2.1) : Int))))) then (((spec_Of.f (List.getD s.2.1 (Int.toNat s.2.2.2) (0 : Int)))).bind fun (x4 : ((Int × (Int × Int)) × Int)) => (bif (x4.2 != (0 : Int)) then (some (.inr (.inl false))) else (bif (decide ((s.2.2.2 > (0 : Int)))) then (bif ((decide (((0 : Int) ≤ (IntKind.wrap .i64 (s.2.2.2 - (1 : Int)))))) && (decide (((IntKind.wrap .i64 (s.2.2.2 - (1 : Int))) < ((List.length s.1) : Int))))) then (bif (decide (((List.getD s.1 (Int.toNat (IntKind.wrap .i64 (s.2.2.2 - (1 : Int)))) (0 : Int)) ≥ (List.getD s.2.1 (Int.toNat s.2.2.2) (0 : Int))))) then (some (.inr (.inl false))) else (some (.inl (s.1, (s.2.1, (s.2.2.1, (IntKind.wrap .i64 (s.2.2.2 + (1 : Int))))))))) else none) else (some (.inl (s.1, (s.2.1, (s.2.2.1, (IntKind.wrap .i64 (s.2.2.2 + (1 : Int))))))))))) else none) else (some (.inr (.inr ()))))
theorem bitmap_may.t3_ok : ∀ s : Vals bitmap_may.sh3.tys, turnK P bitmap_may.H (lp []) (bodyAt (codeOf P 135) 3) 0 bitmap_may.sh3 bitmap_may.os3 s some = bitmap_may.t3 s := fun s => by kernel_rfl
noncomputable def bitmap_may.l3 : ((List Int) × ((List Int) × (Int × Int))) → Option (Bool ⊕ Unit) := rounds bitmap_may.t3
noncomputable def bitmap_may.f (a : (List Int)) : Option Bool := (((bitmap_may.l3 (a, (a, (((List.length a) : Int), (0 : Int)))))).bind fun (x1 : (Bool ⊕ PUnit)) => (match x1 with | .inl x2 => (some x2) | .inr x2 => (some true)))
theorem bitmap_may.ok : ∀ a : Vals bitmap_may.As.tys, fnK P bitmap_may.H (lp [(3, (NodeT.summ ⟨bitmap_may.sh3, bitmap_may.os3, bitmap_may.l3⟩ 0))]) 135 bitmap_may.As bitmap_may.m a some = bitmap_may.f a := fun a => by kernel_rfl
noncomputable abbrev bitmap_may.row : Row := fnRow 135 bitmap_may.As bitmap_may.m bitmap_may.f
theorem bitmap_may.row_ok : RowOK P G1 bitmap_may.row := row_told bitmap_may.hok (lp_of (l := [(3, (NodeT.summ ⟨bitmap_may.sh3, bitmap_may.os3, bitmap_may.l3⟩ 0))]) ⟨(loop_sum bitmap_may.hok (by kernel_rfl) (by kernel_rfl) (l := []) trivial bitmap_may.sh3 bitmap_may.os3 (by kernel_rfl) bitmap_may.t3 bitmap_may.t3_ok), trivial⟩) (fun _ => rfl) bitmap_may.ok
end Go.Proofs.YtkgnhjmbnmaboaaGreatDoor
end
section
/- The Go function bursarref17.May, as a Lean function, and that it is this one. Written by a program of this session. -/
set_option linter.unusedVariables false
set_option maxRecDepth 100000
namespace Go.Proofs.YtkgnhjmbnmaboaaGreatDoor
open Go Go.Fw
abbrev bursarref17_May.As : Shs := (.cons (.x (.l (.i .i64))) .nil)
abbrev bursarref17_May.m : Back := [(false, .b)]
noncomputable abbrev bursarref17_May.H : HK := hk P G0 E0 J0 [bursarref16_Of.row] noLoops 4
theorem bursarref17_May.rows : TabOK P G0 (tabF [bursarref16_Of.row]) := rows_ok (ws := [bursarref16_Of.row]) ⟨bursarref16_Of.row_ok, trivial⟩
theorem bursarref17_May.hok : HKOK P bursarref17_May.H := hk_ok e0_ok j0_ok bursarref17_May.rows (fun g n => noLoops_ok g n) 4
noncomputable abbrev bursarref17_May.sh3 : SSh := ⟨[(0, (.x (.l (.i .i64)))), (3, (.x (.i .i64)))], []⟩
noncomputable abbrev bursarref17_May.os3 : PEnds := [(.ret, ⟨[(2, (.x .b))], []⟩), ((.exit 0), ⟨[], []⟩)]
noncomputable def bursarref17_May.t3 (s : ((List Int) × Int)) : Option (((List Int) × Int) ⊕ (Bool ⊕ Unit)) := (bif (decide ((s.2 < ((List.length s.1) : Int)))) then (bif ((decide (((0 : Int) ≤ s.2))) && (decide ((s.2 < ((List.length s.1) : Int))))) then (((bursarref16_Of.f (List.getD s.1 (Int.toNat s.2) (0 : Int)))).bind fun (x2 : (Int × (Int × Int))) => (bif (x2.1 == (0 : Int)) then (some (.inr (.inl false))) else (bif (decide ((s.2 > (0 : Int)))) then (bif ((decide (((0 : Int) ≤ (IntKind.wrap .i64 (s.2 - (1 : Int)))))) && (decide (((IntKind.wrap .i64 (s.2 - (1 : Int))) < ((List.length s.1) : Int))))) then (bif ((decide (((0 : Int) ≤ s.2))) && (decide ((s.2 < ((List.length s.1) : Int))))) then (bif (decide (((List.getD s.1 (Int.toNat (IntKind.wrap .i64 (s.2 - (1 : Int)))) (0 : Int)) ≥ (List.getD s.1 (Int.toNat s.2) (0 : Int))))) then (some (.inr (.inl false))) else (some (.inl (s.1, (IntKind.wrap .i64 (s.2 + (1 : Int))))))) else none) else none) else (some (.inl (s.1, (IntKind.wrap .i64 (s.2 + (1 : Int))))))))) else none) else (some (.inr (.inr ()))))
theorem bursarref17_May.t3_ok : ∀ s : Vals bursarref17_May.sh3.tys, turnK P bursarref17_May.H (lp []) (bodyAt (codeOf P 43) 3) 0 bursarref17_May.sh3 bursarref17_May.os3 s some = bursarref17_May.t3 s := fun s => by kernel_rfl
noncomputable def bursarref17_May.l3 : ((List Int) × Int) → Option (Bool ⊕ Unit) := rounds bursarref17_May.t3
noncomputable def bursarref17_May.f (a : (List Int)) : Option Bool := (((bursarref17_May.l3 (a, (0 : Int)))).bind fun (x1 : (Bool ⊕ PUnit)) => (match x1 with | .inl x2 => (some x2) | .inr x2 => (some true)))
theorem bursarref17_May.ok : ∀ a : Vals bursarref17_May.As.tys, fnK P bursarref17_May.H (lp [(3, (NodeT.summ ⟨bursarref17_May.sh3, bursarref17_May.os3, bursarref17_May.l3⟩ 0))]) 43 bursarref17_May.As bursarref17_May.m a some = bursarref17_May.f a := fun a => by kernel_rfl
noncomputable abbrev bursarref17_May.row : Row := fnRow 43 bursarref17_May.As bursarref17_May.m bursarref17_May.f
theorem bursarref17_May.row_ok : RowOK P G0 bursarref17_May.row := row_told bursarref17_May.hok (lp_of (l := [(3, (NodeT.summ ⟨bursarref17_May.sh3, bursarref17_May.os3, bursarref17_May.l3⟩ 0))]) ⟨(loop_sum bursarref17_May.hok (by kernel_rfl) (by kernel_rfl) (l := []) trivial bursarref17_May.sh3 bursarref17_May.os3 (by kernel_rfl) bursarref17_May.t3 bursarref17_May.t3_ok), trivial⟩) (fun _ => rfl) bursarref17_May.ok
end Go.Proofs.YtkgnhjmbnmaboaaGreatDoor
end
section
/- Sets of fields, and bits of octets: plain laws. By this session. -/
set_option linter.unusedVariables false
set_option linter.unusedSimpArgs false
namespace Go.Proofs.YtkgnhjmbnmaboaaGreatDoor
open Go Go.Fw
/-- is there such a field? -/
noncomputable def hasF (n : Int) : Bool := match bursarref16_Of.f n with
  | some x => !(x.1 == 0)
  | none => false
theorem hasF_is (n : Int) : ∃ k v l : Int, bursarref16_Of.f n = some (k, v, l) ∧ spec_Of.f n = some ((k, v, l), bif hasF n then 0 else 7) ∧ (k == 0) = !hasF n := by
  obtain ⟨k, v, l, h1, h2, h3⟩ := of_is n
  have e : hasF n = !(k == 0) := by unfold hasF; rw [h1]
  refine ⟨k, v, l, h1, ?_, by rw [e]; simp⟩
  rw [h2, e]
  by_cases h : k = 0
  · subst h; rfl
  · have hb : (k == 0) = false := by simpa using h
    rw [hb, decide_eq_false h]; rfl
theorem has_all : (List.range 129).all (fun n => !hasF (n : Int) || decide (2 ≤ n)) = true := by kernel_rfl
theorem hasF_bound {n : Int} (h : hasF n = true) : 2 ≤ n ∧ n ≤ 128 := by
  by_cases hn : 0 ≤ n ∧ n ≤ 128
  · have := List.all_eq_true.1 has_all n.toNat (List.mem_range.2 (by omega))
    rw [show ((n.toNat : Nat) : Int) = n by omega, h] at this
    simp only [Bool.not_true, Bool.false_or, decide_eq_true_eq] at this
    omega
  · have := (of_out hn).1
    unfold hasF at h
    rw [this] at h
    cases h
/-- may a set be? -/
noncomputable def okAt (l : List Int) (i : Nat) : Bool := hasF (l.getD i 0) && (decide (i = 0) || decide (l.getD (i - 1) 0 < l.getD i 0))
noncomputable def mayL (l : List Int) : Bool := (List.range l.length).all (okAt l)
theorem may_is {l : List Int} (hl : l.length < 9223372036854775807) : bitmap_may.f l = some (mayL l) := by
  have hr : bitmap_may.l3 (l, l, (l.length : Int), 0) = some (bif mayL l then .inr () else .inl false) := by
    refine rounds_all (t := bitmap_may.t3) (fun i => (l, l, (l.length : Int), (i : Int))) (okAt l) (.inl false) (.inr ()) l.length (fun i hi => ?_) ?_
    · obtain ⟨k, v, len, h1, h2, h3⟩ := hasF_is (l.getD i 0)
      simp only [bitmap_may.t3, decide_eq_true (show (i : Int) < (l.length : Int) by omega), ge0 i, Bool.and_self, cond_true, Int.toNat_natCast, h2, Option.bind_some, wrap_up (show i < 9223372036854775807 by omega)]
      cases hf : hasF (l.getD i 0)
      · simp only [okAt, hf, Bool.false_and, cond_false]; rfl
      · simp only [okAt, hf, cond_true, Bool.true_and, show ((0 : Int) != 0) = false from rfl, cond_false]
        by_cases h0 : i = 0
        · subst h0; rfl
        · have w : IntKind.wrap .i64 ((i : Int) - 1) = ((i - 1 : Nat) : Int) := by rw [wrap_i64 (by omega) (by omega)]; omega
          simp only [decide_eq_true (show (i : Int) > 0 by omega), cond_true, w, ge0 (i - 1), decide_eq_true (show ((i - 1 : Nat) : Int) < (l.length : Int) by omega), Bool.and_self, Int.toNat_natCast, decide_eq_false h0, Bool.false_or]
          by_cases hlt : l.getD (i - 1) 0 < l.getD i 0
          · rw [decide_eq_false (show ¬ l.getD (i - 1) 0 ≥ l.getD i 0 by omega), decide_eq_true hlt]; rfl
          · rw [decide_eq_true (show l.getD (i - 1) 0 ≥ l.getD i 0 by omega), decide_eq_false hlt]; rfl
    · simp [bitmap_may.t3]
  unfold bitmap_may.f
  simp only [hr, Option.bind_some]
  cases mayL l <;> rfl
theorem refMay_is {l : List Int} (hl : l.length < 9223372036854775807) : bursarref17_May.f l = some (mayL l) := by
  have hr : bursarref17_May.l3 (l, 0) = some (bif mayL l then .inr () else .inl false) := by
    refine rounds_all (t := bursarref17_May.t3) (fun i => (l, (i : Int))) (okAt l) (.inl false) (.inr ()) l.length (fun i hi => ?_) ?_
    · obtain ⟨k, v, len, h1, h2, h3⟩ := hasF_is (l.getD i 0)
      simp only [bursarref17_May.t3, decide_eq_true (show (i : Int) < (l.length : Int) by omega), ge0 i, Bool.and_self, cond_true, Int.toNat_natCast, h1, Option.bind_some, h3, wrap_up (show i < 9223372036854775807 by omega)]
      cases hf : hasF (l.getD i 0)
      · simp only [okAt, hf, Bool.false_and, Bool.not_false, cond_true, cond_false]
      · simp only [okAt, hf, cond_true, Bool.true_and, Bool.not_true, cond_false]
        by_cases h0 : i = 0
        · subst h0; rfl
        · have w : IntKind.wrap .i64 ((i : Int) - 1) = ((i - 1 : Nat) : Int) := by rw [wrap_i64 (by omega) (by omega)]; omega
          simp only [decide_eq_true (show (i : Int) > 0 by omega), cond_true, w, ge0 (i - 1), decide_eq_true (show ((i - 1 : Nat) : Int) < (l.length : Int) by omega), Bool.and_self, Int.toNat_natCast, decide_eq_false h0, Bool.false_or]
          by_cases hlt : l.getD (i - 1) 0 < l.getD i 0
          · rw [decide_eq_false (show ¬ l.getD (i - 1) 0 ≥ l.getD i 0 by omega), decide_eq_true hlt]; rfl
          · rw [decide_eq_true (show l.getD (i - 1) 0 ≥ l.getD i 0 by omega), decide_eq_false hlt]; rfl
    · simp [bursarref17_May.t3]
  unfold bursarref17_May.f
  simp only [hr, Option.bind_some]
  cases mayL l <;> rfl
/-! ### bits -/
/-- the bit k of an octet, from the left -/
def bitN (v k : Nat) : Bool := decide (v / 2 ^ (7 - k) % 2 = 1)
theorem or_all : (List.range 256).all (fun v => (List.range 8).all fun k => (List.range 8).all fun j => bitN (bitsOp .or .u8 (v : Int) (Int.fdiv 128 (2 ^ (min k 8)))).toNat j == (decide (j = k) || bitN v j)) = true := by kernel_rfl
theorem or_bound : (List.range 256).all (fun v => (List.range 8).all fun k => decide (0 ≤ bitsOp .or .u8 (v : Int) (Int.fdiv 128 (2 ^ (min k 8)))) && decide (bitsOp .or .u8 (v : Int) (Int.fdiv 128 (2 ^ (min k 8))) < 256)) = true := by kernel_rfl
theorem and_all : (List.range 256).all (fun v => (List.range 8).all fun k => (bitsOp .and .u8 (v : Int) (Int.fdiv 128 (2 ^ (min k 8))) != 0) == bitN v k) = true := by kernel_rfl
theorem bits_all : (List.range 256).all (fun v => decide (v = (List.range 8).foldl (fun c k => 2 * c + (bif bitN v k then 1 else 0)) 0)) = true := by kernel_rfl
end Go.Proofs.YtkgnhjmbnmaboaaGreatDoor
end
section
/- The Go function bitmap.Map, as a Lean function, and that it is this one. Written by a program of this session. -/
set_option linter.unusedVariables false
set_option maxRecDepth 100000
namespace Go.Proofs.YtkgnhjmbnmaboaaGreatDoor
open Go Go.Fw
abbrev bitmap_Map.As : Shs := (.cons (.x (.l (.i .i64))) .nil)
abbrev bitmap_Map.m : Back := [(false, .s), (false, (.i .i64))]
noncomputable abbrev bitmap_Map.H : HK := hk P G1 E0 J0 [bitmap_may.row, bitmap_bit.row] noLoops 4
theorem bitmap_Map.rows : TabOK P G1 (tabF [bitmap_may.row, bitmap_bit.row]) := rows_ok (ws := [bitmap_may.row, bitmap_bit.row]) ⟨bitmap_may.row_ok, ⟨(bitmap_bit.row_ok.more g01), trivial⟩⟩
theorem bitmap_Map.hok : HKOK P bitmap_Map.H := hk_ok e0_ok j0_ok bitmap_Map.rows (fun g n => noLoops_ok g n) 4
noncomputable abbrev bitmap_Map.sh11 : SSh := ⟨[(4, (.own 0 1)), (30, (.x (.l (.i .i64)))), (31, (.x (.i .i64))), (32, (.x (.i .i64)))], [.arr (.i .u8)]⟩
noncomputable abbrev bitmap_Map.os11 : PEnds := [((.exit 0), ⟨[(4, (.x (.l (.i .u8))))], []⟩)]
noncomputable def bitmap_Map.t11 (s : ((List Int) × (Int × (Int × (List Int))))) : Option (((List Int) × (Int × (Int × (List Int)))) ⊕ ((List Int))) := (bif (decide ((s.2.2.1 < s.2.1))) then (bif ((decide (((0 : Int) ≤ s.2.2.1))) && (decide ((s.2.2.1 < ((List.length s.1) : Int))))) then (((bitmap_bit.f (List.getD s.1 (Int.toNat s.2.2.1) (0 : Int)))).bind fun (x4 : (Int × Int)) => (bif ((decide (((0 : Int) ≤ x4.1))) && (decide ((x4.1 < ((List.length s.2.2.2) : Int))))) then (bif (true && (Nat.blt (0 + (Int.toNat x4.1)) (List.length s.2.2.2))) then (bif ((decide (((0 : Int) ≤ x4.1))) && (decide ((x4.1 < ((List.length s.2.2.2) : Int))))) then (bif (true && (Nat.blt (0 + (Int.toNat x4.1)) (List.length s.2.2.2))) then (some (.inl (s.1, (s.2.1, ((IntKind.wrap .i64 (s.2.2.1 + (1 : Int))), (List.set s.2.2.2 (0 + (Int.toNat x4.1)) (bitsOp Go.BinOp.or Go.IntKind.u8 (List.getD s.2.2.2 (0 + (Int.toNat x4.1)) (0 : Int)) x4.2))))))) else none) else none) else none) else none)) else none) else (some (.inr s.2.2.2)))
theorem bitmap_Map.t11_ok : ∀ s : Vals bitmap_Map.sh11.tys, turnK P bitmap_Map.H (lp []) (bodyAt (codeOf P 85) 11) 0 bitmap_Map.sh11 bitmap_Map.os11 s some = bitmap_Map.t11 s := fun s => by kernel_rfl
noncomputable def bitmap_Map.l11 : ((List Int) × (Int × (Int × (List Int)))) → Option ((List Int)) := rounds bitmap_Map.t11
noncomputable def bitmap_Map.f (a : (List Int)) : Option (ByteArray × Int) := (((bitmap_may.f a)).bind fun (x1 : Bool) => (bif (!x1) then (some ((bs []), (1 : Int))) else (bif (decide ((((List.length a) : Int) > (0 : Int)))) then (bif ((decide (((0 : Int) ≤ (IntKind.wrap .i64 (((List.length a) : Int) - (1 : Int)))))) && (decide (((IntKind.wrap .i64 (((List.length a) : Int) - (1 : Int))) < ((List.length a) : Int))))) then (bif (decide (((List.getD a (Int.toNat (IntKind.wrap .i64 (((List.length a) : Int) - (1 : Int)))) (0 : Int)) > (64 : Int)))) then (((bitmap_Map.l11 (a, (((List.length a) : Int), ((0 : Int), [(128 : Int), (0 : Int), (0 : Int), (0 : Int), (0 : Int), (0 : Int), (0 : Int), (0 : Int), (0 : Int), (0 : Int), (0 : Int), (0 : Int), (0 : Int), (0 : Int), (0 : Int), (0 : Int)]))))).bind fun (x2 : (List Int)) => (some ((ByteArray.mk (List.toArray (List.map (fun y3 => (UInt8.ofNat (Int.toNat y3))) x2))), (0 : Int)))) else (((bitmap_Map.l11 (a, (((List.length a) : Int), ((0 : Int), [(0 : Int), (0 : Int), (0 : Int), (0 : Int), (0 : Int), (0 : Int), (0 : Int), (0 : Int)]))))).bind fun (x2 : (List Int)) => (some ((ByteArray.mk (List.toArray (List.map (fun y3 => (UInt8.ofNat (Int.toNat y3))) x2))), (0 : Int))))) else none) else (((bitmap_Map.l11 (a, (((List.length a) : Int), ((0 : Int), [(0 : Int), (0 : Int), (0 : Int), (0 : Int), (0 : Int), (0 : Int), (0 : Int), (0 : Int)]))))).bind fun (x2 : (List Int)) => (some ((ByteArray.mk (List.toArray (List.map (fun y3 => (UInt8.ofNat (Int.toNat y3))) x2))), (0 : Int)))))))
theorem bitmap_Map.ok : ∀ a : Vals bitmap_Map.As.tys, fnK P bitmap_Map.H (lp [(11, (NodeT.summ ⟨bitmap_Map.sh11, bitmap_Map.os11, bitmap_Map.l11⟩ 0))]) 85 bitmap_Map.As bitmap_Map.m a some = bitmap_Map.f a := fun a => by kernel_rfl
noncomputable abbrev bitmap_Map.row : Row := fnRow 85 bitmap_Map.As bitmap_Map.m bitmap_Map.f
theorem bitmap_Map.row_ok : RowOK P G1 bitmap_Map.row := row_told bitmap_Map.hok (lp_of (l := [(11, (NodeT.summ ⟨bitmap_Map.sh11, bitmap_Map.os11, bitmap_Map.l11⟩ 0))]) ⟨(loop_sum bitmap_Map.hok (by kernel_rfl) (by kernel_rfl) (l := []) trivial bitmap_Map.sh11 bitmap_Map.os11 (by kernel_rfl) bitmap_Map.t11 bitmap_Map.t11_ok), trivial⟩) (fun _ => rfl) bitmap_Map.ok
end Go.Proofs.YtkgnhjmbnmaboaaGreatDoor
end
section
/- A set's map, as octets: plain laws. By this session. -/
set_option linter.unusedVariables false
set_option linter.unusedSimpArgs false
namespace Go.Proofs.YtkgnhjmbnmaboaaGreatDoor
open Go Go.Fw
def orB (v k : Nat) : Nat := (bitsOp .or .u8 (v : Int) (Int.fdiv 128 (2 ^ (min k 8)))).toNat
theorem orB_is {v k : Nat} (hv : v < 256) (hk : k < 8) : bitsOp .or .u8 (v : Int) (Int.fdiv 128 (2 ^ (min k 8))) = (orB v k : Int) ∧ orB v k < 256 := by
  have := List.all_eq_true.1 (List.all_eq_true.1 or_bound v (List.mem_range.2 hv)) k (List.mem_range.2 hk)
  simp only [Bool.and_eq_true, decide_eq_true_eq] at this
  unfold orB
  omega
theorem orB_bit {v k j : Nat} (hv : v < 256) (hk : k < 8) (hj : j < 8) : bitN (orB v k) j = (decide (j = k) || bitN v j) :=
  eq_of_beq (List.all_eq_true.1 (List.all_eq_true.1 (List.all_eq_true.1 or_all v (List.mem_range.2 hv)) k (List.mem_range.2 hk)) j (List.mem_range.2 hj))
def stepB (b : List Nat) (n : Nat) : List Nat := b.set ((n - 1) / 8) (orB (b.getD ((n - 1) / 8) 0) ((n - 1) % 8))
abbrev ints (b : List Nat) : List Int := b.map fun (x : Nat) => (x : Int)
theorem ints_getD (b : List Nat) (j : Nat) : (ints b).getD j 0 = ((b.getD j 0 : Nat) : Int) := by
  simp only [List.getD_eq_getElem?_getD, List.getElem?_map]
  cases b[j]? <;> rfl
theorem bit_is {n : Nat} (h1 : 1 ≤ n) (h2 : n ≤ 1000) : bitmap_bit.f (n : Int) = some ((((n - 1) / 8 : Nat) : Int), Int.fdiv 128 (2 ^ (min ((n - 1) % 8) 8))) := by
  have w : IntKind.wrap .i64 ((n : Int) - 1) = ((n - 1 : Nat) : Int) := by rw [wrap_i64 (by omega) (by omega)]; omega
  have e1 : Int.tmod ((n - 1 : Nat) : Int) 8 = (((n - 1) % 8 : Nat) : Int) := by rw [Int.tmod_eq_emod_of_nonneg (by omega)]; rfl
  have e2 : Int.tdiv ((n - 1 : Nat) : Int) 8 = (((n - 1) / 8 : Nat) : Int) := by rw [Int.tdiv_eq_ediv_of_nonneg (by omega)]; rfl
  have w2 : IntKind.wrap .i64 (((n - 1) / 8 : Nat) : Int) = (((n - 1) / 8 : Nat) : Int) := wrap_i64 (by omega) (by omega)
  unfold bitmap_bit.f
  simp only [w, e1, e2, w2]
  rw [decide_eq_false (show ¬ (((n - 1) % 8 : Nat) : Int) < 0 by omega), cond_false, Int.toNat_natCast]
def okB (b : List Nat) : Prop := ∀ x ∈ b, x < 256
theorem okB_getD {b : List Nat} (h : okB b) (j : Nat) : b.getD j 0 < 256 := by
  rw [List.getD_eq_getElem?_getD]
  cases hj : b[j]? with
  | none => simp
  | some x => exact h x (List.mem_of_getElem? hj)
theorem stepB_len (b : List Nat) (n : Nat) : (stepB b n).length = b.length := List.length_set
theorem stepB_ok {b : List Nat} (h : okB b) (n : Nat) : okB (stepB b n) := fun x hx => by
  rcases List.mem_or_eq_of_mem_set hx with hx | rfl
  · exact h x hx
  · exact (orB_is (okB_getD h _) (by omega)).2
def bitB (b : List Nat) (n : Nat) : Bool := bitN (b.getD ((n - 1) / 8) 0) ((n - 1) % 8)
theorem stepB_bit {b : List Nat} (h : okB b) {m n : Nat} (hm : 1 ≤ m) (hm' : m ≤ 8 * b.length) (hn : 1 ≤ n) : bitB (stepB b m) n = (decide (n = m) || bitB b n) := by
  unfold bitB stepB
  have hlt : (m - 1) / 8 < b.length := by omega
  rw [List.getD_eq_getElem?_getD, List.getElem?_set]
  by_cases he : (m - 1) / 8 = (n - 1) / 8
  · rw [if_pos he, if_pos hlt]
    simp only [Option.getD_some]
    rw [orB_bit (okB_getD h _) (by omega) (by omega), he]
    congr 1
    rw [decide_eq_decide]
    omega
  · rw [if_neg he, ← List.getD_eq_getElem?_getD, decide_eq_false (fun e => he (by rw [e])), Bool.false_or]
/-- octets by octets, for all of a list -/
def putAll (l : List Int) (b : List Nat) : List Nat := l.foldl (fun b n => stepB b n.toNat) b
theorem putAll_len : ∀ (l : List Int) (b : List Nat), (putAll l b).length = b.length
  | [], b => rfl
  | n :: l, b => by
    show (putAll l (stepB b n.toNat)).length = _
    rw [putAll_len l, stepB_len]
theorem putAll_ok : ∀ (l : List Int) {b : List Nat}, okB b → okB (putAll l b)
  | [], b, h => h
  | n :: l, b, h => putAll_ok l (stepB_ok h _)
theorem putAll_bit : ∀ (l : List Int) {b : List Nat}, okB b → (∀ n ∈ l, 1 ≤ n ∧ n ≤ 8 * (b.length : Int)) → ∀ n : Nat, 1 ≤ n → bitB (putAll l b) n = (decide ((n : Int) ∈ l) || bitB b n)
  | [], b, h, hl, n, hn => by simp [putAll]
  | m :: l, b, h, hl, n, hn => by
    have hm := hl m List.mem_cons_self
    show bitB (putAll l (stepB b m.toNat)) n = _
    rw [putAll_bit l (stepB_ok h _) (fun x hx => by rw [stepB_len]; exact hl x (List.mem_cons_of_mem _ hx)) n hn, stepB_bit h (by omega) (by omega) hn]
    have e : decide ((n : Int) ∈ m :: l) = (decide ((n : Int) ∈ l) || decide (n = m.toNat)) := by
      rw [Bool.eq_iff_iff]
      simp only [List.mem_cons, decide_eq_true_eq, Bool.or_eq_true]
      constructor
      · rintro (rfl | h)
        · right; omega
        · exact .inl h
      · rintro (h | h)
        · exact .inr h
        · left; omega
    rw [e, Bool.or_assoc]
theorem map_rounds {l : List Int} {b : List Nat} (hb : okB b) (hl : ∀ n ∈ l, 1 ≤ n ∧ n ≤ 8 * (b.length : Int)) (hlen : l.length ≤ 1000) (hbl : b.length ≤ 100) : bitmap_Map.l11 (l, (l.length : Int), 0, ints b) = some (ints (putAll l b)) := by
  have st := rounds_to (t := bitmap_Map.t11) (fun i => (l, (l.length : Int), (i : Int), ints (putAll (l.take i) b))) l.length fun i hi => by
    have hm := hl _ (List.getElem_mem hi)
    obtain ⟨m, hm'⟩ : ∃ m : Nat, l.getD i 0 = m := ⟨(l.getD i 0).toNat, by rw [getD_at hi]; omega⟩
    have hmi : l[i] = (m : Int) := by rw [← getD_at hi (d := 0)]; exact hm'
    rw [hmi] at hm
    have hpl := putAll_len (l.take i) b
    have hpo := putAll_ok (l.take i) hb
    obtain ⟨c, hc⟩ : ∃ c, putAll (l.take i) b = c := ⟨_, rfl⟩
    have next : putAll (l.take (i + 1)) b = stepB c m := by
      rw [take_up 0 hi, hm', ← hc]
      unfold putAll
      rw [List.foldl_append]
      rfl
    rw [hc] at hpl hpo
    have hlt : (m - 1) / 8 < c.length := by omega
    simp only [bitmap_Map.t11, hc, hm', decide_eq_true (show (i : Int) < (l.length : Int) by omega), ge0 i, Bool.and_self, cond_true, Int.toNat_natCast, bit_is (show 1 ≤ m by omega) (show m ≤ 1000 by omega), Option.bind_some, ge0 ((m - 1) / 8), List.length_map, decide_eq_true (show (((m - 1) / 8 : Nat) : Int) < (c.length : Int) by omega), Nat.zero_add, Bool.true_and,
      ints_getD, (orB_is (okB_getD hpo ((m - 1) / 8)) (show (m - 1) % 8 < 8 by omega)).1, wrap_up (show i < 9223372036854775807 by omega), next]
    rw [show Nat.blt ((m - 1) / 8) c.length = true by rw [Nat.blt_eq]; exact hlt]
    simp only [cond_true, stepB, ints, List.map_set]
  have : bitmap_Map.l11 (l, (l.length : Int), 0, ints b) = rounds bitmap_Map.t11 (l, (l.length : Int), ((0 : Nat) : Int), ints (putAll (l.take 0) b)) := rfl
  rw [this, st]
  refine rounds_end ?_
  simp [bitmap_Map.t11]
end Go.Proofs.YtkgnhjmbnmaboaaGreatDoor
end
section
/- The Go function bursarref17.Map, as a Lean function, and that it is this one. Written by a program of this session. -/
set_option linter.unusedVariables false
set_option maxRecDepth 100000
namespace Go.Proofs.YtkgnhjmbnmaboaaGreatDoor
open Go Go.Fw
abbrev bursarref17_Map.As : Shs := (.cons (.x (.l (.i .i64))) .nil)
abbrev bursarref17_Map.m : Back := [(false, .s)]
noncomputable abbrev bursarref17_Map.H : HK := hk P G0 E0 J0 [] noLoops 4
theorem bursarref17_Map.rows : TabOK P G0 (tabF []) := rows_ok (ws := []) trivial
theorem bursarref17_Map.hok : HKOK P bursarref17_Map.H := hk_ok e0_ok j0_ok bursarref17_Map.rows (fun g n => noLoops_ok g n) 4
noncomputable abbrev bursarref17_Map.sh5 : SSh := ⟨[(0, (.x (.l (.i .i64)))), (3, (.ep 0 1 0 0)), (4, (.x (.i .i64))), (5, (.x (.i .i64)))], [.arr .b]⟩
noncomputable abbrev bursarref17_Map.os5 : PEnds := [((.exit 0), ⟨[(3, (.ep 0 1 0 0)), (4, (.x (.i .i64)))], [.arr .b]⟩)]
noncomputable def bursarref17_Map.t5 (s : ((List Int) × (Int × (Int × (List Bool))))) : Option (((List Int) × (Int × (Int × (List Bool)))) ⊕ ((Int × (List Bool)))) := (bif (decide ((s.2.2.1 < ((List.length s.1) : Int)))) then (bif ((decide (((0 : Int) ≤ s.2.2.1))) && (decide ((s.2.2.1 < ((List.length s.1) : Int))))) then (bif ((decide (((0 : Int) ≤ (List.getD s.1 (Int.toNat s.2.2.1) (0 : Int))))) && (decide (((List.getD s.1 (Int.toNat s.2.2.1) (0 : Int)) < (129 : Int))))) then (bif (true && (Nat.blt (0 + (Int.toNat (List.getD s.1 (Int.toNat s.2.2.1) (0 : Int)))) (List.length s.2.2.2))) then (bif ((decide (((0 : Int) ≤ s.2.2.1))) && (decide ((s.2.2.1 < ((List.length s.1) : Int))))) then (bif (decide (((List.getD s.1 (Int.toNat s.2.2.1) (0 : Int)) > (64 : Int)))) then (bif (true && (Nat.blt 1 (List.length (List.set s.2.2.2 (0 + (Int.toNat (List.getD s.1 (Int.toNat s.2.2.1) (0 : Int)))) true)))) then (some (.inl (s.1, ((128 : Int), ((IntKind.wrap .i64 (s.2.2.1 + (1 : Int))), (List.set (List.set s.2.2.2 (0 + (Int.toNat (List.getD s.1 (Int.toNat s.2.2.1) (0 : Int)))) true) 1 true)))))) else none) else (some (.inl (s.1, (s.2.1, ((IntKind.wrap .i64 (s.2.2.1 + (1 : Int))), (List.set s.2.2.2 (0 + (Int.toNat (List.getD s.1 (Int.toNat s.2.2.1) (0 : Int)))) true))))))) else none) else none) else none) else none) else (some (.inr (s.2.1, s.2.2.2))))
theorem bursarref17_Map.t5_ok : ∀ s : Vals bursarref17_Map.sh5.tys, turnK P bursarref17_Map.H (lp []) (bodyAt (codeOf P 44) 5) 0 bursarref17_Map.sh5 bursarref17_Map.os5 s some = bursarref17_Map.t5 s := fun s => by kernel_rfl
noncomputable def bursarref17_Map.l5 : ((List Int) × (Int × (Int × (List Bool)))) → Option ((Int × (List Bool))) := rounds bursarref17_Map.t5
noncomputable abbrev bursarref17_Map.sh9 : SSh := ⟨[(3, (.ep 0 1 0 0)), (4, (.x (.i .i64))), (6, (.x .s)), (7, (.x (.i .i64)))], [.arr .b]⟩
noncomputable abbrev bursarref17_Map.sh9_6 : SSh := ⟨[(3, (.ep 0 1 0 0)), (4, (.x (.i .i64))), (6, (.x .s)), (7, (.x (.i .i64))), (8, (.x (.i .i64))), (9, (.x (.i .i64)))], [.arr .b]⟩
noncomputable abbrev bursarref17_Map.os9_6 : PEnds := [((.exit 4), ⟨[(3, (.ep 0 1 0 0)), (4, (.x (.i .i64))), (6, (.x .s)), (7, (.x (.i .i64))), (8, (.x (.i .i64)))], [.arr .b]⟩)]
noncomputable def bursarref17_Map.t9_6 (s : (Int × (ByteArray × (Int × (Int × (Int × (List Bool))))))) : Option ((Int × (ByteArray × (Int × (Int × (Int × (List Bool)))))) ⊕ ((Int × (ByteArray × (Int × (Int × (List Bool))))))) := (bif (decide ((s.2.2.2.2.1 < (8 : Int)))) then (bif ((decide (((0 : Int) ≤ (IntKind.wrap .i64 (s.2.2.1 + s.2.2.2.2.1))))) && (decide (((IntKind.wrap .i64 (s.2.2.1 + s.2.2.2.2.1)) < (129 : Int))))) then (bif (true && (Nat.blt (0 + (Int.toNat (IntKind.wrap .i64 (s.2.2.1 + s.2.2.2.2.1)))) (List.length s.2.2.2.2.2))) then (bif (List.getD s.2.2.2.2.2 (0 + (Int.toNat (IntKind.wrap .i64 (s.2.2.1 + s.2.2.2.2.1)))) false) then (some (.inl (s.1, (s.2.1, (s.2.2.1, ((IntKind.wrap .i64 ((IntKind.wrap .i64 ((2 : Int) * s.2.2.2.1)) + (1 : Int))), ((IntKind.wrap .i64 (s.2.2.2.2.1 + (1 : Int))), s.2.2.2.2.2))))))) else (some (.inl (s.1, (s.2.1, (s.2.2.1, ((IntKind.wrap .i64 ((2 : Int) * s.2.2.2.1)), ((IntKind.wrap .i64 (s.2.2.2.2.1 + (1 : Int))), s.2.2.2.2.2)))))))) else none) else none) else (some (.inr (s.1, (s.2.1, (s.2.2.1, (s.2.2.2.1, s.2.2.2.2.2)))))))
theorem bursarref17_Map.t9_6_ok : ∀ s : Vals bursarref17_Map.sh9_6.tys, turnK P bursarref17_Map.H (lp []) (bodyAt (bodyAt (codeOf P 44) 9) 6) 0 bursarref17_Map.sh9_6 bursarref17_Map.os9_6 s some = bursarref17_Map.t9_6 s := fun s => by kernel_rfl
noncomputable def bursarref17_Map.l9_6 : (Int × (ByteArray × (Int × (Int × (Int × (List Bool)))))) → Option ((Int × (ByteArray × (Int × (Int × (List Bool)))))) := rounds bursarref17_Map.t9_6
noncomputable abbrev bursarref17_Map.os9 : PEnds := [((.exit 2), ⟨[(6, (.x .s))], []⟩)]
noncomputable def bursarref17_Map.t9 (s : (Int × (ByteArray × (Int × (List Bool))))) : Option ((Int × (ByteArray × (Int × (List Bool)))) ⊕ (ByteArray)) := (bif (decide ((s.2.2.1 ≤ s.1))) then (((bursarref17_Map.l9_6 (s.1, (s.2.1, (s.2.2.1, ((0 : Int), ((0 : Int), s.2.2.2))))))).bind fun (x4 : (Int × (ByteArray × (Int × (Int × (List Bool)))))) => (bif (Nat.ble (x4.2.1.size + (ByteArray.mk (List.toArray (List.map (fun y5 => (UInt8.ofNat (Int.toNat y5))) ((IntKind.wrap .u8 x4.2.2.2.1) :: [])))).size) 9223372036854775807) then (some (.inl (x4.1, ((x4.2.1 ++ (ByteArray.mk (List.toArray (List.map (fun y5 => (UInt8.ofNat (Int.toNat y5))) ((IntKind.wrap .u8 x4.2.2.2.1) :: []))))), ((IntKind.wrap .i64 (x4.2.2.1 + (8 : Int))), x4.2.2.2.2))))) else none)) else (some (.inr s.2.1)))
theorem bursarref17_Map.t9_ok : ∀ s : Vals bursarref17_Map.sh9.tys, turnK P bursarref17_Map.H (lp [(6, (NodeT.summ ⟨bursarref17_Map.sh9_6, bursarref17_Map.os9_6, bursarref17_Map.l9_6⟩ 0))]) (bodyAt (codeOf P 44) 9) 0 bursarref17_Map.sh9 bursarref17_Map.os9 s some = bursarref17_Map.t9 s := fun s => by kernel_rfl
noncomputable def bursarref17_Map.l9 : (Int × (ByteArray × (Int × (List Bool)))) → Option (ByteArray) := rounds bursarref17_Map.t9
noncomputable def bursarref17_Map.f (a : (List Int)) : Option ByteArray := (((bursarref17_Map.l5 (a, ((64 : Int), ((0 : Int), [false, false, false, false, false, false, false, false, false, false, false, false, false, false, false, false, false, false, false, false, false, false, false, false, false, false, false, false, false, false, false, false, false, false, false, false, false, false, false, false, false, false, false, false, false, false, false, false, false, false, false, false, false, false, false, false, false, false, false, false, false, false, false, false, false, false, false, false, false, false, false, false, false, false, false, false, false, false, false, false, false, false, false, false, false, false, false, false, false, false, false, false, false, false, false, false, false, false, false, false, false, false, false, false, false, false, false, false, false, false, false, false, false, false, false, false, false, false, false, false, false, false, false, false, false, false, false, false, false]))))).bind fun (x1 : (Int × (List Bool))) => (((bursarref17_Map.l9 (x1.1, ((bs []), ((1 : Int), x1.2))))).bind fun (x2 : ByteArray) => (some x2)))
theorem bursarref17_Map.ok : ∀ a : Vals bursarref17_Map.As.tys, fnK P bursarref17_Map.H (lp [(5, (NodeT.summ ⟨bursarref17_Map.sh5, bursarref17_Map.os5, bursarref17_Map.l5⟩ 0)), (9, (NodeT.summ ⟨bursarref17_Map.sh9, bursarref17_Map.os9, bursarref17_Map.l9⟩ 0))]) 44 bursarref17_Map.As bursarref17_Map.m a some = bursarref17_Map.f a := fun a => by kernel_rfl
noncomputable abbrev bursarref17_Map.row : Row := fnRow 44 bursarref17_Map.As bursarref17_Map.m bursarref17_Map.f
theorem bursarref17_Map.row_ok : RowOK P G0 bursarref17_Map.row := row_told bursarref17_Map.hok (lp_of (l := [(5, (NodeT.summ ⟨bursarref17_Map.sh5, bursarref17_Map.os5, bursarref17_Map.l5⟩ 0)), (9, (NodeT.summ ⟨bursarref17_Map.sh9, bursarref17_Map.os9, bursarref17_Map.l9⟩ 0))]) ⟨(loop_sum bursarref17_Map.hok (by kernel_rfl) (by kernel_rfl) (l := []) trivial bursarref17_Map.sh5 bursarref17_Map.os5 (by kernel_rfl) bursarref17_Map.t5 bursarref17_Map.t5_ok), ⟨(loop_sum bursarref17_Map.hok (by kernel_rfl) (by kernel_rfl) (l := [(6, (NodeT.summ ⟨bursarref17_Map.sh9_6, bursarref17_Map.os9_6, bursarref17_Map.l9_6⟩ 0))]) ⟨(loop_sum bursarref17_Map.hok (by kernel_rfl) (by kernel_rfl) (l := []) trivial bursarref17_Map.sh9_6 bursarref17_Map.os9_6 (by kernel_rfl) bursarref17_Map.t9_6 bursarref17_Map.t9_6_ok), trivial⟩ bursarref17_Map.sh9 bursarref17_Map.os9 (by kernel_rfl) bursarref17_Map.t9 bursarref17_Map.t9_ok), trivial⟩⟩) (fun _ => rfl) bursarref17_Map.ok
end Go.Proofs.YtkgnhjmbnmaboaaGreatDoor
end
section
/- The map of a set, as the program and as the document have it: plain laws. By this session. -/
set_option linter.unusedVariables false
set_option linter.unusedSimpArgs false
namespace Go.Proofs.YtkgnhjmbnmaboaaGreatDoor
open Go Go.Fw
theorem mayL_at {l : List Int} (h : mayL l = true) {i : Nat} (hi : i < l.length) : hasF (l.getD i 0) = true ∧ (0 < i → l.getD (i - 1) 0 < l.getD i 0) := by
  have := List.all_eq_true.1 h i (List.mem_range.2 hi)
  simp only [okAt, Bool.and_eq_true, Bool.or_eq_true, decide_eq_true_eq] at this
  exact ⟨this.1, fun h0 => by omega⟩
theorem mayL_mem {l : List Int} (h : mayL l = true) {n : Int} (hn : n ∈ l) : 2 ≤ n ∧ n ≤ 128 := by
  obtain ⟨i, hi, rfl⟩ := List.getElem_of_mem hn
  have := (mayL_at h hi).1
  rw [getD_at hi] at this
  exact hasF_bound this
theorem mayL_rise {l : List Int} (h : mayL l = true) {i : Nat} : ∀ {j : Nat}, i < j → j < l.length → l.getD i 0 < l.getD j 0
  | 0, hij, hj => by omega
  | j + 1, hij, hj => by
    have h1 := (mayL_at h hj).2 (by omega)
    rw [Nat.add_sub_cancel] at h1
    by_cases he : i = j
    · subst he; exact h1
    · have := mayL_rise h (i := i) (j := j) (by omega) (by omega)
      omega
def wide (l : List Int) : Bool := l.any fun n => decide (64 < n)
theorem wide_last {l : List Int} (h : mayL l = true) (hl : 0 < l.length) : decide (l.getD (l.length - 1) 0 > 64) = wide l := by
  rw [Bool.eq_iff_iff, decide_eq_true_eq]
  unfold wide
  rw [List.any_eq_true]
  constructor
  · intro hw
    refine ⟨_, ?_, decide_eq_true hw⟩
    rw [getD_at (by omega)]
    exact List.getElem_mem _
  · rintro ⟨n, hn, hw⟩
    obtain ⟨i, hi, rfl⟩ := List.getElem_of_mem hn
    have hw := of_decide_eq_true hw
    by_cases he : i = l.length - 1
    · subst he; rw [getD_at (by omega)]; exact hw
    · have := mayL_rise h (i := i) (j := l.length - 1) (by omega) (by omega)
      rw [getD_at hi] at this
      omega
def w16 : List Nat := [128, 0, 0, 0, 0, 0, 0, 0, 0, 0, 0, 0, 0, 0, 0, 0]
def z8 : List Nat := [0, 0, 0, 0, 0, 0, 0, 0]
def startB (l : List Int) : List Nat := bif wide l then w16 else z8
def mapL (l : List Int) : List Nat := putAll l (startB l)
def octs8 (b : List Nat) : List UInt8 := b.map UInt8.ofNat
theorem start_ok (l : List Int) : okB (startB l) := by
  unfold startB
  cases wide l
  · intro x hx; simp only [cond_false, z8, List.mem_cons, List.not_mem_nil, or_false] at hx; omega
  · intro x hx; simp only [cond_true, w16, List.mem_cons, List.not_mem_nil, or_false] at hx; omega
theorem start_len (l : List Int) : (startB l).length = bif wide l then 16 else 8 := by
  unfold startB
  cases wide l <;> rfl
theorem start_in {l : List Int} (h : mayL l = true) : ∀ n ∈ l, 1 ≤ n ∧ n ≤ 8 * ((startB l).length : Int) := fun n hn => by
  have := mayL_mem h hn
  rw [start_len]
  cases hw : wide l
  · have h64 : ¬ 64 < n := fun h64 => by
      have : wide l = true := List.any_eq_true.2 ⟨n, hn, decide_eq_true h64⟩
      rw [hw] at this; cases this
    simp only [cond_false]; omega
  · simp only [cond_true]; omega
theorem w16_bits : (List.range 129).all (fun n => decide (n = 0) || (bitB w16 n == decide (n = 1))) = true := by kernel_rfl
theorem z8_bits : (List.range 129).all (fun n => bitB z8 n == false) = true := by kernel_rfl
theorem start_bit (l : List Int) {n : Nat} (h1 : 1 ≤ n) (h2 : n ≤ 128) : bitB (startB l) n = (wide l && decide (n = 1)) := by
  unfold startB
  cases wide l
  · exact eq_of_beq (List.all_eq_true.1 z8_bits n (List.mem_range.2 (by omega)))
  · have := List.all_eq_true.1 w16_bits n (List.mem_range.2 (by omega))
    rw [decide_eq_false (show ¬ n = 0 by omega), Bool.false_or] at this
    exact eq_of_beq this
theorem mapL_bit {l : List Int} (h : mayL l = true) {n : Nat} (h1 : 1 ≤ n) (h2 : n ≤ 128) : bitB (mapL l) n = (decide ((n : Int) ∈ l) || (wide l && decide (n = 1))) := by
  unfold mapL
  rw [putAll_bit l (start_ok l) (start_in h) n h1, start_bit l h1 h2]
theorem mapL_len (l : List Int) : (mapL l).length = bif wide l then 16 else 8 := by unfold mapL; rw [putAll_len, start_len]
theorem mapL_ok (l : List Int) : okB (mapL l) := putAll_ok l (start_ok l)
theorem mk_ints (x : List Nat) : ByteArray.mk (List.toArray (List.map (fun y3 => UInt8.ofNat (Int.toNat y3)) (ints x))) = bs (octs8 x) := by
  unfold octs8 bs
  rw [List.map_map]
  rfl
theorem map_is {l : List Int} (hl : l.length ≤ 1000) : bitmap_Map.f l = some (bif mayL l then (bs (octs8 (mapL l)), 0) else (bs [], 1)) := by
  unfold bitmap_Map.f
  simp only [may_is (l := l) (by omega), Option.bind_some]
  cases hm : mayL l
  · rfl
  · have mr := map_rounds (l := l) (start_ok l) (start_in hm) hl (by rw [start_len]; cases wide l <;> simp)
    simp only [Bool.not_true, cond_false, cond_true]
    by_cases h0 : l.length = 0
    · have : l = [] := List.eq_nil_of_length_eq_zero h0
      subst this
      have : bitmap_Map.l11 ([], ((([] : List Int).length : Nat) : Int), 0, ints z8) = some (ints (putAll [] z8)) := mr
      rw [decide_eq_false (show ¬ ((([] : List Int).length : Nat) : Int) > 0 by simp), cond_false]
      have e : ([0, 0, 0, 0, 0, 0, 0, 0] : List Int) = ints z8 := rfl
      rw [e, this, Option.bind_some, mk_ints]
      rfl
    · have w : IntKind.wrap .i64 ((l.length : Int) - 1) = ((l.length - 1 : Nat) : Int) := by rw [wrap_i64 (by omega) (by omega)]; omega
      rw [decide_eq_true (show ((l.length : Nat) : Int) > 0 by omega), cond_true]
      simp only [w, ge0 (l.length - 1), decide_eq_true (show ((l.length - 1 : Nat) : Int) < (l.length : Int) by omega), Bool.and_self, cond_true, Int.toNat_natCast]
      rw [wide_last hm (by omega)]
      have e8 : ([0, 0, 0, 0, 0, 0, 0, 0] : List Int) = ints z8 := rfl
      have e16 : ([128, 0, 0, 0, 0, 0, 0, 0, 0, 0, 0, 0, 0, 0, 0, 0] : List Int) = ints w16 := rfl
      rw [e16, e8]
      unfold mapL
      unfold startB at mr ⊢
      cases hw : wide l <;> rw [hw] at mr <;> simp only [cond_false, cond_true] at mr ⊢ <;> rw [mr, Option.bind_some, mk_ints]
end Go.Proofs.YtkgnhjmbnmaboaaGreatDoor
end
