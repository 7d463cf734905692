/- Part 5 of what the proof of this statement stands on: A message's octets are its digits, its map's and its fields', and no others. -/
import Derived.WalkKit
import Derived.ProofKit
import Derived.OpenShut
import Derived.ShutString
import Derived.ChangeOld
import Derived.Carry
import Derived.Below
import Derived.SizedLaws
import Derived.Laws.Strings
import Derived.Lib.Bytealg
import Derived.Lib.ParseIntB
import Derived.Lib.ItoaNum
import Derived.Test.YtkgnhjmbnmaboaaDoorProg
import Derived.KernelRfl
import Derived.Laws.Externs
import Derived.Deep.Draws
import Derived.Shelf.Strconv.ErrVarAll
import Derived.Shelf.Strings.Fields
import Derived.Shelf.LaysM
import Derived.Shelf.Strconv.Itoa3
import Derived.Test.YtkgnhjmbnmaboaaDoorW4
section
/- A law's call, from its arguments as they may be read: it returns true, and what was handed in reads as it did. By this session. -/
set_option linter.unusedVariables false
set_option linter.unusedSimpArgs false
namespace Go.Fw
open Go.ChangeShapes Go.WideShapes Go.ChangeAt Go.RowKit
/-- are these types of the program these of plain data? -/
def okTys (P : Program) : List TypeId → List Ty → Bool
  | [], [] => true
  | t :: ts, T :: Ts => okTy P 40 t T && (P.readableRec t && (decide (t < P.types.size) && okTys P ts Ts))
  | _, _ => false
def FitAll : (Ts : List Ty) → Vals Ts → Prop
  | [], _ => True
  | [T], x => T.fit x
  | T :: T' :: Ts, x => T.fit x.1 ∧ FitAll (T' :: Ts) x.2
section
variable {P : Program} {H : Type} {enc : TypeId × Value → H} {W : World} {base : Nat}
theorem read_all : ∀ {ts : List TypeId} {Ts : List Ty} {vs : List Value} {ds : List (DataW H)} {ps : List MemPlace}, okTys P ts Ts = true → DataW.TrodAll enc P W 0 (fun _ => true) true ts vs ds ps →
    (∀ (j : Nat) t v, ts[j]? = some t → vs[j]? = some v → Value.okWide P W .any base t v) →
    ∃ a : Vals Ts, FitAll Ts a ∧ ds.length = ts.length ∧ vs.length = (elts Ts a).length ∧ (∀ (j : Nat) (d : D), (elts Ts a)[j]? = some d → ∃ v, vs[j]? = some v ∧ RelD W (fun b => b < W.heap.size) d v)
  | [], [], vs, ds, ps, hk, h, hv => by
    obtain ⟨rfl, rfl, rfl⟩ := trodAll_nil h
    exact ⟨(), trivial, rfl, rfl, fun j d hd => by simp [elts] at hd⟩
  | [], _ :: _, vs, ds, ps, hk, h, hv => by simp [okTys] at hk
  | _ :: _, [], vs, ds, ps, hk, h, hv => by simp [okTys] at hk
  | t :: ts, T :: Ts, vs, ds, ps, hk, h, hv => by
    simp only [okTys, Bool.and_eq_true] at hk
    obtain ⟨hk, _, _, hks⟩ := hk
    obtain ⟨v, vs', d, ds', p, q, rfl, rfl, rfl, h0, h1⟩ := trodAll_cons h
    obtain ⟨y, hy, hr⟩ := read_arg hk (hv 0 t v rfl rfl) h0
    obtain ⟨a, ha, hl, hls, hrs⟩ := read_all hks h1 fun j t v ht hj => hv (j + 1) t v ht hj
    cases Ts with
    | nil =>
      cases ts with
      | cons => simp [okTys] at hks
      | nil =>
        obtain ⟨rfl, rfl, rfl⟩ := trodAll_nil h1
        refine ⟨y, hy, rfl, rfl, fun j d hd => ?_⟩
        cases j with
        | zero => simp [elts] at hd; subst hd; exact ⟨v, rfl, hr⟩
        | succ j => simp [elts] at hd
    | cons T' Ts =>
      refine ⟨(y, a), ⟨hy, ha⟩, by simp [hl], by simp [elts, hls], fun j d hd => ?_⟩
      cases j with
      | zero => simp [elts] at hd; subst hd; exact ⟨v, rfl, hr⟩
      | succ j => simp only [elts, List.getElem?_cons_succ] at hd; exact hrs j d hd
theorem trod_back (hl : laidOutB P = true) {W' : World} (hb : Below W.heap.size W W') : ∀ {ts : List TypeId} {Ts : List Ty} {vs : List Value} {ds : List (DataW H)} {ps : List MemPlace}, okTys P ts Ts = true → DataW.TrodAll enc P W 0 (fun _ => true) true ts vs ds ps →
    DataW.TrodAll enc P W' 0 (fun b => decide (b < W.heap.size)) true ts vs ds ps
  | [], [], vs, ds, ps, hk, h => by
    obtain ⟨rfl, rfl, rfl⟩ := trodAll_nil h
    exact trodAll_mk0
  | [], _ :: _, vs, ds, ps, hk, h => by simp [okTys] at hk
  | _ :: _, [], vs, ds, ps, hk, h => by simp [okTys] at hk
  | t :: ts, T :: Ts, vs, ds, ps, hk, h => by
    simp only [okTys, Bool.and_eq_true, decide_eq_true_eq] at hk
    obtain ⟨hk, hrr, hsz, hks⟩ := hk
    obtain ⟨v, vs', d, ds', p, q, rfl, rfl, rfl, h0, h1⟩ := trodAll_cons h
    have lt : ∀ x ∈ p, x.block < W.heap.size := by
      obtain ⟨m, hm⟩ := h0
      exact DataW.trod_lt m _ _ _ hm
    exact trodAll_cons_mk (Below.trod hl hrr hsz h0 hb lt) (trod_back hl hb hks h1)
/-- a law's call -/
theorem law_call {G : Nat → Option (List D)} {fn : Func} {g : FuncId} {As : Shs} {F : Vals As.tys → Option Bool} {s : ChangeSpec} {tb : TypeId} (hl : laidOutB P = true)
    (hok : RowOK P G (fnRow g As [(false, .b)] F)) (hgl : Glob ⟨W, fun b => b < W.heap.size, fun _ => False, fun _ => 0, fun _ => 0, G⟩) (hty : okTys P fn.params.toList As.tys = true) (hdec : ∀ a : Vals As.tys, decArgs As (elts As.tys a) = some a)
    (hres : fn.resultTypes = #[tb]) (htb : P.underlying tb = some .bool) (hvars : s.vars = []) (hspec : ∀ ds : List (DataW H), ds.length = fn.params.toList.length → (s.fn H ds).results = [.lit (.bool true)] ∧ (s.fn H ds).args = ds ∧ (s.fn H ds).vars = [])
    (hlaw : ∀ a : Vals As.tys, FitAll As.tys a → F a = some true)
    {args : Array Value} {ds gs : List (DataW H)} {before : List MemPlace} (hval : ∀ (j : Nat) t v, fn.params[j]? = some t → args[j]? = some v → Value.okWide P W .any base t v)
    (hW : DataW.Whole enc P fn.params.toList s.vars false W args.toList ds gs before) :
    Calls P g args W fun e W' => ∃ v, e = .returned v ∧ s.post enc P fn false true false false W args v W' := by
  have hW' := hW
  obtain ⟨p, q, hA, hV, rfl, hfz, hnd⟩ := hW
  obtain ⟨a, ha, hdl, hvl, hr⟩ := read_all hty hA fun j t v ht hv => hval j t v (by rw [← Array.getElem?_toList]; exact ht) (by rw [← Array.getElem?_toList]; exact hv)
  rw [hvars] at hV
  obtain ⟨rfl, rfl⟩ := trodVars_none hV
  have call := (hok _ a true (hdec a) (hlaw a ha)).2
  refine (top_call (W := W) (vs := args) call hgl (by rw [← Array.length_toList]; exact hvl) (fun j d hd => ?_)).mono ?_
  · obtain ⟨v, hv, hrel⟩ := hr j d hd
    rw [Array.getElem?_toList] at hv
    rw [Array.getD_eq_getD_getElem?, hv]
    exact hrel
  · rintro e W' ⟨⟨v, I', rfl, hx⟩, bel⟩
    have hv : v = .bool true := by
      have hx' : RelX W' I' (fun _ => False) (.b true) v := hx
      cases hx'; rfl
    subst hv
    obtain ⟨s1, s2, s3⟩ := hspec (ds ++ []) (by rw [List.append_nil]; exact hdl)
    refine ⟨_, rfl, ds, [], p ++ [], [], p, [], hW', ?_, ?_, ?_, bel.frame _, fun h => by cases h⟩
    · rw [s1, hres]
      exact trodAll_mk1 (shut_bool htb _)
    · rw [s2, List.append_nil]
      exact trod_back hl bel hty hA
    · rw [s3, hvars]; rfl
end
end Go.Fw
end
section
/- Loops as rounds, texts and numbers: plain laws. By this session. -/
set_option linter.unusedVariables false
set_option linter.unusedSimpArgs false
namespace Go.Fw
theorem wrap_i64 {n : Int} (h1 : -9223372036854775808 ≤ n) (h2 : n ≤ 9223372036854775807) : IntKind.wrap .i64 n = n := by rw [IntKind.wrap_i64]; omega
theorem wrap_u64 (n : Int) : IntKind.wrap .u64 n = n % 18446744073709551616 := by
  show (if (false && decide (n % 18446744073709551616 ≥ 9223372036854775808)) = true then n % 18446744073709551616 - 18446744073709551616 else n % 18446744073709551616) = _
  simp
theorem wrap_u8 (n : Int) : IntKind.wrap .u8 n = n % 256 := by
  show (if (false && decide (n % 256 ≥ 128)) = true then n % 256 - 256 else n % 256) = _
  simp
theorem wrap_up {n : Nat} (h : n < 9223372036854775807) : IntKind.wrap .i64 ((n : Int) + 1) = ((n + 1 : Nat) : Int) := by rw [wrap_i64 (by omega) (by omega)]; omega
theorem bt_bound (s : ByteArray) (i : Nat) : 0 ≤ bt s i ∧ bt s i ≤ 255 := by
  unfold bt
  have := (s.data.toList.getD i 0).toNat_lt
  omega
section
variable {S R : Type} {t : S → Option (S ⊕ R)}
theorem rounds_end {s : S} {r : R} (h : t s = some (.inr r)) : rounds t s = some r := by rw [rounds_eq, h]
theorem rounds_next {s s' : S} (h : t s = some (.inl s')) : rounds t s = rounds t s' := by rw [rounds_eq, h]
theorem rounds_to (st : Nat → S) (n : Nat) (h : ∀ i, i < n → t (st i) = some (.inl (st (i + 1)))) : rounds t (st 0) = rounds t (st n) := by
  induction n with
  | zero => rfl
  | succ n ih => rw [ih fun i hi => h i (by omega), rounds_next (h n (by omega))]
/-- rounds that go on while it is so -/
theorem rounds_all (st : Nat → S) (p : Nat → Bool) (out fin : R) (n : Nat) (h : ∀ i, i < n → t (st i) = some (bif p i then .inl (st (i + 1)) else .inr out)) (hf : t (st n) = some (.inr fin)) :
    rounds t (st 0) = some (bif (List.range n).all p then fin else out) := by
  have go : ∀ k, k ≤ n → rounds t (st 0) = bif (List.range k).all p then rounds t (st k) else some out := by
    intro k
    induction k with
    | zero => intro _; rfl
    | succ k ih =>
      intro hk
      rw [ih (by omega), List.range_succ, List.all_append]
      cases (List.range k).all p with
      | false => rfl
      | true =>
        have h1 := h k (by omega)
        cases hp : p k with
        | false => rw [hp] at h1; simp [hp, rounds_end h1]
        | true => rw [hp] at h1; simp [hp, rounds_next h1]
  rw [go n (Nat.le_refl _), rounds_end hf]
  cases (List.range n).all p <;> rfl
end
/-- sums of so many -/
def sumTo (f : Nat → Int) : Nat → Int
  | 0 => 0
  | n + 1 => sumTo f n + f n
theorem sumTo_back (f : Nat → Int) : ∀ n, sumTo (fun j => f (n - 1 - j)) n = sumTo f n := by
  have first : ∀ (g : Nat → Int) (n : Nat), sumTo g (n + 1) = g 0 + sumTo (fun j => g (j + 1)) n := by
    intro g n
    induction n with
    | zero => simp [sumTo]
    | succ n ih => rw [sumTo, ih, sumTo]; omega
  have same : ∀ (g h : Nat → Int) (n : Nat), (∀ j, j < n → g j = h j) → sumTo g n = sumTo h n := by
    intro g h n
    induction n with
    | zero => intro _; rfl
    | succ n ih => intro hh; rw [sumTo, sumTo, ih fun j hj => hh j (by omega), hh n (by omega)]
  intro n
  induction n with
  | zero => rfl
  | succ n ih =>
    rw [first, sumTo, ← ih, same (fun j => f (n + 1 - 1 - (j + 1))) (fun j => f (n - 1 - j)) n fun j hj => by
      have : n + 1 - 1 - (j + 1) = n - 1 - j := by omega
      simp only [this]]
    simp only [Nat.add_sub_cancel, Nat.sub_zero]
    omega
theorem sumTo_bound {f : Nat → Int} {b : Int} : ∀ {n : Nat}, (∀ j, j < n → 0 ≤ f j ∧ f j ≤ b) → 0 ≤ sumTo f n ∧ sumTo f n ≤ b * n
  | 0, _ => by simp [sumTo]
  | n + 1, h => by
    have ih := sumTo_bound (f := f) (b := b) (n := n) fun j hj => h j (by omega)
    have := h n (by omega)
    have e : b * ((n + 1 : Nat) : Int) = b * n + b := by rw [Int.natCast_add, Int.mul_add]; simp
    rw [sumTo, e]
    omega
theorem sumTo_same {g h : Nat → Int} : ∀ {n : Nat}, (∀ j, j < n → g j = h j) → sumTo g n = sumTo h n
  | 0, _ => rfl
  | n + 1, hh => by rw [sumTo, sumTo, sumTo_same fun j hj => hh j (by omega), hh n (by omega)]
/-! ### lists -/
theorem getD_at {α : Type} {l : List α} {i : Nat} {d : α} (h : i < l.length) : l.getD i d = l[i] := by simp [List.getD_eq_getElem?_getD, List.getElem?_eq_getElem h]
theorem take_up {α : Type} {l : List α} {i : Nat} (d : α) (h : i < l.length) : l.take (i + 1) = l.take i ++ [l.getD i d] := by
  rw [List.take_succ_eq_append_getElem h, getD_at h]
theorem range_all {α : Type} (p : α → Bool) (d : α) (l : List α) : ((List.range l.length).all fun i => p (l.getD i d)) = l.all p := by
  rw [Bool.eq_iff_iff, List.all_eq_true, List.all_eq_true]
  constructor
  · intro h x hx
    obtain ⟨i, hi, rfl⟩ := List.getElem_of_mem hx
    have := h i (List.mem_range.2 hi)
    rwa [getD_at hi] at this
  · intro h i hi
    have hi := List.mem_range.1 hi
    rw [getD_at hi]
    exact h _ (List.getElem_mem hi)
/-- is there room for one more? -/
theorem room {n m : Nat} (w k : Nat) (h : n ≤ m) (hw : (m + 1) * w ≤ k) : Nat.ble ((n + 1) * w) k = true := Nat.ble_eq_true_of_le (Nat.le_trans (Nat.mul_le_mul_right w (by omega)) hw)
/-- an amount -/
def Am (a : Int) : Prop := -9223372036854775808 ≤ a ∧ a ≤ 9223372036854775807
end Go.Fw
end
section
/- Loops that stop at the first place where something is so: plain laws. By this session. -/
set_option linter.unusedVariables false
set_option linter.unusedSimpArgs false
namespace Go.Fw
section
variable {S R : Type} {t : S → Option (S ⊕ R)}
theorem range_none {n k : Nat} {ex : Nat → Option R} (hk : k ≤ n) (h : ∀ j, j < k → ex j = none) : (List.range k).findSome? ex = none := by
  rw [List.findSome?_eq_none_iff]
  intro j hj
  exact h j (List.mem_range.1 hj)
theorem range_some {n k : Nat} {ex : Nat → Option R} {r : R} (hk : k < n) (h : ∀ j, j < k → ex j = none) (hr : ex k = some r) : (List.range n).findSome? ex = some r := by
  have e : List.range n = List.range k ++ k :: (List.range (n - k - 1)).map (· + (k + 1)) := by
    have h1 : n = k + (1 + (n - k - 1)) := by omega
    rw [h1, List.range_add, List.range_add]
    simp
    intro a _
    omega
  rw [e, List.findSome?_append, range_none (Nat.le_refl k) h]
  simp [hr]
/-- rounds that go on till something is so -/
theorem rounds_first (st : Nat → S) (ex : Nat → Option R) (fin : R) (n : Nat) (h : ∀ i, i < n → (∀ j, j < i → ex j = none) → t (st i) = some (match ex i with | some r => .inr r | none => .inl (st (i + 1))))
    (hf : (∀ j, j < n → ex j = none) → t (st n) = some (.inr fin)) : rounds t (st 0) = some (((List.range n).findSome? ex).getD fin) := by
  have go : ∀ k, k ≤ n → (∀ j, j < k → ex j = none) → rounds t (st 0) = rounds t (st k) := by
    intro k
    induction k with
    | zero => intro _ _; rfl
    | succ k ih =>
      intro hk hj
      rw [ih (by omega) fun j h => hj j (by omega)]
      have h1 := h k (by omega) fun j h => hj j (by omega)
      rw [hj k (by omega)] at h1
      exact rounds_next h1
  by_cases ha : ∀ j, j < n → ex j = none
  · rw [go n (Nat.le_refl _) ha, rounds_end (hf ha), range_none (Nat.le_refl n) ha]
    rfl
  · have hex : ∃ k, k < n ∧ (∀ j, j < k → ex j = none) ∧ ∃ r, ex k = some r := by
      clear h hf go
      induction n with
      | zero => exact absurd (fun j hj => by omega) ha
      | succ n ih =>
        by_cases h' : ∀ j, j < n → ex j = none
        · cases hn : ex n with
          | none => exact absurd (fun j hj => by
              by_cases e : j = n
              · rw [e]; exact hn
              · exact h' j (by omega)) ha
          | some r => exact ⟨n, by omega, h', r, hn⟩
        · obtain ⟨k, h1, h2⟩ := ih h'
          exact ⟨k, by omega, h2⟩
    obtain ⟨k, hk, hj, r, hr⟩ := hex
    have h1 := h k hk hj
    rw [hr] at h1
    rw [go k (by omega) hj, rounds_end h1, range_some hk hj hr]
    rfl
/-- .. along a list -/
theorem findSome_range {α : Type} (l : List α) (d : α) (f : α → Option R) : (List.range l.length).findSome? (fun i => f (l.getD i d)) = l.findSome? f := by
  induction l with
  | nil => rfl
  | cons a l ih =>
    rw [List.length_cons, List.range_succ_eq_map, List.findSome?_cons, List.findSome?_cons]
    simp only [List.getD_cons_zero, List.findSome?_map]
    cases f a with
    | some r => rfl
    | none =>
      rw [← ih]
      rfl
theorem rounds_list {α : Type} (l : List α) (d : α) (st : Nat → S) (f : α → Option R) (fin : R) (h : ∀ i, i < l.length → t (st i) = some (match f (l.getD i d) with | some r => .inr r | none => .inl (st (i + 1))))
    (hf : t (st l.length) = some (.inr fin)) : rounds t (st 0) = some ((l.findSome? f).getD fin) := by
  rw [← findSome_range l d f]
  exact rounds_first st (fun i => f (l.getD i d)) fin l.length (fun i hi _ => h i hi) fun _ => hf
/-- rounds over all of a list -/
theorem rounds_map {α β : Type} (l : List α) (d : α) (g : α → β) (st : List β → Nat → S) (out : List β → R) (h : ∀ i, i < l.length → t (st ((l.take i).map g) i) = some (.inl (st ((l.take i).map g ++ [g (l.getD i d)]) (i + 1))))
    (hf : ∀ acc, acc = l.map g → t (st acc l.length) = some (.inr (out acc))) : rounds t (st [] 0) = some (out (l.map g)) := by
  have := rounds_to (t := t) (fun i => st ((l.take i).map g) i) l.length (fun i hi => by
    rw [h i hi, take_up d hi, List.map_append]; rfl)
  simp only [List.take_zero, List.map_nil, List.take_length] at this
  rw [this]
  exact rounds_end (hf _ rfl)
end
theorem ge0' (i : Nat) : decide ((0 : Int) ≤ (i : Int)) = true := decide_eq_true (by omega)
/-- is a place within a list? -/
theorem inb {i n : Nat} (h : i < n) : decide (((i : Nat) : Int) < ((n : Nat) : Int)) = true := decide_eq_true (by omega)
theorem outb (n : Nat) : decide (((n : Nat) : Int) < ((n : Nat) : Int)) = false := decide_eq_false (by omega)
/-- is there one that is not so? -/
theorem find_not {β : Type} {n : Nat} {p : Nat → Bool} {g : Nat → β} : (∃ i, i < n ∧ (List.range n).findSome? (fun i => bif p i then none else some (g i)) = some (g i) ∧ (List.range n).all p = false) ∨ ((List.range n).findSome? (fun i => bif p i then none else some (g i)) = none ∧ (List.range n).all p = true) := by
  cases hq : (List.range n).findSome? (fun i => bif p i then none else some (g i)) with
  | none =>
    right
    refine ⟨rfl, ?_⟩
    rw [List.all_eq_true]
    intro i hi
    have := (List.findSome?_eq_none_iff.1 hq) i hi
    cases hb : p i
    · rw [hb] at this; cases this
    · rfl
  | some r =>
    left
    obtain ⟨i, hi, hr⟩ := List.exists_of_findSome?_eq_some hq
    cases hb : p i <;> rw [hb] at hr
    · injection hr with hr
      refine ⟨i, List.mem_range.1 hi, by rw [hr], ?_⟩
      rw [← Bool.not_eq_true, List.all_eq_true]
      intro h
      rw [h i hi] at hb
      cases hb
    · cases hr
end Go.Fw
end
section
/- Texts as lists of octets; digits of numbers. By this session. -/
set_option linter.unusedVariables false
set_option linter.unusedSimpArgs false
namespace Go.Fw
open Go
theorem eq_bs (s : ByteArray) : s = bs s.data.toList := by cases s; simp [bs]
theorem bs_data (l : List UInt8) : (bs l).data = l.toArray := rfl
theorem bs_list (l : List UInt8) : (bs l).data.toList = l := by simp [bs]
theorem bs_toList (l : List UInt8) : (bs l).toList = l := by rw [ByteArray.toList_eq, bs_list]
theorem bs_size (l : List UInt8) : (bs l).size = l.length := by show (bs l).data.size = _; simp [bs]
theorem bs_append (l r : List UInt8) : bs l ++ bs r = bs (l ++ r) := by
  apply ByteArray.ext
  rw [ByteArray.data_append]
  simp [bs]
theorem bs_extract (l : List UInt8) (i j : Nat) : (bs l).extract i j = bs ((l.take j).drop i) := by
  apply ByteArray.ext
  rw [ByteArray.data_extract]
  apply Array.toList_inj.1
  simp [bs, List.extract_eq_take_drop, List.drop_take]
theorem bt_bs (l : List UInt8) (i : Nat) : bt (bs l) i = ((l.getD i 0).toNat : Int) := by unfold bt; rw [bs_list]
theorem bs_inj {l r : List UInt8} : bs l = bs r ↔ l = r := ⟨fun h => by rw [← bs_list l, h, bs_list], fun h => by rw [h]⟩
theorem texts_eq (x y : ByteArray) : (ByteArray.toList x == ByteArray.toList y) = decide (x = y) := by
  rw [ByteArray.toList_eq, ByteArray.toList_eq, Bool.eq_iff_iff, beq_iff_eq, decide_eq_true_iff]
  constructor
  · intro h
    cases x; cases y
    simp only [Array.toList_inj] at h
    rw [h]
  · intro h; rw [h]
theorem texts_list (x : ByteArray) (l : List UInt8) : (ByteArray.toList x == l) = decide (x = bs l) := by
  rw [← texts_eq, bs_toList]
theorem texts_nil (x : ByteArray) : (ByteArray.toList x == []) = decide (x = bs []) := by
  rw [← texts_eq, bs_toList]
/-- the digit of a number below 10 -/
abbrev dgt (n : Nat) : UInt8 := UInt8.ofNat (48 + n)
theorem dgt_nat {n : Nat} (h : n < 10) : (dgt n).toNat = 48 + n := by simp [dgt, UInt8.toNat_ofNat']; omega
/-- digits, of numbers above 0; of 0 none -/
def decP : Nat → Nat → List UInt8
  | 0, _ => []
  | k + 1, n => if n = 0 then [] else decP k (n / 10) ++ [dgt (n % 10)]
theorem decF_decP : ∀ (k n : Nat), n < 10 ^ (k + 1) → decF (k + 1) n = decP k (n / 10) ++ [dgt (n % 10)]
  | 0, n, h => by
    have h' : n < 10 := by simpa using h
    have hb : Nat.blt n 10 = true := by rw [Nat.blt_eq]; exact h'
    unfold decF decP
    simp only [hb, cond_true, List.nil_append]
    rw [show n % 10 = n by omega]
  | k + 1, n, h => by
    unfold decF decP
    by_cases h' : n < 10
    · have hb : Nat.blt n 10 = true := by rw [Nat.blt_eq]; exact h'
      simp only [hb, cond_true]
      rw [if_pos (by omega), show n % 10 = n by omega]; rfl
    · have hb : Nat.blt n 10 = false := by
        cases hb : Nat.blt n 10
        · rfl
        · rw [Nat.blt_eq] at hb; omega
      simp only [hb, cond_false]
      rw [if_neg (by omega), decF_decP k (n / 10) (by have : 10 ^ (k + 1 + 1) = 10 ^ (k + 1) * 10 := Nat.pow_succ ..; omega)]
theorem decP_len : ∀ (k n : Nat), (decP k n).length ≤ k
  | 0, _ => by simp [decP]
  | k + 1, n => by
    unfold decP
    split
    · simp
    · have := decP_len k (n / 10); simp; omega
theorem decP_dig : ∀ (k n : Nat) (c : UInt8), c ∈ decP k n → 48 ≤ c.toNat ∧ c.toNat ≤ 57
  | 0, _, c, h => by simp [decP] at h
  | k + 1, n, c, h => by
    unfold decP at h
    split at h
    · simp at h
    · rcases List.mem_append.1 h with h | h
      · exact decP_dig k _ c h
      · rw [List.mem_singleton.1 h, dgt_nat (by omega)]; omega
/-- digits are parsed, one by one -/
theorem parse_decP (M : Nat) : ∀ (k n : Nat) (t : List UInt8), n < 10 ^ k → n < 18446744073709551616 → n ≤ M → Lib.parseUintM M 0 (decP k n ++ t) = Lib.parseUintM M n t
  | 0, n, t, h, _, _ => by
    have : n = 0 := by simpa using h
    subst this; rfl
  | k + 1, n, t, h, h2, h3 => by
    unfold decP
    split
    · rename_i h0; subst h0; rfl
    · rw [List.append_assoc, parse_decP M k (n / 10) _ (by have : 10 ^ (k + 1) = 10 ^ k * 10 := Nat.pow_succ ..; omega) (by omega) (by omega)]
      have hd := dgt_nat (n := n % 10) (by omega)
      conv => lhs; unfold Lib.parseUintM
      simp only [List.singleton_append, hd]
      rw [if_pos (by omega), if_neg (by omega), if_neg (by omega)]
      congr 1
      omega
theorem parse_dig {M acc n : Nat} {t : List UInt8} (h : n < 10) (h1 : acc * 10 + n ≤ M) (h2 : acc * 10 < 18446744073709551610) : Lib.parseUintM M acc (dgt n :: t) = Lib.parseUintM M (acc * 10 + n) t := by
  have hd := dgt_nat h
  conv => lhs; unfold Lib.parseUintM
  simp only [hd]
  rw [if_pos (by omega), if_neg (by omega), if_neg (by omega)]
  congr 1
  omega
theorem indexByte_skip (c : UInt8) : ∀ (l t : List UInt8), (∀ x, x ∈ l → x ≠ c) → Lib.indexByte (l ++ c :: t) c = l.length
  | [], t, _ => by simp [Lib.indexByte]
  | x :: l, t, h => by
    have hx : (x == c) = false := by simpa using h x (List.mem_cons_self ..)
    have ih := indexByte_skip c l t fun y hy => h y (List.mem_cons_of_mem _ hy)
    have hn : (Lib.indexByte (l ++ c :: t) c == -1) = false := by rw [ih]; simp only [beq_eq_false_iff_ne]; omega
    rw [List.cons_append, Lib.indexByte, hx]
    rw [if_neg (by simp), if_neg (by simp [hn]), ih]
    simp
theorem indexByte_lt (c : UInt8) : ∀ (l : List UInt8), Lib.indexByte l c < l.length
  | [] => by simp [Lib.indexByte]
  | x :: l => by
    have ih := indexByte_lt c l
    rw [Lib.indexByte]
    split
    · simp
    · split
      · simp; omega
      · simp; omega
end Go.Fw
end
section
/- The program of this seat, the types of its data, and its functions without a body. By this session. -/
set_option linter.unusedVariables false
set_option linter.unusedSimpArgs false
namespace Go.Proofs.YtkgnhjmbnmaboaaDoor
open Go Go.Fw
noncomputable abbrev P := Tryd.prog
theorem pick_le {n : Nat} {cs : List D} {A B : Nat → Option (List D)} (h : ∀ g c, A g = some c → B g = some c) : ∀ g c, (bif g == n then some cs else A g) = some c → (bif g == n then some cs else B g) = some c := by
  intro g c
  cases (g == n)
  · exact h g c
  · exact fun h => h
abbrev G0 : Nat → Option (List D) := fun g => bif g == 5 then some [.i .u64 1, .i .u64 10, .i .u64 100, .i .u64 1000, .i .u64 10000, .i .u64 100000, .i .u64 1000000, .i .u64 10000000, .i .u64 100000000, .i .u64 1000000000, .i .u64 10000000000, .i .u64 100000000000, .i .u64 1000000000000, .i .u64 10000000000000, .i .u64 100000000000000, .i .u64 1000000000000000, .i .u64 10000000000000000, .i .u64 100000000000000000, .i .u64 1000000000000000000, .i .u64 10000000000000000000] else bif g == 0 then some [.i .u8 0, .i .u8 0, .i .u8 0, .i .u8 0, .i .u8 0, .i .u8 0, .i .u8 0, .i .u8 0, .i .u8 0, .i .u8 1, .i .u8 1, .i .u8 1, .i .u8 1, .i .u8 1, .i .u8 0, .i .u8 0, .i .u8 0, .i .u8 0, .i .u8 0, .i .u8 0, .i .u8 0, .i .u8 0, .i .u8 0, .i .u8 0, .i .u8 0, .i .u8 0, .i .u8 0, .i .u8 0, .i .u8 0, .i .u8 0, .i .u8 0, .i .u8 0, .i .u8 1, .i .u8 0, .i .u8 0, .i .u8 0, .i .u8 0, .i .u8 0, .i .u8 0, .i .u8 0, .i .u8 0, .i .u8 0, .i .u8 0, .i .u8 0, .i .u8 0, .i .u8 0, .i .u8 0, .i .u8 0, .i .u8 0, .i .u8 0, .i .u8 0, .i .u8 0, .i .u8 0, .i .u8 0, .i .u8 0, .i .u8 0, .i .u8 0, .i .u8 0, .i .u8 0, .i .u8 0, .i .u8 0, .i .u8 0, .i .u8 0, .i .u8 0, .i .u8 0, .i .u8 0, .i .u8 0, .i .u8 0, .i .u8 0, .i .u8 0, .i .u8 0, .i .u8 0, .i .u8 0, .i .u8 0, .i .u8 0, .i .u8 0, .i .u8 0, .i .u8 0, .i .u8 0, .i .u8 0, .i .u8 0, .i .u8 0, .i .u8 0, .i .u8 0, .i .u8 0, .i .u8 0, .i .u8 0, .i .u8 0, .i .u8 0, .i .u8 0, .i .u8 0, .i .u8 0, .i .u8 0, .i .u8 0, .i .u8 0, .i .u8 0, .i .u8 0, .i .u8 0, .i .u8 0, .i .u8 0, .i .u8 0, .i .u8 0, .i .u8 0, .i .u8 0, .i .u8 0, .i .u8 0, .i .u8 0, .i .u8 0, .i .u8 0, .i .u8 0, .i .u8 0, .i .u8 0, .i .u8 0, .i .u8 0, .i .u8 0, .i .u8 0, .i .u8 0, .i .u8 0, .i .u8 0, .i .u8 0, .i .u8 0, .i .u8 0, .i .u8 0, .i .u8 0, .i .u8 0, .i .u8 0, .i .u8 0, .i .u8 0, .i .u8 0, .i .u8 0, .i .u8 0, .i .u8 0, .i .u8 0, .i .u8 0, .i .u8 0, .i .u8 0, .i .u8 0, .i .u8 0, .i .u8 0, .i .u8 0, .i .u8 0, .i .u8 0, .i .u8 0, .i .u8 0, .i .u8 0, .i .u8 0, .i .u8 0, .i .u8 0, .i .u8 0, .i .u8 0, .i .u8 0, .i .u8 0, .i .u8 0, .i .u8 0, .i .u8 0, .i .u8 0, .i .u8 0, .i .u8 0, .i .u8 0, .i .u8 0, .i .u8 0, .i .u8 0, .i .u8 0, .i .u8 0, .i .u8 0, .i .u8 0, .i .u8 0, .i .u8 0, .i .u8 0, .i .u8 0, .i .u8 0, .i .u8 0, .i .u8 0, .i .u8 0, .i .u8 0, .i .u8 0, .i .u8 0, .i .u8 0, .i .u8 0, .i .u8 0, .i .u8 0, .i .u8 0, .i .u8 0, .i .u8 0, .i .u8 0, .i .u8 0, .i .u8 0, .i .u8 0, .i .u8 0, .i .u8 0, .i .u8 0, .i .u8 0, .i .u8 0, .i .u8 0, .i .u8 0, .i .u8 0, .i .u8 0, .i .u8 0, .i .u8 0, .i .u8 0, .i .u8 0, .i .u8 0, .i .u8 0, .i .u8 0, .i .u8 0, .i .u8 0, .i .u8 0, .i .u8 0, .i .u8 0, .i .u8 0, .i .u8 0, .i .u8 0, .i .u8 0, .i .u8 0, .i .u8 0, .i .u8 0, .i .u8 0, .i .u8 0, .i .u8 0, .i .u8 0, .i .u8 0, .i .u8 0, .i .u8 0, .i .u8 0, .i .u8 0, .i .u8 0, .i .u8 0, .i .u8 0, .i .u8 0, .i .u8 0, .i .u8 0, .i .u8 0, .i .u8 0, .i .u8 0, .i .u8 0, .i .u8 0, .i .u8 0, .i .u8 0, .i .u8 0, .i .u8 0, .i .u8 0, .i .u8 0, .i .u8 0, .i .u8 0, .i .u8 0, .i .u8 0, .i .u8 0, .i .u8 0, .i .u8 0, .i .u8 0, .i .u8 0, .i .u8 0, .i .u8 0, .i .u8 0, .i .u8 0, .i .u8 0] else none
abbrev G1 : Nat → Option (List D) := fun g => bif g == 5 then some [.i .u64 1, .i .u64 10, .i .u64 100, .i .u64 1000, .i .u64 10000, .i .u64 100000, .i .u64 1000000, .i .u64 10000000, .i .u64 100000000, .i .u64 1000000000, .i .u64 10000000000, .i .u64 100000000000, .i .u64 1000000000000, .i .u64 10000000000000, .i .u64 100000000000000, .i .u64 1000000000000000, .i .u64 10000000000000000, .i .u64 100000000000000000, .i .u64 1000000000000000000, .i .u64 10000000000000000000] else bif g == 0 then some [.i .u8 0, .i .u8 0, .i .u8 0, .i .u8 0, .i .u8 0, .i .u8 0, .i .u8 0, .i .u8 0, .i .u8 0, .i .u8 1, .i .u8 1, .i .u8 1, .i .u8 1, .i .u8 1, .i .u8 0, .i .u8 0, .i .u8 0, .i .u8 0, .i .u8 0, .i .u8 0, .i .u8 0, .i .u8 0, .i .u8 0, .i .u8 0, .i .u8 0, .i .u8 0, .i .u8 0, .i .u8 0, .i .u8 0, .i .u8 0, .i .u8 0, .i .u8 0, .i .u8 1, .i .u8 0, .i .u8 0, .i .u8 0, .i .u8 0, .i .u8 0, .i .u8 0, .i .u8 0, .i .u8 0, .i .u8 0, .i .u8 0, .i .u8 0, .i .u8 0, .i .u8 0, .i .u8 0, .i .u8 0, .i .u8 0, .i .u8 0, .i .u8 0, .i .u8 0, .i .u8 0, .i .u8 0, .i .u8 0, .i .u8 0, .i .u8 0, .i .u8 0, .i .u8 0, .i .u8 0, .i .u8 0, .i .u8 0, .i .u8 0, .i .u8 0, .i .u8 0, .i .u8 0, .i .u8 0, .i .u8 0, .i .u8 0, .i .u8 0, .i .u8 0, .i .u8 0, .i .u8 0, .i .u8 0, .i .u8 0, .i .u8 0, .i .u8 0, .i .u8 0, .i .u8 0, .i .u8 0, .i .u8 0, .i .u8 0, .i .u8 0, .i .u8 0, .i .u8 0, .i .u8 0, .i .u8 0, .i .u8 0, .i .u8 0, .i .u8 0, .i .u8 0, .i .u8 0, .i .u8 0, .i .u8 0, .i .u8 0, .i .u8 0, .i .u8 0, .i .u8 0, .i .u8 0, .i .u8 0, .i .u8 0, .i .u8 0, .i .u8 0, .i .u8 0, .i .u8 0, .i .u8 0, .i .u8 0, .i .u8 0, .i .u8 0, .i .u8 0, .i .u8 0, .i .u8 0, .i .u8 0, .i .u8 0, .i .u8 0, .i .u8 0, .i .u8 0, .i .u8 0, .i .u8 0, .i .u8 0, .i .u8 0, .i .u8 0, .i .u8 0, .i .u8 0, .i .u8 0, .i .u8 0, .i .u8 0, .i .u8 0, .i .u8 0, .i .u8 0, .i .u8 0, .i .u8 0, .i .u8 0, .i .u8 0, .i .u8 0, .i .u8 0, .i .u8 0, .i .u8 0, .i .u8 0, .i .u8 0, .i .u8 0, .i .u8 0, .i .u8 0, .i .u8 0, .i .u8 0, .i .u8 0, .i .u8 0, .i .u8 0, .i .u8 0, .i .u8 0, .i .u8 0, .i .u8 0, .i .u8 0, .i .u8 0, .i .u8 0, .i .u8 0, .i .u8 0, .i .u8 0, .i .u8 0, .i .u8 0, .i .u8 0, .i .u8 0, .i .u8 0, .i .u8 0, .i .u8 0, .i .u8 0, .i .u8 0, .i .u8 0, .i .u8 0, .i .u8 0, .i .u8 0, .i .u8 0, .i .u8 0, .i .u8 0, .i .u8 0, .i .u8 0, .i .u8 0, .i .u8 0, .i .u8 0, .i .u8 0, .i .u8 0, .i .u8 0, .i .u8 0, .i .u8 0, .i .u8 0, .i .u8 0, .i .u8 0, .i .u8 0, .i .u8 0, .i .u8 0, .i .u8 0, .i .u8 0, .i .u8 0, .i .u8 0, .i .u8 0, .i .u8 0, .i .u8 0, .i .u8 0, .i .u8 0, .i .u8 0, .i .u8 0, .i .u8 0, .i .u8 0, .i .u8 0, .i .u8 0, .i .u8 0, .i .u8 0, .i .u8 0, .i .u8 0, .i .u8 0, .i .u8 0, .i .u8 0, .i .u8 0, .i .u8 0, .i .u8 0, .i .u8 0, .i .u8 0, .i .u8 0, .i .u8 0, .i .u8 0, .i .u8 0, .i .u8 0, .i .u8 0, .i .u8 0, .i .u8 0, .i .u8 0, .i .u8 0, .i .u8 0, .i .u8 0, .i .u8 0, .i .u8 0, .i .u8 0, .i .u8 0, .i .u8 0, .i .u8 0, .i .u8 0, .i .u8 0, .i .u8 0, .i .u8 0, .i .u8 0, .i .u8 0, .i .u8 0, .i .u8 0, .i .u8 0, .i .u8 0, .i .u8 0, .i .u8 0, .i .u8 0, .i .u8 0, .i .u8 0, .i .u8 0, .i .u8 0, .i .u8 0, .i .u8 0, .i .u8 0, .i .u8 0] else bif g == 1 then some [.er true] else bif g == 2 then some [.er true] else none
abbrev G2 : Nat → Option (List D) := fun g => bif g == 5 then some [.i .u64 1, .i .u64 10, .i .u64 100, .i .u64 1000, .i .u64 10000, .i .u64 100000, .i .u64 1000000, .i .u64 10000000, .i .u64 100000000, .i .u64 1000000000, .i .u64 10000000000, .i .u64 100000000000, .i .u64 1000000000000, .i .u64 10000000000000, .i .u64 100000000000000, .i .u64 1000000000000000, .i .u64 10000000000000000, .i .u64 100000000000000000, .i .u64 1000000000000000000, .i .u64 10000000000000000000] else bif g == 0 then some [.i .u8 0, .i .u8 0, .i .u8 0, .i .u8 0, .i .u8 0, .i .u8 0, .i .u8 0, .i .u8 0, .i .u8 0, .i .u8 1, .i .u8 1, .i .u8 1, .i .u8 1, .i .u8 1, .i .u8 0, .i .u8 0, .i .u8 0, .i .u8 0, .i .u8 0, .i .u8 0, .i .u8 0, .i .u8 0, .i .u8 0, .i .u8 0, .i .u8 0, .i .u8 0, .i .u8 0, .i .u8 0, .i .u8 0, .i .u8 0, .i .u8 0, .i .u8 0, .i .u8 1, .i .u8 0, .i .u8 0, .i .u8 0, .i .u8 0, .i .u8 0, .i .u8 0, .i .u8 0, .i .u8 0, .i .u8 0, .i .u8 0, .i .u8 0, .i .u8 0, .i .u8 0, .i .u8 0, .i .u8 0, .i .u8 0, .i .u8 0, .i .u8 0, .i .u8 0, .i .u8 0, .i .u8 0, .i .u8 0, .i .u8 0, .i .u8 0, .i .u8 0, .i .u8 0, .i .u8 0, .i .u8 0, .i .u8 0, .i .u8 0, .i .u8 0, .i .u8 0, .i .u8 0, .i .u8 0, .i .u8 0, .i .u8 0, .i .u8 0, .i .u8 0, .i .u8 0, .i .u8 0, .i .u8 0, .i .u8 0, .i .u8 0, .i .u8 0, .i .u8 0, .i .u8 0, .i .u8 0, .i .u8 0, .i .u8 0, .i .u8 0, .i .u8 0, .i .u8 0, .i .u8 0, .i .u8 0, .i .u8 0, .i .u8 0, .i .u8 0, .i .u8 0, .i .u8 0, .i .u8 0, .i .u8 0, .i .u8 0, .i .u8 0, .i .u8 0, .i .u8 0, .i .u8 0, .i .u8 0, .i .u8 0, .i .u8 0, .i .u8 0, .i .u8 0, .i .u8 0, .i .u8 0, .i .u8 0, .i .u8 0, .i .u8 0, .i .u8 0, .i .u8 0, .i .u8 0, .i .u8 0, .i .u8 0, .i .u8 0, .i .u8 0, .i .u8 0, .i .u8 0, .i .u8 0, .i .u8 0, .i .u8 0, .i .u8 0, .i .u8 0, .i .u8 0, .i .u8 0, .i .u8 0, .i .u8 0, .i .u8 0, .i .u8 0, .i .u8 0, .i .u8 0, .i .u8 0, .i .u8 0, .i .u8 0, .i .u8 0, .i .u8 0, .i .u8 0, .i .u8 0, .i .u8 0, .i .u8 0, .i .u8 0, .i .u8 0, .i .u8 0, .i .u8 0, .i .u8 0, .i .u8 0, .i .u8 0, .i .u8 0, .i .u8 0, .i .u8 0, .i .u8 0, .i .u8 0, .i .u8 0, .i .u8 0, .i .u8 0, .i .u8 0, .i .u8 0, .i .u8 0, .i .u8 0, .i .u8 0, .i .u8 0, .i .u8 0, .i .u8 0, .i .u8 0, .i .u8 0, .i .u8 0, .i .u8 0, .i .u8 0, .i .u8 0, .i .u8 0, .i .u8 0, .i .u8 0, .i .u8 0, .i .u8 0, .i .u8 0, .i .u8 0, .i .u8 0, .i .u8 0, .i .u8 0, .i .u8 0, .i .u8 0, .i .u8 0, .i .u8 0, .i .u8 0, .i .u8 0, .i .u8 0, .i .u8 0, .i .u8 0, .i .u8 0, .i .u8 0, .i .u8 0, .i .u8 0, .i .u8 0, .i .u8 0, .i .u8 0, .i .u8 0, .i .u8 0, .i .u8 0, .i .u8 0, .i .u8 0, .i .u8 0, .i .u8 0, .i .u8 0, .i .u8 0, .i .u8 0, .i .u8 0, .i .u8 0, .i .u8 0, .i .u8 0, .i .u8 0, .i .u8 0, .i .u8 0, .i .u8 0, .i .u8 0, .i .u8 0, .i .u8 0, .i .u8 0, .i .u8 0, .i .u8 0, .i .u8 0, .i .u8 0, .i .u8 0, .i .u8 0, .i .u8 0, .i .u8 0, .i .u8 0, .i .u8 0, .i .u8 0, .i .u8 0, .i .u8 0, .i .u8 0, .i .u8 0, .i .u8 0, .i .u8 0, .i .u8 0, .i .u8 0, .i .u8 0, .i .u8 0, .i .u8 0, .i .u8 0, .i .u8 0, .i .u8 0, .i .u8 0, .i .u8 0, .i .u8 0, .i .u8 0, .i .u8 0, .i .u8 0, .i .u8 0, .i .u8 0, .i .u8 0, .i .u8 0, .i .u8 0, .i .u8 0, .i .u8 0, .i .u8 0] else bif g == 1 then some [.er true] else bif g == 2 then some [.er true] else bif g == 7 then some [.i .u8 128, .i .u8 191, .i .u8 160, .i .u8 191, .i .u8 128, .i .u8 159, .i .u8 144, .i .u8 191, .i .u8 128, .i .u8 143, .i .u8 0, .i .u8 0, .i .u8 0, .i .u8 0, .i .u8 0, .i .u8 0, .i .u8 0, .i .u8 0, .i .u8 0, .i .u8 0, .i .u8 0, .i .u8 0, .i .u8 0, .i .u8 0, .i .u8 0, .i .u8 0, .i .u8 0, .i .u8 0, .i .u8 0, .i .u8 0, .i .u8 0, .i .u8 0] else none
theorem g01 : ∀ g cs, G0 g = some cs → G1 g = some cs := pick_le (pick_le (fun _ _ h => by cases h))
theorem g02 : ∀ g cs, G0 g = some cs → G2 g = some cs := pick_le (pick_le (fun _ _ h => by cases h))
theorem g12 : ∀ g cs, G1 g = some cs → G2 g = some cs := pick_le (pick_le (pick_le (pick_le (fun _ _ h => by cases h))))
abbrev T_api_Account : Ty := (.g (.p (.i .i64) .s))
abbrev T_utf8_acceptRange : Ty := (.g (.p (.i .u8) (.i .u8)))
abbrev T_api_Mti : Ty := (.g (.p (.i .i64) (.p .b (.p .b .b))))
abbrev T_api_Message : Ty := (.g (.p .s (.l T_api_Account)))
abbrev T_api_Line : Ty := (.g (.p T_api_Account (.i .i64)))
abbrev T_api_Spec : Ty := (.g (.p (.i .i64) (.p (.i .i64) (.i .i64))))
abbrev T_api_Entry : Ty := (.g (.p (.i .i64) (.p .s (.l T_api_Line))))
abbrev T_bursarlaw12_Moved : Ty := (.g (.p (.i .i64) (.p .s (.p T_api_Account (.p T_api_Account (.i .i64))))))
def add64 : List D → Option (Bool × D) := fun ds => match ds with
  | [.i .u64 x, .i .u64 y, .i .u64 c] => some (decide (0 ≤ x) && decide (0 ≤ y) && decide (0 ≤ c) && decide (c ≤ 1), .tp [.i .u64 ((x + y + c) % 18446744073709551616), .i .u64 ((x + y + c) / 18446744073709551616)])
  | _ => none
theorem add64_ok : ExtOK P 92 (bare add64) := by
  intro ds r h w I vs hsz hv
  unfold bare add64 at h
  split at h
  · rename_i b q hq
    obtain ⟨hb, h⟩ := cond_some h
    injection h with h
    subst h
    split at hq
    · rename_i x y c
      injection hq with hq
      injection hq with hq1 hq2
      subst hq2
      rw [hb] at hq1
      simp only [Bool.and_eq_true, decide_eq_true_eq] at hq1
      have e0 := hv 0 _ rfl
      have e1 := hv 1 _ rfl
      have e2 := hv 2 _ rfl
      have hvs : vs = #[.int .u64 x, .int .u64 y, .int .u64 c] := by
        have : vs = #[vs.getD 0 undef, vs.getD 1 undef, vs.getD 2 undef] := by
          apply Array.ext
          · simpa using hsz
          · intro i hi hi'
            simp at hi'
            have : i = 0 ∨ i = 1 ∨ i = 2 := by omega
            rcases this with rfl | rfl | rfl <;> simp [Array.getD_eq_getD_getElem?, Array.getElem?_eq_getElem hi]
        rw [this]
        generalize vs.getD 0 undef = a0 at e0
        generalize vs.getD 1 undef = a1 at e1
        generalize vs.getD 2 undef = a2 at e2
        cases e0; cases e1; cases e2
        rfl
      refine ⟨_, by rw [hvs, run_callFunc_extern Tryd.func92 (by kernel_rfl) (by kernel_rfl) (by kernel_rfl) (e := add64Entry) (by kernel_rfl), run_add64 x y c (by omega) (by omega) (by omega) (by omega)]; rfl, ?_⟩
      refine .tp _ _ rfl fun j d hj => ?_
      match j, hj with
      | 0, hj => simp at hj; subst hj; exact .i _ _
      | 1, hj => simp at hj; subst hj; exact .i _ _
      | j + 2, hj => simp at hj
    · cases hq
  · cases h
def cntB : List D → Option (Bool × D) := fun ds => match ds with
  | [.s x, .i .u8 y] => some (true, .i .i64 (((Lib.countByte x.data.toList y.toNat.toUInt8 : Nat) : Int)))
  | _ => none
theorem cntB_ok : ExtOK P 136 (bare cntB) := by
  intro ds r h w I vs hsz hv
  unfold bare cntB at h
  split at h
  · rename_i b q hq
    obtain ⟨hb, h⟩ := cond_some h
    injection h with h
    subst h
    split at hq
    · rename_i x y
      injection hq with hq
      injection hq with hq1 hq2
      subst hq2
      have e0 := hv 0 _ rfl
      have e1 := hv 1 _ rfl
      have hvs : vs = #[vs.getD 0 undef, vs.getD 1 undef] := by
        apply Array.ext
        · simpa using hsz
        · intro i hi hi'
          simp at hi'
          have : i = 0 ∨ i = 1 := by omega
          rcases this with rfl | rfl <;> simp [Array.getD_eq_getD_getElem?, Array.getElem?_eq_getElem hi]
      generalize vs.getD 0 undef = a0 at e0 hvs
      generalize vs.getD 1 undef = a1 at e1 hvs
      cases e0; cases e1
      refine ⟨_, by rw [hvs, run_callFunc_extern Tryd.func136 (by kernel_rfl) (by kernel_rfl) (by kernel_rfl) (e := Extern.BytealgCount.count) (by kernel_rfl), Lib.run_countString]; rfl, ?_⟩
      exact .i _ _
    · cases hq
  · cases h
def idxB : List D → Option (Bool × D) := fun ds => match ds with
  | [.s x, .i .u8 y] => some (true, .i .i64 (Lib.indexByte x.data.toList y.toNat.toUInt8))
  | _ => none
theorem idxB_ok : ExtOK P 163 (bare idxB) := by
  intro ds r h w I vs hsz hv
  unfold bare idxB at h
  split at h
  · rename_i b q hq
    obtain ⟨hb, h⟩ := cond_some h
    injection h with h
    subst h
    split at hq
    · rename_i x y
      injection hq with hq
      injection hq with hq1 hq2
      subst hq2
      have e0 := hv 0 _ rfl
      have e1 := hv 1 _ rfl
      have hvs : vs = #[vs.getD 0 undef, vs.getD 1 undef] := by
        apply Array.ext
        · simpa using hsz
        · intro i hi hi'
          simp at hi'
          have : i = 0 ∨ i = 1 := by omega
          rcases this with rfl | rfl <;> simp [Array.getD_eq_getD_getElem?, Array.getElem?_eq_getElem hi]
      generalize vs.getD 0 undef = a0 at e0 hvs
      generalize vs.getD 1 undef = a1 at e1 hvs
      cases e0; cases e1
      refine ⟨_, by rw [hvs, run_callFunc_extern Tryd.func163 (by kernel_rfl) (by kernel_rfl) (by kernel_rfl) (e := Extern.BytealgIndexByte.indexByte) (by kernel_rfl), Lib.run_indexByteString]; rfl, ?_⟩
      exact .i _ _
    · cases hq
  · cases h
abbrev E0 : FuncId → Option (List D → Option (Bool × D)) := fun g => bif g == 92 then some add64 else bif g == 136 then some cntB else bif g == 163 then some idxB else none
theorem e0_ok : ∀ g f, E0 g = some f → ExtOK P g (bare f) := by
  intro g f h
  unfold E0 at h
  cases hg92 : (g == 92) with
  | true =>
    rw [hg92] at h
    injection h with h
    subst h
    have : g = 92 := by simpa using hg92
    subst this
    exact add64_ok
  | false =>
  rw [hg92] at h
  simp only [cond_false] at h
  cases hg136 : (g == 136) with
  | true =>
    rw [hg136] at h
    injection h with h
    subst h
    have : g = 136 := by simpa using hg136
    subst this
    exact cntB_ok
  | false =>
  rw [hg136] at h
  simp only [cond_false] at h
  cases hg163 : (g == 163) with
  | true =>
    rw [hg163] at h
    injection h with h
    subst h
    have : g = 163 := by simpa using hg163
    subst this
    exact idxB_ok
  | false =>
  rw [hg163] at h
  simp only [cond_false] at h
  cases h
abbrev J0 : FuncId → Option TypeId := fun g => none
theorem j0_ok : InsAll P J0 := by
  intro g e h
  unfold J0 at h
  cases h
end Go.Proofs.YtkgnhjmbnmaboaaDoor
end
section
/- Small things about the library's contracts. By this session. -/
set_option linter.unusedVariables false
namespace Go.Proofs.YtkgnhjmbnmaboaaDoor
open Go Go.Fw Go.RowKit
theorem grow_below (w : World) (k : Nat) (os : Array Obj) : Below w.heap.size w (Sort.grow (w.drewN k) os) := by
  have h : Below w.heap.size w (w.drewN k) := by
    induction k with
    | zero => rw [World.drewN_zero]; exact .refl _ _
    | succ k ih => exact ⟨rfl, rfl, rfl, Nat.le_refl _, fun _ _ => rfl⟩
  exact h.trans ⟨rfl, rfl, rfl, by simp [Sort.grow], fun i hi => by
    show ((w.drewN k).heap ++ os)[i]? = _
    rw [Array.getElem?_append, if_pos (Nat.lt_of_lt_of_le hi h.size)]⟩
theorem ent_of {g : FuncId} {fn : Func} (h : P.funcs[g]? = some fn) (hn : (fn.name == "runtime.NumGoroutine") = false) (hb : fn.body.isNone = false) : Fw.Enters P g := ⟨fn, h, hn, hb⟩
/-- a call that leaves what was there as it was, and what is known of the memory -/
theorem pcall_belowI {G : Nat → Option (List D)} {g : FuncId} {ds : List D} {r : D}
    (h : ∀ (w : World) (I K : Mem) (vs : Array Value), Glob ⟨w, I, K, fun _ => 0, fun _ => 0, G⟩ → (∀ b, I b → b < w.heap.size) → (∀ b, K b → b < w.heap.size) → vs.size = ds.length → (∀ (j : Nat) (d : D), ds[j]? = some d → RelD w I d (vs.getD j undef)) →
      Calls P g vs w fun e w' => ∃ v, e = .returned v ∧ Below w.heap.size w w' ∧ RelX w' I K r v) : PCall P G g ds r := by
  intro w I K vs hg hI hK hd hsz hargs
  refine (h w I K vs hg hI hK hsz hargs).mono ?_
  rintro e w' ⟨v, rfl, hb, hx⟩
  refine ⟨v, I, rfl, hb.size, fun b hb' => ⟨hb', hb.block b (hI b hb')⟩, fun b hb' => hb.block b (hK b hb'), fun b hb' => ⟨Nat.lt_of_lt_of_le (hI b hb') hb.size, hd b hb'⟩, fun b cs e fz hc => ⟨cs, ?_, rfl⟩, hb.os, hb.tape, hb.output, hx⟩
  rw [hb.block b (Array.getElem?_eq_some_iff.1 hc).1]
  exact hc
theorem alloc_below (w : World) (o : Obj) : Below w.heap.size w (w.alloc o) := ⟨rfl, rfl, rfl, by show w.heap.size ≤ (w.heap.push _).size; simp, fun i hi => by
  show (w.heap.push o)[i]? = _
  rw [Array.getElem?_push, if_neg (by omega)]⟩
/-- a row of one-cell data in a new block -/
theorem frOK_alloc {w : World} {I K : Mem} {xs : List D} {vs : List Value} {t : TypeId} (hI : ∀ b, I b → b < w.heap.size) (hK : ∀ b, K b → b < w.heap.size) (hl : xs.length = vs.length) (hw : ∀ x ∈ xs, x.cells = [x]) (h1 : ∀ v ∈ vs, v.oneCell' = true)
    (h : ∀ (j : Nat) (d : D), xs[j]? = some d → RelD (w.alloc (.cells vs.toArray t)) I d (vs.toArray.getD j undef)) : FrOK (w.alloc (.cells vs.toArray t)) I K 1 xs (.slice (some ⟨w.heap.size, 0, none⟩) xs.length xs.length) := by
  have hh : (w.alloc (.cells vs.toArray t)).heap[w.heap.size]? = some (.cells vs.toArray t) := by
    show (w.heap.push _)[w.heap.size]? = _
    rw [Array.getElem?_push, if_pos rfl]
  refine ⟨_, _, rfl, Nat.le_refl _, rfl, .inl rfl, fun hb => Nat.lt_irrefl _ (hI _ hb), fun hb => Nat.lt_irrefl _ (hK _ hb), ⟨rfl, vs.toArray, t, _, hh, fun o _ ho => by omega, fun x hx => by simp [D.width, hw x hx], by omega, by simp [hl], fun j hj => ?_, fun j k x d hx hd => ?_⟩, _, _, _, hh, by simp [hl], by simp⟩
  · have hj' : j < vs.length := by omega
    rw [Array.getD_eq_getD_getElem?]
    simp only [List.getElem?_toArray, List.getElem?_eq_getElem hj', Option.getD_some]
    exact h1 _ (List.getElem_mem hj')
  · have hm : x ∈ xs := List.mem_of_getElem? hx
    rw [hw x hm] at hd
    cases k with
    | zero =>
      simp only [List.getElem?_cons_zero, Option.some.injEq] at hd
      subst hd
      have := h j x hx
      rw [show j * 1 + 0 = j by omega]
      exact this
    | succ k => simp at hd
end Go.Proofs.YtkgnhjmbnmaboaaDoor
end
section
/- Contracts of the library at this program, in plain words. Written by a tool of the kit.
-/
namespace Go.Proofs
open Go.Shelf
def Tryd.laysC172_ren : Go.Shelf.Ren := ⟨fun | 172 => 58 | 244 => 94 | 245 => 95 | 247 => 114 | 279 => 115 | 280 => 116 | 281 => 117 | 282 => 118 | 287 => 121 | 316 => 137 | 171 => 47 | 205 => 138 | 321 => 144 | 322 => 145 | 243 => 83 | 246 => 107 | 283 => 128 | 284 => 129 | 285 => 130 | 286 => 131 | 129 => 158 | 317 => 157 | 318 => 159 | 319 => 160 | 320 => 161 | 337 => 170 | 338 => 171 | n => n, fun | 9 => 9 | 3 => 3 | 75 => 102 | 76 => 103 | 4 => 4 | 5 => 5 | 167 => 163 | 37 => 126 | 0 => 0 | 85 => 164 | 2 => 2 | 168 => 166 | 53 => 134 | 175 => 146 | 46 => 142 | 210 => 190 | 127 => 212 | 145 => 215 | 143 => 213 | 21 => 21 | 171 => 179 | 173 => 182 | 212 => 209 | 51 => 197 | 20 => 20 | 213 => 210 | 232 => 238 | 233 => 239 | 80 => 240 | n => n, fun | 15 => 1 | 16 => 2 | 17 => 5 | 18 => 8 | 19 => 9 | n => n⟩
theorem Tryd.laysC172 : Go.Proofs.LaysC.n172 Tryd.prog Tryd.laysC172_ren := {
  mixed := by kernel_rfl
  f129 := Tryd.func158.trans (congrArg some (by kernel_rfl))
  f171 := Tryd.func47.trans (congrArg some (by kernel_rfl))
  f172 := Tryd.func58.trans (congrArg some (by kernel_rfl))
  f205 := Tryd.func138.trans (congrArg some (by kernel_rfl))
  f243 := Tryd.func83.trans (congrArg some (by kernel_rfl))
  f244 := Tryd.func94.trans (congrArg some (by kernel_rfl))
  f245 := Tryd.func95.trans (congrArg some (by kernel_rfl))
  f246 := Tryd.func107.trans (congrArg some (by kernel_rfl))
  f247 := Tryd.func114.trans (congrArg some (by kernel_rfl))
  f279 := Tryd.func115.trans (congrArg some (by kernel_rfl))
  f280 := Tryd.func116.trans (congrArg some (by kernel_rfl))
  f281 := Tryd.func117.trans (congrArg some (by kernel_rfl))
  f282 := Tryd.func118.trans (congrArg some (by kernel_rfl))
  f283 := Tryd.func128.trans (congrArg some (by kernel_rfl))
  f284 := Tryd.func129.trans (congrArg some (by kernel_rfl))
  f285 := Tryd.func130.trans (congrArg some (by kernel_rfl))
  f286 := Tryd.func131.trans (congrArg some (by kernel_rfl))
  f287 := Tryd.func121.trans (congrArg some (by kernel_rfl))
  f316 := Tryd.func137.trans (congrArg some (by kernel_rfl))
  f317 := Tryd.func157.trans (congrArg some (by kernel_rfl))
  f318 := Tryd.func159.trans (congrArg some (by kernel_rfl))
  f319 := Tryd.func160.trans (congrArg some (by kernel_rfl))
  f320 := Tryd.func161.trans (congrArg some (by kernel_rfl))
  f321 := Tryd.func144.trans (congrArg some (by kernel_rfl))
  f322 := Tryd.func145.trans (congrArg some (by kernel_rfl))
  f337 := Tryd.func170.trans (congrArg some (by kernel_rfl))
  f338 := Tryd.func171.trans (congrArg some (by kernel_rfl))
  t0 := Tryd.underlying0
  a0 := Tryd.isAgg0
  z0 := Tryd.sizeOf0
  v0 := Tryd.zeroValue0
  t2 := Tryd.underlying2
  a2 := Tryd.isAgg2
  z2 := Tryd.sizeOf2
  v2 := Tryd.zeroValue2
  t3 := Tryd.underlying3
  a3 := Tryd.isAgg3
  z3 := Tryd.sizeOf3
  v3 := Tryd.zeroValue3
  t4 := Tryd.underlying4
  a4 := Tryd.isAgg4
  z4 := Tryd.sizeOf4
  v4 := Tryd.zeroValue4
  t5 := Tryd.underlying5
  a5 := Tryd.isAgg5
  z5 := Tryd.sizeOf5
  v5 := Tryd.zeroValue5
  t9 := Tryd.underlying9
  a9 := Tryd.isAgg9
  z9 := Tryd.sizeOf9
  v9 := Tryd.zeroValue9
  t20 := Tryd.underlying20
  a20 := Tryd.isAgg20
  z20 := Tryd.sizeOf20
  v20 := Tryd.zeroValue20
  t21 := Tryd.underlying21
  a21 := Tryd.isAgg21
  z21 := Tryd.sizeOf21
  v21 := Tryd.zeroValue21
  t37 := Tryd.underlying126
  a37 := Tryd.isAgg126
  z37 := Tryd.sizeOf126
  v37 := Tryd.zeroValue126
  t46 := Tryd.underlying142
  a46 := Tryd.isAgg142
  z46 := Tryd.sizeOf142
  v46 := Tryd.zeroValue142
  t51 := Tryd.underlying197
  a51 := Tryd.isAgg197
  z51 := Tryd.sizeOf197
  v51 := Tryd.zeroValue197
  t53 := Tryd.underlying134
  a53 := Tryd.isAgg134
  z53 := Tryd.sizeOf134
  v53 := Tryd.zeroValue134
  t75 := Tryd.underlying102
  a75 := Tryd.isAgg102
  z75 := Tryd.sizeOf102
  v75 := Tryd.zeroValue102
  t76 := Tryd.underlying103
  a76 := Tryd.isAgg103
  z76 := Tryd.sizeOf103
  v76 := Tryd.zeroValue103
  t85 := Tryd.underlying164
  a85 := Tryd.isAgg164
  z85 := Tryd.sizeOf164
  v85 := Tryd.zeroValue164
  t127 := Tryd.underlying212
  a127 := Tryd.isAgg212
  z127 := Tryd.sizeOf212
  v127 := Tryd.zeroValue212
  t143 := Tryd.underlying213
  a143 := Tryd.isAgg213
  z143 := Tryd.sizeOf213
  v143 := Tryd.zeroValue213
  t145 := Tryd.underlying215
  a145 := Tryd.isAgg215
  z145 := Tryd.sizeOf215
  v145 := Tryd.zeroValue215
  t167 := Tryd.underlying163
  a167 := Tryd.isAgg163
  z167 := Tryd.sizeOf163
  v167 := Tryd.zeroValue163
  t168 := Tryd.underlying166
  a168 := Tryd.isAgg166
  z168 := Tryd.sizeOf166
  v168 := Tryd.zeroValue166
  t171 := Tryd.underlying179
  a171 := Tryd.isAgg179
  z171 := Tryd.sizeOf179
  v171 := Tryd.zeroValue179
  t173 := Tryd.underlying182
  a173 := Tryd.isAgg182
  z173 := Tryd.sizeOf182
  v173 := Tryd.zeroValue182
  t175 := Tryd.underlying146
  a175 := Tryd.isAgg146
  z175 := Tryd.sizeOf146
  v175 := Tryd.zeroValue146
  t210 := Tryd.underlying190
  a210 := Tryd.isAgg190
  z210 := Tryd.sizeOf190
  v210 := Tryd.zeroValue190
  t212 := Tryd.underlying209
  a212 := Tryd.isAgg209
  z212 := Tryd.sizeOf209
  v212 := Tryd.zeroValue209
  t213 := Tryd.underlying210
  a213 := Tryd.isAgg210
  z213 := Tryd.sizeOf210
  t232 := Tryd.underlying238
  a232 := Tryd.isAgg238
  z232 := Tryd.sizeOf238
  v232 := Tryd.zeroValue238
  t233 := Tryd.underlying239
  a233 := Tryd.isAgg239
  z233 := Tryd.sizeOf239
  v233 := Tryd.zeroValue239
  g15 := by kernel_rfl
  g16 := by kernel_rfl
  g17 := by kernel_rfl
  g18 := by kernel_rfl
  g19 := by kernel_rfl
  t80 := Tryd.underlying240
  a80 := Tryd.isAgg240
  z80 := Tryd.sizeOf240
  v80 := Tryd.zeroValue240
  i0 := by kernel_rfl
  i2 := by kernel_rfl
  i3 := by kernel_rfl
  i4 := by kernel_rfl
  i5 := by kernel_rfl
  i9 := by kernel_rfl
  i20 := by kernel_rfl
  i21 := by kernel_rfl
  i37 := by kernel_rfl
  i46 := by kernel_rfl
  i51 := by kernel_rfl
  i53 := by kernel_rfl
  i75 := by kernel_rfl
  i76 := by kernel_rfl
  i80 := by kernel_rfl
  i85 := by kernel_rfl
  i127 := by kernel_rfl
  i143 := by kernel_rfl
  i145 := by kernel_rfl
  i167 := by kernel_rfl
  i168 := by kernel_rfl
  i171 := by kernel_rfl
  i173 := by kernel_rfl
  i175 := by kernel_rfl
  i210 := by kernel_rfl
  i212 := by kernel_rfl
  i232 := by kernel_rfl
  i233 := by kernel_rfl
  m15 := by kernel_rfl
  m16 := by kernel_rfl
  m17 := by kernel_rfl
  m18 := by kernel_rfl
  m19 := by kernel_rfl
  c0 := by kernel_rfl
  c2 := by kernel_rfl
  c3 := by kernel_rfl
  c4 := by kernel_rfl
  c5 := by kernel_rfl
  c9 := by kernel_rfl
  c20 := by kernel_rfl
  c21 := by kernel_rfl
  c37 := by kernel_rfl
  c46 := by kernel_rfl
  c51 := by kernel_rfl
  c53 := by kernel_rfl
  c75 := by kernel_rfl
  c76 := by kernel_rfl
  c80 := by kernel_rfl
  c85 := by kernel_rfl
  c127 := by kernel_rfl
  c143 := by kernel_rfl
  c145 := by kernel_rfl
  c167 := by kernel_rfl
  c168 := by kernel_rfl
  c171 := by kernel_rfl
  c173 := by kernel_rfl
  c175 := by kernel_rfl
  c210 := by kernel_rfl
  c212 := by kernel_rfl
  c213 := by kernel_rfl
  c232 := by kernel_rfl
  c233 := by kernel_rfl }
end Go.Proofs
end
section
/- strconv.Atoi, as a row, by the library's contracts. By this session. -/
set_option linter.unusedVariables false
namespace Go.Proofs.YtkgnhjmbnmaboaaDoor
open Go Go.Fw Go.RowKit Go.Shelf
def atoiU (l : List UInt8) : Int × Bool := match Lib.atoiAll l with
  | .ok v => (v, false)
  | .«syntax» => (0, true)
  | .range => (Lib.atoiSat l, true)
abbrev strconv_Atoi.As : Shs := .cons (.x .s) .nil
abbrev strconv_Atoi.m : Back := [(false, .i .i64), (false, .e)]
abbrev strconv_Atoi.f (a : ByteArray) : Option (Int × Bool) := bif decide (a.size ≤ 281474976710656) then some (atoiU a.data.toList) else none
noncomputable abbrev strconv_Atoi.row : Row := fnRow 58 strconv_Atoi.As strconv_Atoi.m strconv_Atoi.f
theorem atoi_bytes_below (w : World) (t : TypeId) (s : ByteArray) : Below w.heap.size w (Lib.bytesWorld w t s) := by
  unfold Lib.bytesWorld World.freeze
  rw [if_neg (by decide)]
  refine ⟨rfl, rfl, rfl, by simp, fun k hk => ?_⟩
  show ((w.heap.push _).modify _ _)[k]? = _
  rw [Array.getElem?_modify, if_neg (by show ¬ w.heap.size = k; omega), Array.getElem?_push, if_neg (by omega)]
theorem strconv_Atoi.row_ok : RowOK P G1 strconv_Atoi.row := by
  have key : ∀ (ds : List D) (a : ByteArray) (q : Int × Bool), decArgs strconv_Atoi.As ds = some a → strconv_Atoi.f a = some q → Fw.Enters P 58 ∧ PCall P G1 58 ds (.tp [.i .i64 q.1, .er q.2]) := by
    intro ds a q ha hq
    refine ⟨ent_of Tryd.func58 (by kernel_rfl) (by kernel_rfl), ?_⟩
    have hds := (decArgs_argD ha).symm
    refine PCall.coe (ds' := argD strconv_Atoi.As a) ?_ (by rw [← hds]; exact coeA_len) fun w I f hf => by rw [← hds]; exact coeA_rel hf
    refine pcall_below fun w I K vs hg hsz hr => ?_
    have h0 := hr 0 (.s a) rfl
    have hvs : vs = #[.string a] := by
      have hs : vs.size = 1 := hsz
      rw [Array.getD_eq_getD_getElem?, Array.getElem?_eq_getElem (by omega)] at h0
      simp only [Option.getD_some] at h0
      refine Array.ext (by simpa using hs) fun i hi hi' => ?_
      match i, hi with
      | 0, _ => cases h : vs[0] <;> rw [h] at h0 <;> cases h0; rfl
      | i + 1, hi => omega
    subst hvs
    unfold strconv_Atoi.f at hq
    obtain ⟨hb, hq⟩ := cond_some hq
    simp only [decide_eq_true_eq] at hb
    injection hq with hq
    subst hq
    unfold atoiU
    have tup : ∀ (w' : World) (n : Int) (b : Bool) (v : Value), RelD w' I (.er b) v → RelX w' I K (.tp [.i .i64 n, .er b]) (.tuple #[.int .i64 n, v]) := fun w' n b v hv => ⟨_, rfl, RelD.i .i64 n, ⟨hv, trivial, fun b h => by cases b <;> cases h⟩, fun b h => by cases h⟩
    cases hp : Lib.atoiAll a.data.toList with
    | ok u =>
      refine (Any.strconv_Atoi_ok Tryd.laysC172 a (by omega) u hp w).mono ?_
      rintro e w' ⟨rfl, hw⟩
      refine ⟨_, rfl, ?_, tup w' u false _ .er0⟩
      rcases hw with rfl | ⟨t, rfl⟩
      · exact .refl _ _
      · exact atoi_bytes_below _ _ _
    | «syntax» =>
      obtain ⟨tp, p, hv⟩ := err_of_glob (P := P) hg (g := 1) (name := "strconv.ErrSyntax") (by kernel_rfl) rfl
      refine (Any.strconv_Atoi_syntax_var Tryd.laysC172 a hb hp tp p w hv).mono ?_
      rintro e w' ⟨N, rfl, _, _, hb⟩
      exact ⟨_, rfl, hb, tup w' 0 true _ (.er1 _ _)⟩
    | range =>
      obtain ⟨tp, p, hv⟩ := err_of_glob (P := P) hg (g := 2) (name := "strconv.ErrRange") (by kernel_rfl) rfl
      refine (Any.strconv_Atoi_range_var Tryd.laysC172 a hb hp tp p w hv).mono ?_
      rintro e w' ⟨N, rfl, _, _, hb⟩
      exact ⟨_, rfl, hb, tup w' _ true _ (.er1 _ _)⟩
  exact fun ds a q => key ds a q
end Go.Proofs.YtkgnhjmbnmaboaaDoor
end
section
/- Contracts of the library at this program, in plain words. Written by a tool of the kit.
-/
namespace Go.Proofs
open Go.Shelf
def Tryd.lays157_ren : Go.Shelf.Ren := ⟨fun | 157 => 100 | 229 => 122 | 199 => 123 | 261 => 146 | 311 => 165 | 312 => 166 | n => n, fun | 9 => 9 | 31 => 99 | 3 => 3 | 5 => 5 | 4 => 4 | 119 => 169 | 0 => 0 | 40 => 138 | 152 => 194 | 21 => 21 | 154 => 196 | 51 => 197 | 141 => 199 | 196 => 221 | 193 => 218 | 198 => 224 | 49 => 222 | 194 => 219 | 201 => 227 | 226 => 235 | 46 => 142 | 227 => 236 | n => n, fun | 0 => 0 | 6 => 4 | n => n⟩
theorem Tryd.lays157 : Go.Proofs.Lays.n157 Tryd.prog Tryd.lays157_ren := {
  mixed := by kernel_rfl
  f157 := Tryd.func100.trans (congrArg some (by kernel_rfl))
  f199 := Tryd.func123.trans (congrArg some (by kernel_rfl))
  f229 := Tryd.func122.trans (congrArg some (by kernel_rfl))
  f261 := Tryd.func146.trans (congrArg some (by kernel_rfl))
  f311 := Tryd.func165.trans (congrArg some (by kernel_rfl))
  f312 := Tryd.func166.trans (congrArg some (by kernel_rfl))
  t0 := Tryd.underlying0
  a0 := Tryd.isAgg0
  z0 := Tryd.sizeOf0
  v0 := Tryd.zeroValue0
  t3 := Tryd.underlying3
  a3 := Tryd.isAgg3
  z3 := Tryd.sizeOf3
  v3 := Tryd.zeroValue3
  t4 := Tryd.underlying4
  a4 := Tryd.isAgg4
  z4 := Tryd.sizeOf4
  v4 := Tryd.zeroValue4
  t5 := Tryd.underlying5
  a5 := Tryd.isAgg5
  z5 := Tryd.sizeOf5
  v5 := Tryd.zeroValue5
  t9 := Tryd.underlying9
  a9 := Tryd.isAgg9
  z9 := Tryd.sizeOf9
  v9 := Tryd.zeroValue9
  t21 := Tryd.underlying21
  a21 := Tryd.isAgg21
  z21 := Tryd.sizeOf21
  v21 := Tryd.zeroValue21
  t31 := Tryd.underlying99
  a31 := Tryd.isAgg99
  z31 := Tryd.sizeOf99
  v31 := Tryd.zeroValue99
  t40 := Tryd.underlying138
  a40 := Tryd.isAgg138
  z40 := Tryd.sizeOf138
  v40 := Tryd.zeroValue138
  t46 := Tryd.underlying142
  a46 := Tryd.isAgg142
  z46 := Tryd.sizeOf142
  v46 := Tryd.zeroValue142
  t49 := Tryd.underlying222
  a49 := Tryd.isAgg222
  z49 := Tryd.sizeOf222
  v49 := Tryd.zeroValue222
  t51 := Tryd.underlying197
  a51 := Tryd.isAgg197
  z51 := Tryd.sizeOf197
  v51 := Tryd.zeroValue197
  t119 := Tryd.underlying169
  a119 := Tryd.isAgg169
  z119 := Tryd.sizeOf169
  t141 := Tryd.underlying199
  a141 := Tryd.isAgg199
  z141 := Tryd.sizeOf199
  v141 := Tryd.zeroValue199
  t152 := Tryd.underlying194
  a152 := Tryd.isAgg194
  z152 := Tryd.sizeOf194
  v152 := Tryd.zeroValue194
  t154 := Tryd.underlying196
  a154 := Tryd.isAgg196
  z154 := Tryd.sizeOf196
  v154 := Tryd.zeroValue196
  t193 := Tryd.underlying218
  a193 := Tryd.isAgg218
  z193 := Tryd.sizeOf218
  v193 := Tryd.zeroValue218
  t194 := Tryd.underlying219
  a194 := Tryd.isAgg219
  z194 := Tryd.sizeOf219
  v194 := Tryd.zeroValue219
  t196 := Tryd.underlying221
  a196 := Tryd.isAgg221
  z196 := Tryd.sizeOf221
  v196 := Tryd.zeroValue221
  t198 := Tryd.underlying224
  a198 := Tryd.isAgg224
  z198 := Tryd.sizeOf224
  v198 := Tryd.zeroValue224
  t201 := Tryd.underlying227
  a201 := Tryd.isAgg227
  z201 := Tryd.sizeOf227
  v201 := Tryd.zeroValue227
  t226 := Tryd.underlying235
  a226 := Tryd.isAgg235
  z226 := Tryd.sizeOf235
  v226 := Tryd.zeroValue235
  t227 := Tryd.underlying236
  a227 := Tryd.isAgg236
  z227 := Tryd.sizeOf236
  v227 := Tryd.zeroValue236
  g0 := by kernel_rfl
  g6 := by kernel_rfl }
end Go.Proofs
end
section
/- strings.Fields, on texts below 128, as a row, by the library's contract. By this session. -/
set_option linter.unusedVariables false
namespace Go.Proofs.YtkgnhjmbnmaboaaDoor
open Go Go.Fw Go.RowKit Go.Shelf
abbrev strings_Fields.As : Shs := .cons (.x .s) .nil
abbrev strings_Fields.m : Back := [(true, .l .s)]
abbrev strings_Fields.f (a : ByteArray) : Option (List ByteArray) := bif decide (a.size < 4294967281) && a.data.toList.all (fun b => decide (b.toNat < 128)) then some ((Lib.fields a.data.toList).map fun l => bs l) else none
noncomputable abbrev strings_Fields.row : Row := fnRow 100 strings_Fields.As strings_Fields.m strings_Fields.f
theorem strings_Fields.row_ok : RowOK P G0 strings_Fields.row := by
  have key : ∀ (ds : List D) (a : ByteArray) (q : List ByteArray), decArgs strings_Fields.As ds = some a → strings_Fields.f a = some q → Fw.Enters P 100 ∧ PCall P G0 100 ds (.fr 1 (.t .s q)) := by
    intro ds a q ha hq
    refine ⟨ent_of Tryd.func100 (by kernel_rfl) (by kernel_rfl), ?_⟩
    have hds := (decArgs_argD ha).symm
    refine PCall.coe (ds' := argD strings_Fields.As a) ?_ (by rw [← hds]; exact coeA_len) fun w I f hf => by rw [← hds]; exact coeA_rel hf
    refine pcall_belowI fun w I K vs hg hI hK hsz hr => ?_
    have h0 := hr 0 (.s a) rfl
    have hvs : vs = #[.string a] := by
      have hs : vs.size = 1 := hsz
      rw [Array.getD_eq_getD_getElem?, Array.getElem?_eq_getElem (by omega)] at h0
      simp only [Option.getD_some] at h0
      refine Array.ext (by simpa using hs) fun i hi hi' => ?_
      match i, hi with
      | 0, _ => cases h : vs[0] <;> rw [h] at h0 <;> cases h0; rfl
      | i + 1, hi => omega
    subst hvs
    unfold strings_Fields.f at hq
    obtain ⟨hb, hq⟩ := cond_some hq
    simp only [Bool.and_eq_true, decide_eq_true_eq, List.all_eq_true] at hb
    injection hq with hq
    subst hq
    refine (Any.strings_Fields Tryd.lays157 (by kernel_rfl) (by kernel_rfl) a w hb.1 (fun j b hj => hb.2 b (List.mem_of_getElem? hj)) (tab_of_glob hg (g := 0) (by kernel_rfl) (by kernel_rfl))).mono ?_
    rintro e w' ⟨rfl, rfl⟩
    refine ⟨_, rfl, alloc_below _ _, ?_⟩
    obtain ⟨l, hl⟩ : ∃ l, Lib.fields a.data.toList = l := ⟨_, rfl⟩
    rw [hl]
    have := frOK_alloc (w := w) (I := I) (K := K) (xs := (l.map fun l => bs l).map D.s) (vs := l.map fun l => Value.string ⟨l.toArray⟩) (t := 9) hI hK (by simp) (fun x hx => by
      obtain ⟨y, _, rfl⟩ := List.mem_map.1 hx; rfl) (fun v hv => by
      obtain ⟨y, _, rfl⟩ := List.mem_map.1 hv; rfl) (fun j d hj => by
      simp only [List.getElem?_map] at hj
      obtain ⟨y, hy, rfl⟩ := Option.map_eq_some_iff.1 hj
      obtain ⟨z, hz, rfl⟩ := Option.map_eq_some_iff.1 hy
      simp only [Array.getD_eq_getD_getElem?, List.getElem?_toArray, List.getElem?_map, hz, Option.map_some, Option.getD_some]
      exact RelD.s _)
    simp only [List.length_map] at this
    exact .inl this
  exact fun ds a q => key ds a q
end Go.Proofs.YtkgnhjmbnmaboaaDoor
end
section
/- The Go function spec.kinds, as a Lean function, and that it is this one. Written by a program of this session. -/
set_option linter.unusedVariables false
set_option maxRecDepth 100000
namespace Go.Proofs.YtkgnhjmbnmaboaaDoor
open Go Go.Fw
abbrev spec_kinds.row : Row := closedRow 125 (.ag [.s (bs []), .nF, .s (bs [110]), .fn 151 [], .s (bs [97, 110]), .fn 152 [], .s (bs [97, 110, 115]), .fn 154 [], .s (bs [98]), .fn 155 []])
theorem spec_kinds.row_ok : RowOK P G0 spec_kinds.row := closed_ok e0_ok j0_ok (T := []) trivial 60 (by kernel_rfl)
end Go.Proofs.YtkgnhjmbnmaboaaDoor
end
section
/- The Go function spec.read, as a Lean function, and that it is this one. Written by a program of this session. -/
set_option linter.unusedVariables false
set_option maxRecDepth 100000
namespace Go.Proofs.YtkgnhjmbnmaboaaDoor
open Go Go.Fw
noncomputable abbrev spec_read.tab : List (ByteArray × Int × Int × Int) := [(bs [110, 46, 46, 49, 57], (1, 2, 19)), (bs [110, 54], (1, 0, 6)), (bs [110, 49, 50], (1, 0, 12)), (bs [110, 49, 48], (1, 0, 10)), (bs [110, 56], (1, 0, 8)), (bs [110, 52], (1, 0, 4)), (bs [110, 51], (1, 0, 3)), (bs [110, 50], (1, 0, 2)), (bs [110, 49], (1, 0, 1)), (bs [97, 110, 57], (2, 0, 9)), (bs [110, 46, 46, 49, 49], (1, 2, 11)), (bs [97, 110, 46, 46, 50, 56], (2, 2, 28)), (bs [97, 110, 115, 46, 46, 51, 55], (3, 2, 37)), (bs [97, 110, 115, 46, 46, 46, 49, 48, 52], (3, 3, 104)), (bs [97, 110, 49, 50], (2, 0, 12)), (bs [97, 110, 54], (2, 0, 6)), (bs [97, 110, 50], (2, 0, 2)), (bs [97, 110, 51], (2, 0, 3)), (bs [97, 110, 115, 56], (3, 0, 8)), (bs [97, 110, 115, 49, 53], (3, 0, 15)), (bs [97, 110, 115, 52, 48], (3, 0, 40)), (bs [97, 110, 115, 46, 46, 50, 53], (3, 2, 25)), (bs [97, 110, 115, 46, 46, 55, 54], (3, 2, 76)), (bs [97, 110, 115, 46, 46, 46, 57, 57, 57], (3, 3, 999)), (bs [98, 56], (4, 0, 8)), (bs [110, 49, 54], (1, 0, 16)), (bs [97, 110, 46, 46, 46, 49, 50, 48], (2, 3, 120)), (bs [110, 52, 50], (1, 0, 42)), (bs [97, 110, 49], (2, 0, 1)), (bs [97, 110, 53], (2, 0, 5)), (bs [97, 110, 55], (2, 0, 7)), (bs [97, 110, 52, 50], (2, 0, 42)), (bs [97, 110, 49, 55], (2, 0, 17)), (bs [97, 110, 115, 50, 53], (3, 0, 25)), (bs [97, 110, 115, 46, 46, 49, 55], (3, 2, 17)), (bs [97, 110, 115, 46, 46, 50, 56], (3, 2, 28)), (bs [97, 110, 115, 46, 46, 46, 49, 48, 48], (3, 3, 100))]
abbrev spec_read.m : Back := [(false, T_api_Spec)]
noncomputable def spec_read.f : ByteArray → Option (Int × Int × Int) := lookT spec_read.tab
noncomputable abbrev spec_read.row : Row := fnRow 101 AsT spec_read.m spec_read.f
theorem spec_read.row_ok : RowOK P G1 spec_read.row := told_texts e0_ok j0_ok (T := [strconv_Atoi.row, spec_kinds.row]) ⟨strconv_Atoi.row_ok, ⟨(spec_kinds.row_ok.more g01), trivial⟩⟩ (m := spec_read.m) spec_read.tab 60 (by kernel_rfl)
end Go.Proofs.YtkgnhjmbnmaboaaDoor
end
section
/- The Go function spec.table, as a Lean function, and that it is this one. Written by a program of this session. -/
set_option linter.unusedVariables false
set_option maxRecDepth 100000
namespace Go.Proofs.YtkgnhjmbnmaboaaDoor
open Go Go.Fw
abbrev spec_table.row : Row := closedRow 67 (.ag [.i .i64 0, .i .i64 0, .i .i64 0, .i .i64 0, .i .i64 0, .i .i64 0, .i .i64 1, .i .i64 2, .i .i64 19, .i .i64 1, .i .i64 0, .i .i64 6, .i .i64 1, .i .i64 0, .i .i64 12, .i .i64 1, .i .i64 0, .i .i64 12, .i .i64 1, .i .i64 0, .i .i64 12, .i .i64 1, .i .i64 0, .i .i64 10, .i .i64 1, .i .i64 0, .i .i64 8, .i .i64 1, .i .i64 0, .i .i64 8, .i .i64 1, .i .i64 0, .i .i64 8, .i .i64 1, .i .i64 0, .i .i64 6, .i .i64 1, .i .i64 0, .i .i64 6, .i .i64 1, .i .i64 0, .i .i64 4, .i .i64 1, .i .i64 0, .i .i64 4, .i .i64 1, .i .i64 0, .i .i64 4, .i .i64 1, .i .i64 0, .i .i64 4, .i .i64 1, .i .i64 0, .i .i64 4, .i .i64 1, .i .i64 0, .i .i64 4, .i .i64 1, .i .i64 0, .i .i64 3, .i .i64 1, .i .i64 0, .i .i64 3, .i .i64 1, .i .i64 0, .i .i64 3, .i .i64 1, .i .i64 0, .i .i64 3, .i .i64 1, .i .i64 0, .i .i64 3, .i .i64 1, .i .i64 0, .i .i64 3, .i .i64 1, .i .i64 0, .i .i64 2, .i .i64 1, .i .i64 0, .i .i64 2, .i .i64 1, .i .i64 0, .i .i64 1, .i .i64 2, .i .i64 0, .i .i64 9, .i .i64 2, .i .i64 0, .i .i64 9, .i .i64 2, .i .i64 0, .i .i64 9, .i .i64 2, .i .i64 0, .i .i64 9, .i .i64 1, .i .i64 2, .i .i64 11, .i .i64 1, .i .i64 2, .i .i64 11, .i .i64 2, .i .i64 2, .i .i64 28, .i .i64 3, .i .i64 2, .i .i64 37, .i .i64 3, .i .i64 3, .i .i64 104, .i .i64 2, .i .i64 0, .i .i64 12, .i .i64 2, .i .i64 0, .i .i64 6, .i .i64 2, .i .i64 0, .i .i64 2, .i .i64 2, .i .i64 0, .i .i64 3, .i .i64 3, .i .i64 0, .i .i64 8, .i .i64 3, .i .i64 0, .i .i64 15, .i .i64 3, .i .i64 0, .i .i64 40, .i .i64 3, .i .i64 2, .i .i64 25, .i .i64 3, .i .i64 2, .i .i64 76, .i .i64 3, .i .i64 3, .i .i64 999, .i .i64 3, .i .i64 3, .i .i64 999, .i .i64 3, .i .i64 3, .i .i64 999, .i .i64 2, .i .i64 0, .i .i64 3, .i .i64 2, .i .i64 0, .i .i64 3, .i .i64 2, .i .i64 0, .i .i64 3, .i .i64 4, .i .i64 0, .i .i64 8, .i .i64 1, .i .i64 0, .i .i64 16, .i .i64 2, .i .i64 3, .i .i64 120, .i .i64 3, .i .i64 3, .i .i64 999, .i .i64 3, .i .i64 3, .i .i64 999, .i .i64 3, .i .i64 3, .i .i64 999, .i .i64 3, .i .i64 3, .i .i64 999, .i .i64 3, .i .i64 3, .i .i64 999, .i .i64 3, .i .i64 3, .i .i64 999, .i .i64 3, .i .i64 3, .i .i64 999, .i .i64 3, .i .i64 3, .i .i64 999, .i .i64 3, .i .i64 3, .i .i64 999, .i .i64 4, .i .i64 0, .i .i64 8, .i .i64 0, .i .i64 0, .i .i64 0, .i .i64 1, .i .i64 0, .i .i64 1, .i .i64 1, .i .i64 0, .i .i64 2, .i .i64 1, .i .i64 0, .i .i64 3, .i .i64 1, .i .i64 0, .i .i64 3, .i .i64 1, .i .i64 0, .i .i64 3, .i .i64 1, .i .i64 0, .i .i64 4, .i .i64 1, .i .i64 0, .i .i64 4, .i .i64 1, .i .i64 0, .i .i64 6, .i .i64 1, .i .i64 0, .i .i64 10, .i .i64 1, .i .i64 0, .i .i64 10, .i .i64 1, .i .i64 0, .i .i64 10, .i .i64 1, .i .i64 0, .i .i64 10, .i .i64 1, .i .i64 0, .i .i64 10, .i .i64 1, .i .i64 0, .i .i64 10, .i .i64 1, .i .i64 0, .i .i64 10, .i .i64 1, .i .i64 0, .i .i64 10, .i .i64 1, .i .i64 0, .i .i64 12, .i .i64 1, .i .i64 0, .i .i64 12, .i .i64 1, .i .i64 0, .i .i64 12, .i .i64 1, .i .i64 0, .i .i64 12, .i .i64 1, .i .i64 0, .i .i64 16, .i .i64 1, .i .i64 0, .i .i64 16, .i .i64 1, .i .i64 0, .i .i64 16, .i .i64 1, .i .i64 0, .i .i64 16, .i .i64 1, .i .i64 0, .i .i64 42, .i .i64 2, .i .i64 0, .i .i64 1, .i .i64 2, .i .i64 0, .i .i64 2, .i .i64 2, .i .i64 0, .i .i64 5, .i .i64 2, .i .i64 0, .i .i64 7, .i .i64 2, .i .i64 0, .i .i64 42, .i .i64 4, .i .i64 0, .i .i64 8, .i .i64 2, .i .i64 0, .i .i64 17, .i .i64 3, .i .i64 0, .i .i64 25, .i .i64 1, .i .i64 2, .i .i64 11, .i .i64 1, .i .i64 2, .i .i64 11, .i .i64 3, .i .i64 2, .i .i64 17, .i .i64 3, .i .i64 2, .i .i64 28, .i .i64 3, .i .i64 2, .i .i64 28, .i .i64 3, .i .i64 3, .i .i64 100, .i .i64 3, .i .i64 3, .i .i64 999, .i .i64 3, .i .i64 3, .i .i64 999, .i .i64 3, .i .i64 3, .i .i64 999, .i .i64 3, .i .i64 3, .i .i64 999, .i .i64 3, .i .i64 3, .i .i64 999, .i .i64 3, .i .i64 3, .i .i64 999, .i .i64 3, .i .i64 3, .i .i64 999, .i .i64 3, .i .i64 3, .i .i64 999, .i .i64 3, .i .i64 3, .i .i64 999, .i .i64 3, .i .i64 3, .i .i64 999, .i .i64 3, .i .i64 3, .i .i64 999, .i .i64 3, .i .i64 3, .i .i64 999, .i .i64 3, .i .i64 3, .i .i64 999, .i .i64 3, .i .i64 3, .i .i64 999, .i .i64 3, .i .i64 3, .i .i64 999, .i .i64 3, .i .i64 3, .i .i64 999, .i .i64 3, .i .i64 3, .i .i64 999, .i .i64 3, .i .i64 3, .i .i64 999, .i .i64 3, .i .i64 3, .i .i64 999, .i .i64 3, .i .i64 3, .i .i64 999, .i .i64 3, .i .i64 3, .i .i64 999, .i .i64 3, .i .i64 3, .i .i64 999, .i .i64 3, .i .i64 3, .i .i64 999, .i .i64 4, .i .i64 0, .i .i64 8])
theorem spec_table.row_ok : RowOK P G1 spec_table.row := closed_ok e0_ok j0_ok (T := [strconv_Atoi.row, strings_Fields.row, spec_read.row]) ⟨strconv_Atoi.row_ok, ⟨(strings_Fields.row_ok.more g01), ⟨spec_read.row_ok, trivial⟩⟩⟩ 400 (by kernel_rfl)
end Go.Proofs.YtkgnhjmbnmaboaaDoor
end
section
/- The Go function spec.Of, as a Lean function, and that it is this one. Written by a program of this session. -/
set_option linter.unusedVariables false
set_option maxRecDepth 100000
namespace Go.Proofs.YtkgnhjmbnmaboaaDoor
open Go Go.Fw
abbrev spec_Of.As : Shs := (.cons (.x (.i .i64)) .nil)
abbrev spec_Of.m : Back := [(false, T_api_Spec), (false, (.i .i64))]
noncomputable abbrev spec_Of.H : HK := hk P G1 E0 J0 [spec_table.row] noLoops 4
theorem spec_Of.rows : TabOK P G1 (tabF [spec_table.row]) := rows_ok (ws := [spec_table.row]) ⟨spec_table.row_ok, trivial⟩
theorem spec_Of.hok : HKOK P spec_Of.H := hk_ok e0_ok j0_ok spec_Of.rows (fun g n => noLoops_ok g n) 4
noncomputable def spec_Of.f (a : Int) : Option ((Int × (Int × Int)) × Int) := (bif (decide ((a < (0 : Int)))) then (some (((0 : Int), ((0 : Int), (0 : Int))), (7 : Int))) else (bif (decide ((a > (128 : Int)))) then (some (((0 : Int), ((0 : Int), (0 : Int))), (7 : Int))) else (bif (a == (0 : Int)) then (some (((0 : Int), ((0 : Int), (0 : Int))), (7 : Int))) else (bif (a == (1 : Int)) then (some (((0 : Int), ((0 : Int), (0 : Int))), (7 : Int))) else (bif (a == (2 : Int)) then (some (((1 : Int), ((2 : Int), (19 : Int))), (0 : Int))) else (bif (a == (3 : Int)) then (some (((1 : Int), ((0 : Int), (6 : Int))), (0 : Int))) else (bif (a == (4 : Int)) then (some (((1 : Int), ((0 : Int), (12 : Int))), (0 : Int))) else (bif (a == (5 : Int)) then (some (((1 : Int), ((0 : Int), (12 : Int))), (0 : Int))) else (bif (a == (6 : Int)) then (some (((1 : Int), ((0 : Int), (12 : Int))), (0 : Int))) else (bif (a == (7 : Int)) then (some (((1 : Int), ((0 : Int), (10 : Int))), (0 : Int))) else (bif (a == (8 : Int)) then (some (((1 : Int), ((0 : Int), (8 : Int))), (0 : Int))) else (bif (a == (9 : Int)) then (some (((1 : Int), ((0 : Int), (8 : Int))), (0 : Int))) else (bif (a == (10 : Int)) then (some (((1 : Int), ((0 : Int), (8 : Int))), (0 : Int))) else (bif (a == (11 : Int)) then (some (((1 : Int), ((0 : Int), (6 : Int))), (0 : Int))) else (bif (a == (12 : Int)) then (some (((1 : Int), ((0 : Int), (6 : Int))), (0 : Int))) else (bif (a == (13 : Int)) then (some (((1 : Int), ((0 : Int), (4 : Int))), (0 : Int))) else (bif (a == (14 : Int)) then (some (((1 : Int), ((0 : Int), (4 : Int))), (0 : Int))) else (bif (a == (15 : Int)) then (some (((1 : Int), ((0 : Int), (4 : Int))), (0 : Int))) else (bif (a == (16 : Int)) then (some (((1 : Int), ((0 : Int), (4 : Int))), (0 : Int))) else (bif (a == (17 : Int)) then (some (((1 : Int), ((0 : Int), (4 : Int))), (0 : Int))) else (bif (a == (18 : Int)) then (some (((1 : Int), ((0 : Int), (4 : Int))), (0 : Int))) else (bif (a == (19 : Int)) then (some (((1 : Int), ((0 : Int), (3 : Int))), (0 : Int))) else (bif (a == (20 : Int)) then (some (((1 : Int), ((0 : Int), (3 : Int))), (0 : Int))) else (bif (a == (21 : Int)) then (some (((1 : Int), ((0 : Int), (3 : Int))), (0 : Int))) else (bif (a == (22 : Int)) then (some (((1 : Int), ((0 : Int), (3 : Int))), (0 : Int))) else (bif (a == (23 : Int)) then (some (((1 : Int), ((0 : Int), (3 : Int))), (0 : Int))) else (bif (a == (24 : Int)) then (some (((1 : Int), ((0 : Int), (3 : Int))), (0 : Int))) else (bif (a == (25 : Int)) then (some (((1 : Int), ((0 : Int), (2 : Int))), (0 : Int))) else (bif (a == (26 : Int)) then (some (((1 : Int), ((0 : Int), (2 : Int))), (0 : Int))) else (bif (a == (27 : Int)) then (some (((1 : Int), ((0 : Int), (1 : Int))), (0 : Int))) else (bif (a == (28 : Int)) then (some (((2 : Int), ((0 : Int), (9 : Int))), (0 : Int))) else (bif (a == (29 : Int)) then (some (((2 : Int), ((0 : Int), (9 : Int))), (0 : Int))) else (bif (a == (30 : Int)) then (some (((2 : Int), ((0 : Int), (9 : Int))), (0 : Int))) else (bif (a == (31 : Int)) then (some (((2 : Int), ((0 : Int), (9 : Int))), (0 : Int))) else (bif (a == (32 : Int)) then (some (((1 : Int), ((2 : Int), (11 : Int))), (0 : Int))) else (bif (a == (33 : Int)) then (some (((1 : Int), ((2 : Int), (11 : Int))), (0 : Int))) else (bif (a == (34 : Int)) then (some (((2 : Int), ((2 : Int), (28 : Int))), (0 : Int))) else (bif (a == (35 : Int)) then (some (((3 : Int), ((2 : Int), (37 : Int))), (0 : Int))) else (bif (a == (36 : Int)) then (some (((3 : Int), ((3 : Int), (104 : Int))), (0 : Int))) else (bif (a == (37 : Int)) then (some (((2 : Int), ((0 : Int), (12 : Int))), (0 : Int))) else (bif (a == (38 : Int)) then (some (((2 : Int), ((0 : Int), (6 : Int))), (0 : Int))) else (bif (a == (39 : Int)) then (some (((2 : Int), ((0 : Int), (2 : Int))), (0 : Int))) else (bif (a == (40 : Int)) then (some (((2 : Int), ((0 : Int), (3 : Int))), (0 : Int))) else (bif (a == (41 : Int)) then (some (((3 : Int), ((0 : Int), (8 : Int))), (0 : Int))) else (bif (a == (42 : Int)) then (some (((3 : Int), ((0 : Int), (15 : Int))), (0 : Int))) else (bif (a == (43 : Int)) then (some (((3 : Int), ((0 : Int), (40 : Int))), (0 : Int))) else (bif (a == (44 : Int)) then (some (((3 : Int), ((2 : Int), (25 : Int))), (0 : Int))) else (bif (a == (45 : Int)) then (some (((3 : Int), ((2 : Int), (76 : Int))), (0 : Int))) else (bif (a == (46 : Int)) then (some (((3 : Int), ((3 : Int), (999 : Int))), (0 : Int))) else (bif (a == (47 : Int)) then (some (((3 : Int), ((3 : Int), (999 : Int))), (0 : Int))) else (bif (a == (48 : Int)) then (some (((3 : Int), ((3 : Int), (999 : Int))), (0 : Int))) else (bif (a == (49 : Int)) then (some (((2 : Int), ((0 : Int), (3 : Int))), (0 : Int))) else (bif (a == (50 : Int)) then (some (((2 : Int), ((0 : Int), (3 : Int))), (0 : Int))) else (bif (a == (51 : Int)) then (some (((2 : Int), ((0 : Int), (3 : Int))), (0 : Int))) else (bif (a == (52 : Int)) then (some (((4 : Int), ((0 : Int), (8 : Int))), (0 : Int))) else (bif (a == (53 : Int)) then (some (((1 : Int), ((0 : Int), (16 : Int))), (0 : Int))) else (bif (a == (54 : Int)) then (some (((2 : Int), ((3 : Int), (120 : Int))), (0 : Int))) else (bif (a == (55 : Int)) then (some (((3 : Int), ((3 : Int), (999 : Int))), (0 : Int))) else (bif (a == (56 : Int)) then (some (((3 : Int), ((3 : Int), (999 : Int))), (0 : Int))) else (bif (a == (57 : Int)) then (some (((3 : Int), ((3 : Int), (999 : Int))), (0 : Int))) else (bif (a == (58 : Int)) then (some (((3 : Int), ((3 : Int), (999 : Int))), (0 : Int))) else (bif (a == (59 : Int)) then (some (((3 : Int), ((3 : Int), (999 : Int))), (0 : Int))) else (bif (a == (60 : Int)) then (some (((3 : Int), ((3 : Int), (999 : Int))), (0 : Int))) else (bif (a == (61 : Int)) then (some (((3 : Int), ((3 : Int), (999 : Int))), (0 : Int))) else (bif (a == (62 : Int)) then (some (((3 : Int), ((3 : Int), (999 : Int))), (0 : Int))) else (bif (a == (63 : Int)) then (some (((3 : Int), ((3 : Int), (999 : Int))), (0 : Int))) else (bif (a == (64 : Int)) then (some (((4 : Int), ((0 : Int), (8 : Int))), (0 : Int))) else (bif (a == (65 : Int)) then (some (((0 : Int), ((0 : Int), (0 : Int))), (7 : Int))) else (bif (a == (66 : Int)) then (some (((1 : Int), ((0 : Int), (1 : Int))), (0 : Int))) else (bif (a == (67 : Int)) then (some (((1 : Int), ((0 : Int), (2 : Int))), (0 : Int))) else (bif (a == (68 : Int)) then (some (((1 : Int), ((0 : Int), (3 : Int))), (0 : Int))) else (bif (a == (69 : Int)) then (some (((1 : Int), ((0 : Int), (3 : Int))), (0 : Int))) else (bif (a == (70 : Int)) then (some (((1 : Int), ((0 : Int), (3 : Int))), (0 : Int))) else (bif (a == (71 : Int)) then (some (((1 : Int), ((0 : Int), (4 : Int))), (0 : Int))) else (bif (a == (72 : Int)) then (some (((1 : Int), ((0 : Int), (4 : Int))), (0 : Int))) else (bif (a == (73 : Int)) then (some (((1 : Int), ((0 : Int), (6 : Int))), (0 : Int))) else (bif (a == (74 : Int)) then (some (((1 : Int), ((0 : Int), (10 : Int))), (0 : Int))) else (bif (a == (75 : Int)) then (some (((1 : Int), ((0 : Int), (10 : Int))), (0 : Int))) else (bif (a == (76 : Int)) then (some (((1 : Int), ((0 : Int), (10 : Int))), (0 : Int))) else (bif (a == (77 : Int)) then (some (((1 : Int), ((0 : Int), (10 : Int))), (0 : Int))) else (bif (a == (78 : Int)) then (some (((1 : Int), ((0 : Int), (10 : Int))), (0 : Int))) else (bif (a == (79 : Int)) then (some (((1 : Int), ((0 : Int), (10 : Int))), (0 : Int))) else (bif (a == (80 : Int)) then (some (((1 : Int), ((0 : Int), (10 : Int))), (0 : Int))) else (bif (a == (81 : Int)) then (some (((1 : Int), ((0 : Int), (10 : Int))), (0 : Int))) else (bif (a == (82 : Int)) then (some (((1 : Int), ((0 : Int), (12 : Int))), (0 : Int))) else (bif (a == (83 : Int)) then (some (((1 : Int), ((0 : Int), (12 : Int))), (0 : Int))) else (bif (a == (84 : Int)) then (some (((1 : Int), ((0 : Int), (12 : Int))), (0 : Int))) else (bif (a == (85 : Int)) then (some (((1 : Int), ((0 : Int), (12 : Int))), (0 : Int))) else (bif (a == (86 : Int)) then (some (((1 : Int), ((0 : Int), (16 : Int))), (0 : Int))) else (bif (a == (87 : Int)) then (some (((1 : Int), ((0 : Int), (16 : Int))), (0 : Int))) else (bif (a == (88 : Int)) then (some (((1 : Int), ((0 : Int), (16 : Int))), (0 : Int))) else (bif (a == (89 : Int)) then (some (((1 : Int), ((0 : Int), (16 : Int))), (0 : Int))) else (bif (a == (90 : Int)) then (some (((1 : Int), ((0 : Int), (42 : Int))), (0 : Int))) else (bif (a == (91 : Int)) then (some (((2 : Int), ((0 : Int), (1 : Int))), (0 : Int))) else (bif (a == (92 : Int)) then (some (((2 : Int), ((0 : Int), (2 : Int))), (0 : Int))) else (bif (a == (93 : Int)) then (some (((2 : Int), ((0 : Int), (5 : Int))), (0 : Int))) else (bif (a == (94 : Int)) then (some (((2 : Int), ((0 : Int), (7 : Int))), (0 : Int))) else (bif (a == (95 : Int)) then (some (((2 : Int), ((0 : Int), (42 : Int))), (0 : Int))) else (bif (a == (96 : Int)) then (some (((4 : Int), ((0 : Int), (8 : Int))), (0 : Int))) else (bif (a == (97 : Int)) then (some (((2 : Int), ((0 : Int), (17 : Int))), (0 : Int))) else (bif (a == (98 : Int)) then (some (((3 : Int), ((0 : Int), (25 : Int))), (0 : Int))) else (bif (a == (99 : Int)) then (some (((1 : Int), ((2 : Int), (11 : Int))), (0 : Int))) else (bif (a == (100 : Int)) then (some (((1 : Int), ((2 : Int), (11 : Int))), (0 : Int))) else (bif (a == (101 : Int)) then (some (((3 : Int), ((2 : Int), (17 : Int))), (0 : Int))) else (bif (a == (102 : Int)) then (some (((3 : Int), ((2 : Int), (28 : Int))), (0 : Int))) else (bif (a == (103 : Int)) then (some (((3 : Int), ((2 : Int), (28 : Int))), (0 : Int))) else (bif (a == (104 : Int)) then (some (((3 : Int), ((3 : Int), (100 : Int))), (0 : Int))) else (bif (a == (105 : Int)) then (some (((3 : Int), ((3 : Int), (999 : Int))), (0 : Int))) else (bif (a == (106 : Int)) then (some (((3 : Int), ((3 : Int), (999 : Int))), (0 : Int))) else (bif (a == (107 : Int)) then (some (((3 : Int), ((3 : Int), (999 : Int))), (0 : Int))) else (bif (a == (108 : Int)) then (some (((3 : Int), ((3 : Int), (999 : Int))), (0 : Int))) else (bif (a == (109 : Int)) then (some (((3 : Int), ((3 : Int), (999 : Int))), (0 : Int))) else (bif (a == (110 : Int)) then (some (((3 : Int), ((3 : Int), (999 : Int))), (0 : Int))) else (bif (a == (111 : Int)) then (some (((3 : Int), ((3 : Int), (999 : Int))), (0 : Int))) else (bif (a == (112 : Int)) then (some (((3 : Int), ((3 : Int), (999 : Int))), (0 : Int))) else (bif (a == (113 : Int)) then (some (((3 : Int), ((3 : Int), (999 : Int))), (0 : Int))) else (bif (a == (114 : Int)) then (some (((3 : Int), ((3 : Int), (999 : Int))), (0 : Int))) else (bif (a == (115 : Int)) then (some (((3 : Int), ((3 : Int), (999 : Int))), (0 : Int))) else (bif (a == (116 : Int)) then (some (((3 : Int), ((3 : Int), (999 : Int))), (0 : Int))) else (bif (a == (117 : Int)) then (some (((3 : Int), ((3 : Int), (999 : Int))), (0 : Int))) else (bif (a == (118 : Int)) then (some (((3 : Int), ((3 : Int), (999 : Int))), (0 : Int))) else (bif (a == (119 : Int)) then (some (((3 : Int), ((3 : Int), (999 : Int))), (0 : Int))) else (bif (a == (120 : Int)) then (some (((3 : Int), ((3 : Int), (999 : Int))), (0 : Int))) else (bif (a == (121 : Int)) then (some (((3 : Int), ((3 : Int), (999 : Int))), (0 : Int))) else (bif (a == (122 : Int)) then (some (((3 : Int), ((3 : Int), (999 : Int))), (0 : Int))) else (bif (a == (123 : Int)) then (some (((3 : Int), ((3 : Int), (999 : Int))), (0 : Int))) else (bif (a == (124 : Int)) then (some (((3 : Int), ((3 : Int), (999 : Int))), (0 : Int))) else (bif (a == (125 : Int)) then (some (((3 : Int), ((3 : Int), (999 : Int))), (0 : Int))) else (bif (a == (126 : Int)) then (some (((3 : Int), ((3 : Int), (999 : Int))), (0 : Int))) else (bif (a == (127 : Int)) then (some (((3 : Int), ((3 : Int), (999 : Int))), (0 : Int))) else (bif (a == (128 : Int)) then (some (((4 : Int), ((0 : Int), (8 : Int))), (0 : Int))) else none)))))))))))))))))))))))))))))))))))))))))))))))))))))))))))))))))))))))))))))))))))))))))))))))))))))))))))))))))))))))))))))))))))
theorem spec_Of.ok : ∀ a : Vals spec_Of.As.tys, fnK P spec_Of.H (lp []) 26 spec_Of.As spec_Of.m a some = spec_Of.f a := fun a => by kernel_rfl
noncomputable abbrev spec_Of.row : Row := fnRow 26 spec_Of.As spec_Of.m spec_Of.f
theorem spec_Of.row_ok : RowOK P G1 spec_Of.row := row_told spec_Of.hok (lp_of (l := []) trivial) (fun _ => rfl) spec_Of.ok
end Go.Proofs.YtkgnhjmbnmaboaaDoor
end
section
/- The Go function spec.pure, as a Lean function, and that it is this one. Written by a program of this session. -/
set_option linter.unusedVariables false
set_option maxRecDepth 100000
namespace Go.Proofs.YtkgnhjmbnmaboaaDoor
open Go Go.Fw
abbrev spec_pure.As : Shs := (.cons (.x T_api_Spec) (.cons (.x .s) .nil))
abbrev spec_pure.m : Back := [(false, .b)]
noncomputable abbrev spec_pure.H : HK := hk P G0 E0 J0 [spec_kinds.row] noLoops 4
theorem spec_pure.rows : TabOK P G0 (tabF [spec_kinds.row]) := rows_ok (ws := [spec_kinds.row]) ⟨spec_kinds.row_ok, trivial⟩
theorem spec_pure.hok : HKOK P spec_pure.H := hk_ok e0_ok j0_ok spec_pure.rows (fun g n => noLoops_ok g n) 4
noncomputable abbrev spec_pure.sh4 : SSh := ⟨[(1, (.x .s)), (5, (.c 1)), (13, (.x (.i .i64))), (14, (.x (.i .i64)))], []⟩
noncomputable abbrev spec_pure.os4 : PEnds := [((.exit 0), ⟨[], []⟩)]
noncomputable def spec_pure.t4 (s : (ByteArray × (Int × Int))) : Option ((ByteArray × (Int × Int)) ⊕ (Unit)) := (bif (decide ((s.2.2 < s.2.1))) then (bif ((decide (((0 : Int) ≤ s.2.2))) && (decide ((s.2.2 < (s.1.size : Int))))) then none else none) else (some (.inr ())))
theorem spec_pure.t4_ok : ∀ s : Vals spec_pure.sh4.tys, turnK P spec_pure.H (lp []) (bodyAt (codeOf P 102) 4) 0 spec_pure.sh4 spec_pure.os4 s some = spec_pure.t4 s := fun s => by kernel_rfl
noncomputable def spec_pure.l4 : (ByteArray × (Int × Int)) → Option (Unit) := rounds spec_pure.t4
noncomputable abbrev spec_pure.sh4b : SSh := ⟨[(1, (.x .s)), (5, (.fn 151 .nil)), (13, (.x (.i .i64))), (14, (.x (.i .i64)))], []⟩
noncomputable abbrev spec_pure.os4b : PEnds := [(.ret, ⟨[(4, (.x .b))], []⟩), ((.exit 0), ⟨[], []⟩)]
noncomputable def spec_pure.t4b (s : (ByteArray × (Int × Int))) : Option ((ByteArray × (Int × Int)) ⊕ (Bool ⊕ Unit)) := (bif (decide ((s.2.2 < s.2.1))) then (bif ((decide (((0 : Int) ≤ s.2.2))) && (decide ((s.2.2 < (s.1.size : Int))))) then (bif (decide (((bt s.1 (Int.toNat s.2.2)) ≥ (48 : Int)))) then (bif (!(decide (((bt s.1 (Int.toNat s.2.2)) ≤ (57 : Int))))) then (some (.inr (.inl false))) else (some (.inl (s.1, (s.2.1, (IntKind.wrap .i64 (s.2.2 + (1 : Int)))))))) else (some (.inr (.inl false)))) else none) else (some (.inr (.inr ()))))
theorem spec_pure.t4b_ok : ∀ s : Vals spec_pure.sh4b.tys, turnK P spec_pure.H (lp []) (bodyAt (codeOf P 102) 4) 0 spec_pure.sh4b spec_pure.os4b s some = spec_pure.t4b s := fun s => by kernel_rfl
noncomputable def spec_pure.l4b : (ByteArray × (Int × Int)) → Option (Bool ⊕ Unit) := rounds spec_pure.t4b
noncomputable abbrev spec_pure.sh4c : SSh := ⟨[(1, (.x .s)), (5, (.fn 152 .nil)), (13, (.x (.i .i64))), (14, (.x (.i .i64)))], []⟩
noncomputable abbrev spec_pure.os4c : PEnds := [(.ret, ⟨[(4, (.x .b))], []⟩), ((.exit 0), ⟨[], []⟩)]
noncomputable def spec_pure.t4c (s : (ByteArray × (Int × Int))) : Option ((ByteArray × (Int × Int)) ⊕ (Bool ⊕ Unit)) := (bif (decide ((s.2.2 < s.2.1))) then (bif ((decide (((0 : Int) ≤ s.2.2))) && (decide ((s.2.2 < (s.1.size : Int))))) then (bif (decide (((bt s.1 (Int.toNat s.2.2)) ≥ (48 : Int)))) then (bif (decide (((bt s.1 (Int.toNat s.2.2)) ≤ (57 : Int)))) then (some (.inl (s.1, (s.2.1, (IntKind.wrap .i64 (s.2.2 + (1 : Int))))))) else (bif (decide (((bitsOp Go.BinOp.or Go.IntKind.u8 (bt s.1 (Int.toNat s.2.2)) (32 : Int)) ≥ (97 : Int)))) then (bif (decide (((bitsOp Go.BinOp.or Go.IntKind.u8 (bt s.1 (Int.toNat s.2.2)) (32 : Int)) ≤ (122 : Int)))) then (some (.inl (s.1, (s.2.1, (IntKind.wrap .i64 (s.2.2 + (1 : Int))))))) else (bif (!((bt s.1 (Int.toNat s.2.2)) == (32 : Int))) then (some (.inr (.inl false))) else (some (.inl (s.1, (s.2.1, (IntKind.wrap .i64 (s.2.2 + (1 : Int))))))))) else (bif (!((bt s.1 (Int.toNat s.2.2)) == (32 : Int))) then (some (.inr (.inl false))) else (some (.inl (s.1, (s.2.1, (IntKind.wrap .i64 (s.2.2 + (1 : Int)))))))))) else (bif (decide (((bitsOp Go.BinOp.or Go.IntKind.u8 (bt s.1 (Int.toNat s.2.2)) (32 : Int)) ≥ (97 : Int)))) then (bif (decide (((bitsOp Go.BinOp.or Go.IntKind.u8 (bt s.1 (Int.toNat s.2.2)) (32 : Int)) ≤ (122 : Int)))) then (some (.inl (s.1, (s.2.1, (IntKind.wrap .i64 (s.2.2 + (1 : Int))))))) else (bif (!((bt s.1 (Int.toNat s.2.2)) == (32 : Int))) then (some (.inr (.inl false))) else (some (.inl (s.1, (s.2.1, (IntKind.wrap .i64 (s.2.2 + (1 : Int))))))))) else (bif (!((bt s.1 (Int.toNat s.2.2)) == (32 : Int))) then (some (.inr (.inl false))) else (some (.inl (s.1, (s.2.1, (IntKind.wrap .i64 (s.2.2 + (1 : Int)))))))))) else none) else (some (.inr (.inr ()))))
theorem spec_pure.t4c_ok : ∀ s : Vals spec_pure.sh4c.tys, turnK P spec_pure.H (lp []) (bodyAt (codeOf P 102) 4) 0 spec_pure.sh4c spec_pure.os4c s some = spec_pure.t4c s := fun s => by kernel_rfl
noncomputable def spec_pure.l4c : (ByteArray × (Int × Int)) → Option (Bool ⊕ Unit) := rounds spec_pure.t4c
noncomputable abbrev spec_pure.sh4d : SSh := ⟨[(1, (.x .s)), (5, (.fn 154 .nil)), (13, (.x (.i .i64))), (14, (.x (.i .i64)))], []⟩
noncomputable abbrev spec_pure.os4d : PEnds := [(.ret, ⟨[(4, (.x .b))], []⟩), ((.exit 0), ⟨[], []⟩)]
noncomputable def spec_pure.t4d (s : (ByteArray × (Int × Int))) : Option ((ByteArray × (Int × Int)) ⊕ (Bool ⊕ Unit)) := (bif (decide ((s.2.2 < s.2.1))) then (bif ((decide (((0 : Int) ≤ s.2.2))) && (decide ((s.2.2 < (s.1.size : Int))))) then (bif (decide (((bt s.1 (Int.toNat s.2.2)) ≥ (32 : Int)))) then (bif (!(decide (((bt s.1 (Int.toNat s.2.2)) ≤ (126 : Int))))) then (some (.inr (.inl false))) else (some (.inl (s.1, (s.2.1, (IntKind.wrap .i64 (s.2.2 + (1 : Int)))))))) else (some (.inr (.inl false)))) else none) else (some (.inr (.inr ()))))
theorem spec_pure.t4d_ok : ∀ s : Vals spec_pure.sh4d.tys, turnK P spec_pure.H (lp []) (bodyAt (codeOf P 102) 4) 0 spec_pure.sh4d spec_pure.os4d s some = spec_pure.t4d s := fun s => by kernel_rfl
noncomputable def spec_pure.l4d : (ByteArray × (Int × Int)) → Option (Bool ⊕ Unit) := rounds spec_pure.t4d
noncomputable abbrev spec_pure.sh4e : SSh := ⟨[(1, (.x .s)), (5, (.fn 155 .nil)), (13, (.x (.i .i64))), (14, (.x (.i .i64)))], []⟩
noncomputable abbrev spec_pure.os4e : PEnds := [((.exit 0), ⟨[], []⟩)]
noncomputable def spec_pure.t4e (s : (ByteArray × (Int × Int))) : Option ((ByteArray × (Int × Int)) ⊕ (Unit)) := (bif (decide ((s.2.2 < s.2.1))) then (bif ((decide (((0 : Int) ≤ s.2.2))) && (decide ((s.2.2 < (s.1.size : Int))))) then (some (.inl (s.1, (s.2.1, (IntKind.wrap .i64 (s.2.2 + (1 : Int))))))) else none) else (some (.inr ())))
theorem spec_pure.t4e_ok : ∀ s : Vals spec_pure.sh4e.tys, turnK P spec_pure.H (lp []) (bodyAt (codeOf P 102) 4) 0 spec_pure.sh4e spec_pure.os4e s some = spec_pure.t4e s := fun s => by kernel_rfl
noncomputable def spec_pure.l4e : (ByteArray × (Int × Int)) → Option (Unit) := rounds spec_pure.t4e
noncomputable def spec_pure.f (a : ((Int × (Int × Int)) × ByteArray)) : Option Bool := (bif (a.1.1 == (0 : Int)) then (((spec_pure.l4 (a.2, ((a.2.size : Int), (0 : Int))))).bind fun (x2 : PUnit) => (some true)) else (bif (a.1.1 == (1 : Int)) then (((spec_pure.l4b (a.2, ((a.2.size : Int), (0 : Int))))).bind fun (x2 : (Bool ⊕ PUnit)) => (match x2 with | .inl x3 => (some x3) | .inr x3 => (some true))) else (bif (a.1.1 == (2 : Int)) then (((spec_pure.l4c (a.2, ((a.2.size : Int), (0 : Int))))).bind fun (x2 : (Bool ⊕ PUnit)) => (match x2 with | .inl x3 => (some x3) | .inr x3 => (some true))) else (bif (a.1.1 == (3 : Int)) then (((spec_pure.l4d (a.2, ((a.2.size : Int), (0 : Int))))).bind fun (x2 : (Bool ⊕ PUnit)) => (match x2 with | .inl x3 => (some x3) | .inr x3 => (some true))) else (bif (a.1.1 == (4 : Int)) then (((spec_pure.l4e (a.2, ((a.2.size : Int), (0 : Int))))).bind fun (x2 : PUnit) => (some true)) else none)))))
theorem spec_pure.ok : ∀ a : Vals spec_pure.As.tys, fnK P spec_pure.H (lp [(4, (orS 0 spec_pure.sh4 (NodeT.summ ⟨spec_pure.sh4, spec_pure.os4, spec_pure.l4⟩ 0) (orS 0 spec_pure.sh4b (NodeT.summ ⟨spec_pure.sh4b, spec_pure.os4b, spec_pure.l4b⟩ 0) (orS 0 spec_pure.sh4c (NodeT.summ ⟨spec_pure.sh4c, spec_pure.os4c, spec_pure.l4c⟩ 0) (orS 0 spec_pure.sh4d (NodeT.summ ⟨spec_pure.sh4d, spec_pure.os4d, spec_pure.l4d⟩ 0) (NodeT.summ ⟨spec_pure.sh4e, spec_pure.os4e, spec_pure.l4e⟩ 0))))))]) 102 spec_pure.As spec_pure.m a some = spec_pure.f a := fun a => by kernel_rfl
noncomputable abbrev spec_pure.row : Row := fnRow 102 spec_pure.As spec_pure.m spec_pure.f
theorem spec_pure.row_ok : RowOK P G0 spec_pure.row := row_told spec_pure.hok (lp_of (l := [(4, (orS 0 spec_pure.sh4 (NodeT.summ ⟨spec_pure.sh4, spec_pure.os4, spec_pure.l4⟩ 0) (orS 0 spec_pure.sh4b (NodeT.summ ⟨spec_pure.sh4b, spec_pure.os4b, spec_pure.l4b⟩ 0) (orS 0 spec_pure.sh4c (NodeT.summ ⟨spec_pure.sh4c, spec_pure.os4c, spec_pure.l4c⟩ 0) (orS 0 spec_pure.sh4d (NodeT.summ ⟨spec_pure.sh4d, spec_pure.os4d, spec_pure.l4d⟩ 0) (NodeT.summ ⟨spec_pure.sh4e, spec_pure.os4e, spec_pure.l4e⟩ 0))))))]) ⟨(or_sum (loop_sum spec_pure.hok (by kernel_rfl) (by kernel_rfl) (l := []) trivial spec_pure.sh4 spec_pure.os4 (by kernel_rfl) spec_pure.t4 spec_pure.t4_ok) (or_sum (loop_sum spec_pure.hok (by kernel_rfl) (by kernel_rfl) (l := []) trivial spec_pure.sh4b spec_pure.os4b (by kernel_rfl) spec_pure.t4b spec_pure.t4b_ok) (or_sum (loop_sum spec_pure.hok (by kernel_rfl) (by kernel_rfl) (l := []) trivial spec_pure.sh4c spec_pure.os4c (by kernel_rfl) spec_pure.t4c spec_pure.t4c_ok) (or_sum (loop_sum spec_pure.hok (by kernel_rfl) (by kernel_rfl) (l := []) trivial spec_pure.sh4d spec_pure.os4d (by kernel_rfl) spec_pure.t4d spec_pure.t4d_ok) (loop_sum spec_pure.hok (by kernel_rfl) (by kernel_rfl) (l := []) trivial spec_pure.sh4e spec_pure.os4e (by kernel_rfl) spec_pure.t4e spec_pure.t4e_ok))))), trivial⟩) (fun _ => rfl) spec_pure.ok
end Go.Proofs.YtkgnhjmbnmaboaaDoor
end
section
/- The Go function bursarref16.in, as a Lean function, and that it is this one. Written by a program of this session. -/
set_option linter.unusedVariables false
set_option maxRecDepth 100000
namespace Go.Proofs.YtkgnhjmbnmaboaaDoor
open Go Go.Fw
abbrev bursarref16_in.As : Shs := (.cons (.x (.i .i64)) (.cons (.x (.i .i64)) (.cons (.x (.i .i64)) .nil)))
abbrev bursarref16_in.m : Back := [(false, .b)]
noncomputable abbrev bursarref16_in.H : HK := hk P G0 E0 J0 [] noLoops 4
theorem bursarref16_in.rows : TabOK P G0 (tabF []) := rows_ok (ws := []) trivial
theorem bursarref16_in.hok : HKOK P bursarref16_in.H := hk_ok e0_ok j0_ok bursarref16_in.rows (fun g n => noLoops_ok g n) 4
noncomputable def bursarref16_in.f (a : (Int × (Int × Int))) : Option Bool := (bif (decide ((a.2.1 ≤ a.1))) then (some (decide ((a.1 ≤ a.2.2)))) else (some false))
theorem bursarref16_in.ok : ∀ a : Vals bursarref16_in.As.tys, fnK P bursarref16_in.H (lp []) 68 bursarref16_in.As bursarref16_in.m a some = bursarref16_in.f a := fun a => by kernel_rfl
noncomputable abbrev bursarref16_in.row : Row := fnRow 68 bursarref16_in.As bursarref16_in.m bursarref16_in.f
theorem bursarref16_in.row_ok : RowOK P G0 bursarref16_in.row := row_told bursarref16_in.hok (lp_of (l := []) trivial) (fun _ => rfl) bursarref16_in.ok
end Go.Proofs.YtkgnhjmbnmaboaaDoor
end
section
/- The Go function bursarref16.Of, as a Lean function, and that it is this one. Written by a program of this session. -/
set_option linter.unusedVariables false
set_option maxRecDepth 100000
namespace Go.Proofs.YtkgnhjmbnmaboaaDoor
open Go Go.Fw
abbrev bursarref16_Of.As : Shs := (.cons (.x (.i .i64)) .nil)
abbrev bursarref16_Of.m : Back := [(false, T_api_Spec)]
noncomputable abbrev bursarref16_Of.H : HK := hk P G0 E0 J0 [bursarref16_in.row] noLoops 4
theorem bursarref16_Of.rows : TabOK P G0 (tabF [bursarref16_in.row]) := rows_ok (ws := [bursarref16_in.row]) ⟨bursarref16_in.row_ok, trivial⟩
theorem bursarref16_Of.hok : HKOK P bursarref16_Of.H := hk_ok e0_ok j0_ok bursarref16_Of.rows (fun g n => noLoops_ok g n) 4
noncomputable def bursarref16_Of.f (a : Int) : Option (Int × (Int × Int)) := (bif (a == (2 : Int)) then (some ((1 : Int), ((2 : Int), (19 : Int)))) else (bif (a == (3 : Int)) then (some ((1 : Int), ((0 : Int), (6 : Int)))) else (bif (a == (11 : Int)) then (some ((1 : Int), ((0 : Int), (6 : Int)))) else (bif (a == (12 : Int)) then (some ((1 : Int), ((0 : Int), (6 : Int)))) else (bif (a == (73 : Int)) then (some ((1 : Int), ((0 : Int), (6 : Int)))) else (((bursarref16_in.f (a, ((4 : Int), (6 : Int))))).bind fun (x1 : Bool) => (bif x1 then (some ((1 : Int), ((0 : Int), (12 : Int)))) else (((bursarref16_in.f (a, ((82 : Int), (85 : Int))))).bind fun (x2 : Bool) => (bif x2 then (some ((1 : Int), ((0 : Int), (12 : Int)))) else (bif (a == (7 : Int)) then (some ((1 : Int), ((0 : Int), (10 : Int)))) else (((bursarref16_in.f (a, ((74 : Int), (81 : Int))))).bind fun (x3 : Bool) => (bif x3 then (some ((1 : Int), ((0 : Int), (10 : Int)))) else (((bursarref16_in.f (a, ((8 : Int), (10 : Int))))).bind fun (x4 : Bool) => (bif x4 then (some ((1 : Int), ((0 : Int), (8 : Int)))) else (((bursarref16_in.f (a, ((13 : Int), (18 : Int))))).bind fun (x5 : Bool) => (bif x5 then (some ((1 : Int), ((0 : Int), (4 : Int)))) else (bif (a == (71 : Int)) then (some ((1 : Int), ((0 : Int), (4 : Int)))) else (bif (a == (72 : Int)) then (some ((1 : Int), ((0 : Int), (4 : Int)))) else (((bursarref16_in.f (a, ((19 : Int), (24 : Int))))).bind fun (x6 : Bool) => (bif x6 then (some ((1 : Int), ((0 : Int), (3 : Int)))) else (((bursarref16_in.f (a, ((68 : Int), (70 : Int))))).bind fun (x7 : Bool) => (bif x7 then (some ((1 : Int), ((0 : Int), (3 : Int)))) else (bif (a == (25 : Int)) then (some ((1 : Int), ((0 : Int), (2 : Int)))) else (bif (a == (26 : Int)) then (some ((1 : Int), ((0 : Int), (2 : Int)))) else (bif (a == (67 : Int)) then (some ((1 : Int), ((0 : Int), (2 : Int)))) else (bif (a == (27 : Int)) then (some ((1 : Int), ((0 : Int), (1 : Int)))) else (bif (a == (66 : Int)) then (some ((1 : Int), ((0 : Int), (1 : Int)))) else (((bursarref16_in.f (a, ((28 : Int), (31 : Int))))).bind fun (x8 : Bool) => (bif x8 then (some ((2 : Int), ((0 : Int), (9 : Int)))) else (bif (a == (32 : Int)) then (some ((1 : Int), ((2 : Int), (11 : Int)))) else (bif (a == (33 : Int)) then (some ((1 : Int), ((2 : Int), (11 : Int)))) else (bif (a == (99 : Int)) then (some ((1 : Int), ((2 : Int), (11 : Int)))) else (bif (a == (100 : Int)) then (some ((1 : Int), ((2 : Int), (11 : Int)))) else (bif (a == (34 : Int)) then (some ((2 : Int), ((2 : Int), (28 : Int)))) else (bif (a == (35 : Int)) then (some ((3 : Int), ((2 : Int), (37 : Int)))) else (bif (a == (36 : Int)) then (some ((3 : Int), ((3 : Int), (104 : Int)))) else (bif (a == (37 : Int)) then (some ((2 : Int), ((0 : Int), (12 : Int)))) else (bif (a == (38 : Int)) then (some ((2 : Int), ((0 : Int), (6 : Int)))) else (bif (a == (39 : Int)) then (some ((2 : Int), ((0 : Int), (2 : Int)))) else (bif (a == (92 : Int)) then (some ((2 : Int), ((0 : Int), (2 : Int)))) else (bif (a == (40 : Int)) then (some ((2 : Int), ((0 : Int), (3 : Int)))) else (((bursarref16_in.f (a, ((49 : Int), (51 : Int))))).bind fun (x9 : Bool) => (bif x9 then (some ((2 : Int), ((0 : Int), (3 : Int)))) else (bif (a == (41 : Int)) then (some ((3 : Int), ((0 : Int), (8 : Int)))) else (bif (a == (42 : Int)) then (some ((3 : Int), ((0 : Int), (15 : Int)))) else (bif (a == (43 : Int)) then (some ((3 : Int), ((0 : Int), (40 : Int)))) else (bif (a == (44 : Int)) then (some ((3 : Int), ((2 : Int), (25 : Int)))) else (bif (a == (45 : Int)) then (some ((3 : Int), ((2 : Int), (76 : Int)))) else (((bursarref16_in.f (a, ((46 : Int), (48 : Int))))).bind fun (x10 : Bool) => (bif x10 then (some ((3 : Int), ((3 : Int), (999 : Int)))) else (((bursarref16_in.f (a, ((55 : Int), (63 : Int))))).bind fun (x11 : Bool) => (bif x11 then (some ((3 : Int), ((3 : Int), (999 : Int)))) else (((bursarref16_in.f (a, ((105 : Int), (127 : Int))))).bind fun (x12 : Bool) => (bif x12 then (some ((3 : Int), ((3 : Int), (999 : Int)))) else (bif (a == (52 : Int)) then (some ((4 : Int), ((0 : Int), (8 : Int)))) else (bif (a == (64 : Int)) then (some ((4 : Int), ((0 : Int), (8 : Int)))) else (bif (a == (96 : Int)) then (some ((4 : Int), ((0 : Int), (8 : Int)))) else (bif (a == (128 : Int)) then (some ((4 : Int), ((0 : Int), (8 : Int)))) else (bif (a == (53 : Int)) then (some ((1 : Int), ((0 : Int), (16 : Int)))) else (((bursarref16_in.f (a, ((86 : Int), (89 : Int))))).bind fun (x13 : Bool) => (bif x13 then (some ((1 : Int), ((0 : Int), (16 : Int)))) else (bif (a == (54 : Int)) then (some ((2 : Int), ((3 : Int), (120 : Int)))) else (bif (a == (90 : Int)) then (some ((1 : Int), ((0 : Int), (42 : Int)))) else (bif (a == (91 : Int)) then (some ((2 : Int), ((0 : Int), (1 : Int)))) else (bif (a == (93 : Int)) then (some ((2 : Int), ((0 : Int), (5 : Int)))) else (bif (a == (94 : Int)) then (some ((2 : Int), ((0 : Int), (7 : Int)))) else (bif (a == (95 : Int)) then (some ((2 : Int), ((0 : Int), (42 : Int)))) else (bif (a == (97 : Int)) then (some ((2 : Int), ((0 : Int), (17 : Int)))) else (bif (a == (98 : Int)) then (some ((3 : Int), ((0 : Int), (25 : Int)))) else (bif (a == (101 : Int)) then (some ((3 : Int), ((2 : Int), (17 : Int)))) else (bif (a == (102 : Int)) then (some ((3 : Int), ((2 : Int), (28 : Int)))) else (bif (a == (103 : Int)) then (some ((3 : Int), ((2 : Int), (28 : Int)))) else (bif (a == (104 : Int)) then (some ((3 : Int), ((3 : Int), (100 : Int)))) else (some ((0 : Int), ((0 : Int), (0 : Int)))))))))))))))))))))))))))))))))))))))))))))))))))))))))))))))))))))))))))))
theorem bursarref16_Of.ok : ∀ a : Vals bursarref16_Of.As.tys, fnK P bursarref16_Of.H (lp []) 27 bursarref16_Of.As bursarref16_Of.m a some = bursarref16_Of.f a := fun a => by kernel_rfl
noncomputable abbrev bursarref16_Of.row : Row := fnRow 27 bursarref16_Of.As bursarref16_Of.m bursarref16_Of.f
theorem bursarref16_Of.row_ok : RowOK P G0 bursarref16_Of.row := row_told bursarref16_Of.hok (lp_of (l := []) trivial) (fun _ => rfl) bursarref16_Of.ok
end Go.Proofs.YtkgnhjmbnmaboaaDoor
end
section
/- What fields are, and of which octets: plain laws. By this session. -/
set_option linter.unusedVariables false
set_option linter.unusedSimpArgs false
namespace Go.Proofs.YtkgnhjmbnmaboaaDoor
open Go Go.Fw
/-! ### the table -/
def okSpec (k v l : Int) : Bool := (decide (k = 0) && (decide (v = 0) && decide (l = 0))) || (decide (1 ≤ k) && (decide (k ≤ 4) && ((decide (v = 0) || (decide (v = 2) && decide (l ≤ 99)) || decide (v = 3)) && (decide (1 ≤ l) && decide (l ≤ 999)))))
noncomputable def tabCheck (n : Nat) : Bool := match bursarref16_Of.f (n : Int), spec_Of.f (n : Int) with
  | some (k, v, l), some ((k', v', l'), e) => (decide (k = k') && (decide (v = v') && decide (l = l'))) && (decide (e = bif decide (k = 0) then 7 else 0) && okSpec k v l)
  | _, _ => false
theorem tab_all : (List.range 129).all tabCheck = true := by kernel_rfl
theorem of_out {n : Int} (h : ¬ (0 ≤ n ∧ n ≤ 128)) : bursarref16_Of.f n = some (0, 0, 0) ∧ spec_Of.f n = some ((0, 0, 0), 7) := by
  constructor
  · have e : ∀ k : Int, 0 ≤ k → k ≤ 128 → (n == k) = false := fun k h0 h1 => by rw [beq_eq_false_iff_ne]; omega
    have i : ∀ lo hi : Int, 0 ≤ lo → hi ≤ 128 → bursarref16_in.f (n, lo, hi) = some false := fun lo hi h0 h1 => by
      unfold bursarref16_in.f
      by_cases hl : lo ≤ n
      · have : ¬ n ≤ hi := by omega
        simp [hl, this]
      · simp [hl]
    unfold bursarref16_Of.f
    simp [e, i]
  · unfold spec_Of.f
    by_cases h0 : n < 0
    · simp [h0]
    · have h1 : n > 128 := by omega
      simp [h0, h1]
theorem of_is (n : Int) : ∃ k v l : Int, bursarref16_Of.f n = some (k, v, l) ∧ spec_Of.f n = some ((k, v, l), bif decide (k = 0) then 7 else 0) ∧ okSpec k v l = true := by
  by_cases h : 0 ≤ n ∧ n ≤ 128
  · have := List.all_eq_true.1 tab_all n.toNat (List.mem_range.2 (by omega))
    unfold tabCheck at this
    rw [show ((n.toNat : Nat) : Int) = n by omega] at this
    split at this
    · rename_i k v l k' v' l' e h1 h2
      simp only [Bool.and_eq_true, decide_eq_true_eq] at this
      obtain ⟨⟨rfl, rfl, rfl⟩, rfl, h3⟩ := this
      exact ⟨k, v, l, h1, h2, h3⟩
    · cases this
  · obtain ⟨h1, h2⟩ := of_out h
    exact ⟨0, 0, 0, h1, h2, rfl⟩
/-! ### octets of a kind -/
def okN (c : UInt8) : Bool := decide (48 ≤ c.toNat) && decide (c.toNat ≤ 57)
def okA (c : UInt8) : Bool := okN c || (decide (65 ≤ c.toNat) && decide (c.toNat ≤ 90)) || (decide (97 ≤ c.toNat) && decide (c.toNat ≤ 122)) || decide (c.toNat = 32)
def okS (c : UInt8) : Bool := decide (32 ≤ c.toNat) && decide (c.toNat ≤ 126)
def okC (k : Int) (c : UInt8) : Bool := bif k == 1 then okN c else bif k == 2 then okA c else bif k == 3 then okS c else true
theorem or32 : (List.range 256).all (fun c => (decide (97 ≤ bitsOp .or .u8 (c : Int) 32) && decide (bitsOp .or .u8 (c : Int) 32 ≤ 122)) == ((decide (65 ≤ c) && decide (c ≤ 90)) || (decide (97 ≤ c) && decide (c ≤ 122)))) = true := by kernel_rfl
theorem or32_is (c : UInt8) : (decide (97 ≤ bitsOp .or .u8 (c.toNat : Int) 32) && decide (bitsOp .or .u8 (c.toNat : Int) 32 ≤ 122)) = ((decide (65 ≤ c.toNat) && decide (c.toNat ≤ 90)) || (decide (97 ≤ c.toNat) && decide (c.toNat ≤ 122))) := by
  have := List.all_eq_true.1 or32 c.toNat (List.mem_range.2 c.toNat_lt)
  exact eq_of_beq this
/-- rounds over a text, while each octet is right -/
theorem text_rounds {S R : Type} {t : S → Option (S ⊕ R)} (st : Nat → S) (s : ByteArray) (ok : UInt8 → Bool) (out fin : R)
    (h : ∀ i, i < s.size → t (st i) = some (bif ok (s.data.toList.getD i 0) then .inl (st (i + 1)) else .inr out)) (hf : t (st s.size) = some (.inr fin)) : rounds t (st 0) = some (bif s.data.toList.all ok then fin else out) := by
  have := rounds_all st (fun i => ok (s.data.toList.getD i 0)) out fin s.size h hf
  rw [this]
  have e := range_all ok 0 s.data.toList
  rw [show s.data.toList.length = s.size from rfl] at e
  rw [e]
theorem ge0 (i : Nat) : decide ((0 : Int) ≤ (i : Int)) = true := by simp
theorem pure_is {k v l : Int} {s : ByteArray} (hk : 1 ≤ k ∧ k ≤ 4) (hs : s.size < 9223372036854775807) : spec_pure.f ((k, v, l), s) = some (s.data.toList.all (okC k)) := by
  have hk : k = 1 ∨ k = 2 ∨ k = 3 ∨ k = 4 := by omega
  have lt : ∀ i, i < s.size → decide ((i : Int) < (s.size : Int)) = true := fun i hi => by simp only [decide_eq_true_eq]; omega
  have end' : decide ((s.size : Int) < (s.size : Int)) = false := by simp
  rcases hk with rfl | rfl | rfl | rfl
  · have hl : spec_pure.l4b (s, (s.size : Int), 0) = some (bif s.data.toList.all (okC 1) then .inr () else .inl false) := by
      refine text_rounds (t := spec_pure.t4b) (fun i => (s, (s.size : Int), (i : Int))) s (okC 1) (.inl false) (.inr ()) (fun i hi => ?_) ?_
      · simp only [spec_pure.t4b, lt i hi, ge0 i, Bool.true_and, Bool.and_true, Bool.and_self, cond_true, Int.toNat_natCast, wrap_up (show i < 9223372036854775807 by omega), bt]
        obtain ⟨c, hc⟩ : ∃ c, s.data.toList.getD i 0 = c := ⟨_, rfl⟩
        have e1 : decide ((c.toNat : Int) ≥ 48) = decide (48 ≤ c.toNat) := by rw [Bool.eq_iff_iff]; simp; omega
        have e2 : decide ((c.toNat : Int) ≤ 57) = decide (c.toNat ≤ 57) := by rw [Bool.eq_iff_iff]; simp; omega
        simp only [hc, okC, okN, e1, e2]
        cases decide (48 ≤ c.toNat) <;> cases decide (c.toNat ≤ 57) <;> rfl
      · simp [spec_pure.t4b]
    unfold spec_pure.f
    simp only [hl, show ((1 : Int) == 0) = false from rfl, show ((1 : Int) == 1) = true from rfl, cond_true, cond_false, Option.bind_some]
    cases s.data.toList.all (okC 1) <;> rfl
  · have hl : spec_pure.l4c (s, (s.size : Int), 0) = some (bif s.data.toList.all (okC 2) then .inr () else .inl false) := by
      refine text_rounds (t := spec_pure.t4c) (fun i => (s, (s.size : Int), (i : Int))) s (okC 2) (.inl false) (.inr ()) (fun i hi => ?_) ?_
      · simp only [spec_pure.t4c, lt i hi, ge0 i, Bool.true_and, Bool.and_true, Bool.and_self, cond_true, Int.toNat_natCast, wrap_up (show i < 9223372036854775807 by omega), bt]
        obtain ⟨c, hc⟩ : ∃ c, s.data.toList.getD i 0 = c := ⟨_, rfl⟩
        have h32 := or32_is c
        simp only [hc, okC, okA, okN, ge_iff_le, show ((2 : Int) == 1) = false from rfl, show ((2 : Int) == 2) = true from rfl, cond_true, cond_false]
        have e0 : ((c.toNat : Int) == 32) = decide (c.toNat = 32) := by rw [Bool.eq_iff_iff]; simp; omega
        have e1 : decide ((48 : Int) ≤ (c.toNat : Int)) = decide (48 ≤ c.toNat) := by rw [Bool.eq_iff_iff]; simp; omega
        have e2 : decide ((c.toNat : Int) ≤ 57) = decide (c.toNat ≤ 57) := by rw [Bool.eq_iff_iff]; simp; omega
        rw [e0, e1, e2]
        obtain ⟨a, ha⟩ : ∃ a, decide (48 ≤ c.toNat) = a := ⟨_, rfl⟩
        obtain ⟨b, hb⟩ : ∃ a, decide (c.toNat ≤ 57) = a := ⟨_, rfl⟩
        obtain ⟨d, hd⟩ : ∃ a, decide (c.toNat = 32) = a := ⟨_, rfl⟩
        obtain ⟨x, hx⟩ : ∃ a, decide (97 ≤ bitsOp .or .u8 (c.toNat : Int) 32) = a := ⟨_, rfl⟩
        obtain ⟨y, hy⟩ : ∃ a, decide (bitsOp .or .u8 (c.toNat : Int) 32 ≤ 122) = a := ⟨_, rfl⟩
        rw [hx, hy] at h32
        rw [ha, hb, hd, hx, hy, Bool.or_assoc (a && b), ← h32]
        cases a <;> cases b <;> cases d <;> cases x <;> cases y <;> rfl
      · simp [spec_pure.t4c]
    unfold spec_pure.f
    simp only [hl, show ((2 : Int) == 0) = false from rfl, show ((2 : Int) == 1) = false from rfl, show ((2 : Int) == 2) = true from rfl, cond_true, cond_false, Option.bind_some]
    cases s.data.toList.all (okC 2) <;> rfl
  · have hl : spec_pure.l4d (s, (s.size : Int), 0) = some (bif s.data.toList.all (okC 3) then .inr () else .inl false) := by
      refine text_rounds (t := spec_pure.t4d) (fun i => (s, (s.size : Int), (i : Int))) s (okC 3) (.inl false) (.inr ()) (fun i hi => ?_) ?_
      · simp only [spec_pure.t4d, lt i hi, ge0 i, Bool.true_and, Bool.and_true, Bool.and_self, cond_true, Int.toNat_natCast, wrap_up (show i < 9223372036854775807 by omega), bt]
        obtain ⟨c, hc⟩ : ∃ c, s.data.toList.getD i 0 = c := ⟨_, rfl⟩
        have e1 : decide ((c.toNat : Int) ≥ 32) = decide (32 ≤ c.toNat) := by rw [Bool.eq_iff_iff]; simp; omega
        have e2 : decide ((c.toNat : Int) ≤ 126) = decide (c.toNat ≤ 126) := by rw [Bool.eq_iff_iff]; simp; omega
        simp only [hc, okC, okS, e1, e2]
        cases decide (32 ≤ c.toNat) <;> cases decide (c.toNat ≤ 126) <;> rfl
      · simp [spec_pure.t4d]
    unfold spec_pure.f
    simp only [hl, show ((3 : Int) == 0) = false from rfl, show ((3 : Int) == 1) = false from rfl, show ((3 : Int) == 2) = false from rfl, show ((3 : Int) == 3) = true from rfl, cond_true, cond_false, Option.bind_some]
    cases s.data.toList.all (okC 3) <;> rfl
  · have hl : spec_pure.l4e (s, (s.size : Int), 0) = some () := by
      have := rounds_to (t := spec_pure.t4e) (fun i => (s, (s.size : Int), (i : Int))) s.size fun i hi => by
        simp only [spec_pure.t4e, lt i hi, ge0 i, Bool.true_and, Bool.and_true, Bool.and_self, cond_true, wrap_up (show i < 9223372036854775807 by omega)]
      show rounds spec_pure.t4e _ = _
      refine this.trans (rounds_end ?_)
      simp [spec_pure.t4e]
    unfold spec_pure.f
    simp only [hl, show ((4 : Int) == 0) = false from rfl, show ((4 : Int) == 1) = false from rfl, show ((4 : Int) == 2) = false from rfl, show ((4 : Int) == 3) = false from rfl, show ((4 : Int) == 4) = true from rfl, cond_true, cond_false, Option.bind_some]
    have : s.data.toList.all (okC 4) = true := by rw [List.all_eq_true]; intro x _; rfl
    rw [this]
theorem okC_bt (k : Int) (c : UInt8) : okC k c = (bif k == 1 then decide ((48 : Int) ≤ (c.toNat : Int)) && decide ((c.toNat : Int) ≤ 57) else bif k == 2 then (decide ((48 : Int) ≤ (c.toNat : Int)) && decide ((c.toNat : Int) ≤ 57)) || ((decide ((65 : Int) ≤ (c.toNat : Int)) && decide ((c.toNat : Int) ≤ 90)) || (decide ((97 : Int) ≤ (c.toNat : Int)) && decide ((c.toNat : Int) ≤ 122)) || ((c.toNat : Int) == 32)) else bif k == 3 then decide ((32 : Int) ≤ (c.toNat : Int)) && decide ((c.toNat : Int) ≤ 126) else true) := by
  have e : ∀ a b : Nat, decide ((a : Int) ≤ (b : Int)) = decide (a ≤ b) := fun a b => by rw [Bool.eq_iff_iff]; simp
  have e0 : ((c.toNat : Int) == 32) = decide (c.toNat = 32) := by rw [Bool.eq_iff_iff]; simp; omega
  have e1 := e 48 c.toNat; have e2 := e c.toNat 57; have e3 := e 65 c.toNat; have e4 := e c.toNat 90; have e5 := e 97 c.toNat; have e6 := e c.toNat 122; have e7 := e 32 c.toNat; have e8 := e c.toNat 126
  simp only [Int.cast_ofNat_Int] at e1 e2 e3 e4 e5 e6 e7 e8
  simp only [okC, okA, okN, okS, e0, e1, e2, e3, e4, e5, e6, e7, e8, Bool.or_assoc]
end Go.Proofs.YtkgnhjmbnmaboaaDoor
end
section
/- The Go function spec.Valid, as a Lean function, and that it is this one. Written by a program of this session. -/
set_option linter.unusedVariables false
set_option maxRecDepth 100000
namespace Go.Proofs.YtkgnhjmbnmaboaaDoor
open Go Go.Fw
abbrev spec_Valid.As : Shs := (.cons (.x (.i .i64)) (.cons (.x .s) .nil))
abbrev spec_Valid.m : Back := [(false, .b)]
noncomputable abbrev spec_Valid.H : HK := hk P G1 E0 J0 [spec_Of.row, spec_pure.row] noLoops 4
theorem spec_Valid.rows : TabOK P G1 (tabF [spec_Of.row, spec_pure.row]) := rows_ok (ws := [spec_Of.row, spec_pure.row]) ⟨spec_Of.row_ok, ⟨(spec_pure.row_ok.more g01), trivial⟩⟩
theorem spec_Valid.hok : HKOK P spec_Valid.H := hk_ok e0_ok j0_ok spec_Valid.rows (fun g n => noLoops_ok g n) 4
noncomputable def spec_Valid.f (a : (Int × ByteArray)) : Option Bool := (((spec_Of.f a.1)).bind fun (x2 : ((Int × (Int × Int)) × Int)) => (bif ((a.2.size : Int) == x2.1.2.2) then (bif (x2.2 == (0 : Int)) then (((spec_pure.f (x2.1, a.2))).bind fun (x3 : Bool) => (some x3)) else (some false)) else (bif (decide ((x2.1.2.1 > (0 : Int)))) then (bif (x2.2 == (0 : Int)) then (bif (decide (((a.2.size : Int) < x2.1.2.2))) then (((spec_pure.f (x2.1, a.2))).bind fun (x3 : Bool) => (some x3)) else (some false)) else (some false)) else (bif (x2.2 == (0 : Int)) then (some false) else (some false)))))
theorem spec_Valid.ok : ∀ a : Vals spec_Valid.As.tys, fnK P spec_Valid.H (lp []) 71 spec_Valid.As spec_Valid.m a some = spec_Valid.f a := fun a => by kernel_rfl
noncomputable abbrev spec_Valid.row : Row := fnRow 71 spec_Valid.As spec_Valid.m spec_Valid.f
theorem spec_Valid.row_ok : RowOK P G1 spec_Valid.row := row_told spec_Valid.hok (lp_of (l := []) trivial) (fun _ => rfl) spec_Valid.ok
end Go.Proofs.YtkgnhjmbnmaboaaDoor
end
section
/- Contracts of the library at this program, in plain words. Written by a tool of the kit.
-/
namespace Go.Proofs
open Go.Shelf
def Tryd.laysM171_ren : Go.Shelf.Ren := ⟨fun | 171 => 47 | 243 => 83 | 246 => 107 | 283 => 128 | 284 => 129 | 285 => 130 | 286 => 131 | 129 => 158 | 317 => 157 | 318 => 159 | 319 => 160 | 320 => 161 | 337 => 170 | 338 => 171 | n => n, fun | 3 => 3 | 9 => 9 | 2 => 2 | 4 => 4 | 171 => 179 | 0 => 0 | 53 => 134 | 37 => 126 | 5 => 5 | 173 => 182 | 212 => 209 | 51 => 197 | 20 => 20 | 213 => 210 | 46 => 142 | 232 => 238 | 233 => 239 | n => n, fun | 17 => 5 | 18 => 8 | 19 => 9 | n => n⟩
theorem Tryd.laysM171 : Go.Proofs.LaysM.n171 Tryd.prog Tryd.laysM171_ren := {
  mixed := by kernel_rfl
  f129 := Tryd.func158.trans (congrArg some (by kernel_rfl))
  f171 := Tryd.func47.trans (congrArg some (by kernel_rfl))
  f243 := Tryd.func83.trans (congrArg some (by kernel_rfl))
  f246 := Tryd.func107.trans (congrArg some (by kernel_rfl))
  f283 := Tryd.func128.trans (congrArg some (by kernel_rfl))
  f284 := Tryd.func129.trans (congrArg some (by kernel_rfl))
  f285 := Tryd.func130.trans (congrArg some (by kernel_rfl))
  f286 := Tryd.func131.trans (congrArg some (by kernel_rfl))
  f317 := Tryd.func157.trans (congrArg some (by kernel_rfl))
  f318 := Tryd.func159.trans (congrArg some (by kernel_rfl))
  f319 := Tryd.func160.trans (congrArg some (by kernel_rfl))
  f320 := Tryd.func161.trans (congrArg some (by kernel_rfl))
  f337 := Tryd.func170.trans (congrArg some (by kernel_rfl))
  f338 := Tryd.func171.trans (congrArg some (by kernel_rfl))
  t0 := Tryd.underlying0
  a0 := Tryd.isAgg0
  z0 := Tryd.sizeOf0
  v0 := Tryd.zeroValue0
  t2 := Tryd.underlying2
  a2 := Tryd.isAgg2
  z2 := Tryd.sizeOf2
  v2 := Tryd.zeroValue2
  t3 := Tryd.underlying3
  a3 := Tryd.isAgg3
  z3 := Tryd.sizeOf3
  v3 := Tryd.zeroValue3
  t4 := Tryd.underlying4
  a4 := Tryd.isAgg4
  z4 := Tryd.sizeOf4
  v4 := Tryd.zeroValue4
  t5 := Tryd.underlying5
  a5 := Tryd.isAgg5
  z5 := Tryd.sizeOf5
  v5 := Tryd.zeroValue5
  t9 := Tryd.underlying9
  a9 := Tryd.isAgg9
  z9 := Tryd.sizeOf9
  v9 := Tryd.zeroValue9
  t20 := Tryd.underlying20
  a20 := Tryd.isAgg20
  z20 := Tryd.sizeOf20
  v20 := Tryd.zeroValue20
  t37 := Tryd.underlying126
  a37 := Tryd.isAgg126
  z37 := Tryd.sizeOf126
  v37 := Tryd.zeroValue126
  t46 := Tryd.underlying142
  a46 := Tryd.isAgg142
  z46 := Tryd.sizeOf142
  v46 := Tryd.zeroValue142
  t51 := Tryd.underlying197
  a51 := Tryd.isAgg197
  z51 := Tryd.sizeOf197
  v51 := Tryd.zeroValue197
  t53 := Tryd.underlying134
  a53 := Tryd.isAgg134
  z53 := Tryd.sizeOf134
  v53 := Tryd.zeroValue134
  t171 := Tryd.underlying179
  a171 := Tryd.isAgg179
  z171 := Tryd.sizeOf179
  v171 := Tryd.zeroValue179
  t173 := Tryd.underlying182
  a173 := Tryd.isAgg182
  z173 := Tryd.sizeOf182
  v173 := Tryd.zeroValue182
  t212 := Tryd.underlying209
  a212 := Tryd.isAgg209
  z212 := Tryd.sizeOf209
  v212 := Tryd.zeroValue209
  t213 := Tryd.underlying210
  a213 := Tryd.isAgg210
  z213 := Tryd.sizeOf210
  t232 := Tryd.underlying238
  a232 := Tryd.isAgg238
  z232 := Tryd.sizeOf238
  v232 := Tryd.zeroValue238
  t233 := Tryd.underlying239
  a233 := Tryd.isAgg239
  z233 := Tryd.sizeOf239
  v233 := Tryd.zeroValue239
  g17 := by kernel_rfl
  g18 := by kernel_rfl
  g19 := by kernel_rfl
  i0 := by kernel_rfl
  i2 := by kernel_rfl
  i3 := by kernel_rfl
  i4 := by kernel_rfl
  i5 := by kernel_rfl
  i9 := by kernel_rfl
  i20 := by kernel_rfl
  i37 := by kernel_rfl
  i46 := by kernel_rfl
  i51 := by kernel_rfl
  i53 := by kernel_rfl
  i171 := by kernel_rfl
  i173 := by kernel_rfl
  i212 := by kernel_rfl
  i232 := by kernel_rfl
  i233 := by kernel_rfl
  m17 := by kernel_rfl
  m18 := by kernel_rfl
  m19 := by kernel_rfl }
end Go.Proofs
end
section
/- strconv.Itoa, as a row, by the library's contracts. By this session. -/
set_option linter.unusedVariables false
namespace Go.Proofs.YtkgnhjmbnmaboaaDoor
open Go Go.Fw Go.RowKit Go.Shelf
/-- a number's digits, with its sign -/
def itoaI (n : Int) : List UInt8 := bif decide (n < 0) then 45 :: decF 20 n.natAbs else decF 20 n.toNat
abbrev strconv_Itoa.As : Shs := .cons (.x (.i .i64)) .nil
abbrev strconv_Itoa.m : Back := [(false, .s)]
abbrev strconv_Itoa.f (a : Int) : Option ByteArray := bif decide (-9223372036854775808 ≤ a) && decide (a ≤ 9223372036854775807) then some (bs (itoaI a)) else none
noncomputable abbrev strconv_Itoa.row : Row := fnRow 47 strconv_Itoa.As strconv_Itoa.m strconv_Itoa.f
theorem itoaI_is {n : Int} (h0 : -9223372036854775808 ≤ n) (h1 : n ≤ 9223372036854775807) : itoaI n = Lib.itoa n := by
  unfold itoaI Lib.itoa
  rw [decF_is 19 _ (by omega)]
  by_cases h : n < 0
  · simp [h]
  · simp only [h, decide_false, cond_false, if_false]
    exact decF_is 19 _ (by omega)
theorem strconv_Itoa.row_ok : RowOK P G0 strconv_Itoa.row := by
  have key : ∀ (ds : List D) (a : Int) (q : ByteArray), decArgs strconv_Itoa.As ds = some a → strconv_Itoa.f a = some q → Fw.Enters P 47 ∧ PCall P G0 47 ds (.s q) := by
    intro ds a q ha hq
    refine ⟨ent_of Tryd.func47 (by kernel_rfl) (by kernel_rfl), ?_⟩
    have hds := (decArgs_argD ha).symm
    refine PCall.coe (ds' := argD strconv_Itoa.As a) ?_ (by rw [← hds]; exact coeA_len) fun w I f hf => by rw [← hds]; exact coeA_rel hf
    refine pcall_below fun w I K vs hg hsz hr => ?_
    have h0 := hr 0 (.i .i64 a) rfl
    have hvs : vs = #[.int .i64 a] := by
      have hs : vs.size = 1 := hsz
      rw [Array.getD_eq_getD_getElem?, Array.getElem?_eq_getElem (by omega)] at h0
      simp only [Option.getD_some] at h0
      refine Array.ext (by simpa using hs) fun i hi hi' => ?_
      match i, hi with
      | 0, _ => cases h : vs[0] <;> rw [h] at h0 <;> cases h0; rfl
      | i + 1, hi => omega
    subst hvs
    unfold strconv_Itoa.f at hq
    obtain ⟨hb, hq⟩ := cond_some hq
    simp only [Bool.and_eq_true, decide_eq_true_eq] at hb
    injection hq with hq
    subst hq
    refine (Any.strconv_Itoa Tryd.laysM171 a hb.1 hb.2 w (tab_of_glob hg (g := 5) (by kernel_rfl) rfl)).mono ?_
    rintro e w' ⟨rfl, k, os, rfl⟩
    refine ⟨_, rfl, grow_below w k os, ?_⟩
    rw [itoaI_is hb.1 hb.2]
    exact RelD.s _
  exact fun ds a q => key ds a q
end Go.Proofs.YtkgnhjmbnmaboaaDoor
end
section
/- The Go function spec.Pack, as a Lean function, and that it is this one. Written by a program of this session. -/
set_option linter.unusedVariables false
set_option maxRecDepth 100000
namespace Go.Proofs.YtkgnhjmbnmaboaaDoor
open Go Go.Fw
abbrev spec_Pack.As : Shs := (.cons (.x (.i .i64)) (.cons (.x .s) .nil))
abbrev spec_Pack.m : Back := [(false, .s), (false, (.i .i64))]
noncomputable abbrev spec_Pack.H : HK := hk P G1 E0 J0 [spec_Of.row, strconv_Itoa.row, spec_Valid.row] noLoops 4
theorem spec_Pack.rows : TabOK P G1 (tabF [spec_Of.row, strconv_Itoa.row, spec_Valid.row]) := rows_ok (ws := [spec_Of.row, strconv_Itoa.row, spec_Valid.row]) ⟨spec_Of.row_ok, ⟨(strconv_Itoa.row_ok.more g01), ⟨spec_Valid.row_ok, trivial⟩⟩⟩
theorem spec_Pack.hok : HKOK P spec_Pack.H := hk_ok e0_ok j0_ok spec_Pack.rows (fun g n => noLoops_ok g n) 4
noncomputable def spec_Pack.f (a : (Int × ByteArray)) : Option (ByteArray × Int) := (((spec_Of.f a.1)).bind fun (x2 : ((Int × (Int × Int)) × Int)) => (bif (x2.2 != (0 : Int)) then (some ((bs []), x2.2)) else (((spec_Valid.f a)).bind fun (x3 : Bool) => (bif (!x3) then (some ((bs []), (16 : Int))) else (((strconv_Itoa.f (IntKind.wrap .i64 ((1000 : Int) + (a.2.size : Int))))).bind fun (x4 : ByteArray) => (bif ((decide (((0 : Int) ≤ (IntKind.wrap .i64 ((4 : Int) - x2.1.2.1))))) && (decide (((IntKind.wrap .i64 ((4 : Int) - x2.1.2.1)) ≤ (x4.size : Int))))) then (bif (Nat.ble ((ByteArray.extract x4 (Int.toNat (IntKind.wrap .i64 ((4 : Int) - x2.1.2.1))) x4.size).size + a.2.size) 9223372036854775807) then (some (((ByteArray.extract x4 (Int.toNat (IntKind.wrap .i64 ((4 : Int) - x2.1.2.1))) x4.size) ++ a.2), (0 : Int))) else none) else none))))))
theorem spec_Pack.ok : ∀ a : Vals spec_Pack.As.tys, fnK P spec_Pack.H (lp []) 69 spec_Pack.As spec_Pack.m a some = spec_Pack.f a := fun a => by kernel_rfl
noncomputable abbrev spec_Pack.row : Row := fnRow 69 spec_Pack.As spec_Pack.m spec_Pack.f
theorem spec_Pack.row_ok : RowOK P G1 spec_Pack.row := row_told spec_Pack.hok (lp_of (l := []) trivial) (fun _ => rfl) spec_Pack.ok
end Go.Proofs.YtkgnhjmbnmaboaaDoor
end
section
/- The Go function spec.Take, as a Lean function, and that it is this one. Written by a program of this session. -/
set_option linter.unusedVariables false
set_option maxRecDepth 100000
namespace Go.Proofs.YtkgnhjmbnmaboaaDoor
open Go Go.Fw
abbrev spec_Take.As : Shs := (.cons (.x (.i .i64)) (.cons (.x .s) .nil))
abbrev spec_Take.m : Back := [(false, .s), (false, (.i .i64)), (false, (.i .i64))]
noncomputable abbrev spec_Take.H : HK := hk P G1 E0 J0 [spec_Of.row, strconv_Atoi.row, spec_pure.row] noLoops 4
theorem spec_Take.rows : TabOK P G1 (tabF [spec_Of.row, strconv_Atoi.row, spec_pure.row]) := rows_ok (ws := [spec_Of.row, strconv_Atoi.row, spec_pure.row]) ⟨spec_Of.row_ok, ⟨strconv_Atoi.row_ok, ⟨(spec_pure.row_ok.more g01), trivial⟩⟩⟩
theorem spec_Take.hok : HKOK P spec_Take.H := hk_ok e0_ok j0_ok spec_Take.rows (fun g n => noLoops_ok g n) 4
noncomputable def spec_Take.f (a : (Int × ByteArray)) : Option (ByteArray × (Int × Int)) := (((spec_Of.f a.1)).bind fun (x2 : ((Int × (Int × Int)) × Int)) => (bif (x2.2 != (0 : Int)) then (some ((bs []), ((0 : Int), x2.2))) else (bif (decide (((a.2.size : Int) < x2.1.2.1))) then (some ((bs []), ((0 : Int), (3 : Int)))) else (bif (decide ((x2.1.2.1 > (0 : Int)))) then (bif ((decide (((0 : Int) ≤ x2.1.2.1))) && (decide ((x2.1.2.1 ≤ (a.2.size : Int))))) then (((spec_pure.f (((1 : Int), ((0 : Int), (0 : Int))), (ByteArray.extract a.2 0 (Int.toNat x2.1.2.1))))).bind fun (x3 : Bool) => (bif (!x3) then (some ((bs []), ((0 : Int), (16 : Int)))) else (((strconv_Atoi.f (ByteArray.extract a.2 0 (Int.toNat x2.1.2.1)))).bind fun (x4 : (Int × Bool)) => (bif (decide ((x4.1 > x2.1.2.2))) then (some ((bs []), ((0 : Int), (16 : Int)))) else (bif (decide (((a.2.size : Int) < (IntKind.wrap .i64 (x2.1.2.1 + x4.1))))) then (some ((bs []), ((0 : Int), (3 : Int)))) else (bif ((decide (((0 : Int) ≤ (IntKind.wrap .i64 (x2.1.2.1 + x4.1))))) && (decide (((IntKind.wrap .i64 (x2.1.2.1 + x4.1)) ≤ (a.2.size : Int))))) then (bif ((decide (((0 : Int) ≤ x2.1.2.1))) && (decide ((x2.1.2.1 ≤ ((Int.toNat (IntKind.wrap .i64 (x2.1.2.1 + x4.1))) : Int))))) then (((spec_pure.f (x2.1, (ByteArray.extract a.2 (Int.toNat x2.1.2.1) (Int.toNat (IntKind.wrap .i64 (x2.1.2.1 + x4.1))))))).bind fun (x5 : Bool) => (bif (!x5) then (some ((bs []), ((0 : Int), (16 : Int)))) else (bif ((decide (((0 : Int) ≤ (IntKind.wrap .i64 (x2.1.2.1 + x4.1))))) && (decide (((IntKind.wrap .i64 (x2.1.2.1 + x4.1)) ≤ (a.2.size : Int))))) then (bif ((decide (((0 : Int) ≤ x2.1.2.1))) && (decide ((x2.1.2.1 ≤ ((Int.toNat (IntKind.wrap .i64 (x2.1.2.1 + x4.1))) : Int))))) then (some ((ByteArray.extract a.2 (Int.toNat x2.1.2.1) (Int.toNat (IntKind.wrap .i64 (x2.1.2.1 + x4.1)))), ((IntKind.wrap .i64 (x2.1.2.1 + x4.1)), (0 : Int)))) else none) else none))) else none) else none)))))) else none) else (bif (decide (((a.2.size : Int) < (IntKind.wrap .i64 (x2.1.2.1 + x2.1.2.2))))) then (some ((bs []), ((0 : Int), (3 : Int)))) else (bif ((decide (((0 : Int) ≤ (IntKind.wrap .i64 (x2.1.2.1 + x2.1.2.2))))) && (decide (((IntKind.wrap .i64 (x2.1.2.1 + x2.1.2.2)) ≤ (a.2.size : Int))))) then (bif ((decide (((0 : Int) ≤ x2.1.2.1))) && (decide ((x2.1.2.1 ≤ ((Int.toNat (IntKind.wrap .i64 (x2.1.2.1 + x2.1.2.2))) : Int))))) then (((spec_pure.f (x2.1, (ByteArray.extract a.2 (Int.toNat x2.1.2.1) (Int.toNat (IntKind.wrap .i64 (x2.1.2.1 + x2.1.2.2))))))).bind fun (x3 : Bool) => (bif (!x3) then (some ((bs []), ((0 : Int), (16 : Int)))) else (bif ((decide (((0 : Int) ≤ (IntKind.wrap .i64 (x2.1.2.1 + x2.1.2.2))))) && (decide (((IntKind.wrap .i64 (x2.1.2.1 + x2.1.2.2)) ≤ (a.2.size : Int))))) then (bif ((decide (((0 : Int) ≤ x2.1.2.1))) && (decide ((x2.1.2.1 ≤ ((Int.toNat (IntKind.wrap .i64 (x2.1.2.1 + x2.1.2.2))) : Int))))) then (some ((ByteArray.extract a.2 (Int.toNat x2.1.2.1) (Int.toNat (IntKind.wrap .i64 (x2.1.2.1 + x2.1.2.2)))), ((IntKind.wrap .i64 (x2.1.2.1 + x2.1.2.2)), (0 : Int)))) else none) else none))) else none) else none))))))
theorem spec_Take.ok : ∀ a : Vals spec_Take.As.tys, fnK P spec_Take.H (lp []) 70 spec_Take.As spec_Take.m a some = spec_Take.f a := fun a => by kernel_rfl
noncomputable abbrev spec_Take.row : Row := fnRow 70 spec_Take.As spec_Take.m spec_Take.f
theorem spec_Take.row_ok : RowOK P G1 spec_Take.row := row_told spec_Take.hok (lp_of (l := []) trivial) (fun _ => rfl) spec_Take.ok
end Go.Proofs.YtkgnhjmbnmaboaaDoor
end
section
/- Fields as they stand in a message: plain laws of packing and taking. By this session. -/
set_option linter.unusedVariables false
set_option linter.unusedSimpArgs false
namespace Go.Proofs.YtkgnhjmbnmaboaaDoor
open Go Go.Fw
/-- may a field be a text? -/
def mayF (k v l : Int) (s : List UInt8) : Bool := !decide (k = 0) && (decide ((s.length : Int) ≤ l) && (!(decide (v = 0) && decide ((s.length : Int) < l)) && s.all (okC k)))
theorem okSpec_is {k v l : Int} (h : okSpec k v l = true) : (k = 0 ∧ v = 0 ∧ l = 0) ∨ (1 ≤ k ∧ k ≤ 4 ∧ (v = 0 ∨ (v = 2 ∧ l ≤ 99) ∨ v = 3) ∧ 1 ≤ l ∧ l ≤ 999) := by
  simp only [okSpec, Bool.or_eq_true, Bool.and_eq_true, decide_eq_true_eq] at h
  omega
theorem valid_is {n k v l : Int} {s : List UInt8} (hO : spec_Of.f n = some ((k, v, l), bif decide (k = 0) then 7 else 0)) (hk : okSpec k v l = true) (hs : s.length ≤ 5000) : spec_Valid.f (n, bs s) = some (mayF k v l s) := by
  unfold spec_Valid.f
  simp only [hO, Option.bind_some, bs_size]
  rcases okSpec_is hk with ⟨rfl, rfl, rfl⟩ | ⟨h1, h2, h3, h4, h5⟩
  · cases h : ((s.length : Int) == 0) <;> simp [mayF, h]
  · have hp := pure_is (k := k) (v := v) (l := l) (s := bs s) ⟨h1, h2⟩ (by rw [bs_size]; omega)
    rw [bs_list] at hp
    have e' : decide (k = 0) = false := decide_eq_false (by omega)
    simp only [hp, Option.bind_some, mayF, e', Bool.not_false, Bool.true_and, cond_false, show ((0 : Int) == 0) = true from rfl, cond_true]
    by_cases he : (s.length : Int) = l
    · simp [he]
    · have hb : ((s.length : Int) == l) = false := by simpa using he
      simp only [hb, cond_false]
      by_cases hv : v > 0
      · have hv0 : ¬ v = 0 := by omega
        by_cases hlt : (s.length : Int) < l
        · have : (s.length : Int) ≤ l := by omega
          simp [hv, hlt, this, hv0]
        · have : ¬ (s.length : Int) ≤ l := by omega
          simp [hv, hlt, this]
      · have hv0 : v = 0 := by omega
        subst hv0
        by_cases hlt : (s.length : Int) < l
        · simp [hlt]
        · have : ¬ (s.length : Int) ≤ l := by omega
          simp [this]
/-! ### digits -/
def digs (v : Int) (n : Nat) : List UInt8 := bif decide (v = 2) then [dgt (n / 10 % 10), dgt (n % 10)] else bif decide (v = 3) then [dgt (n / 100 % 10), dgt (n / 10 % 10), dgt (n % 10)] else []
theorem digs_len {v : Int} (hv : v = 0 ∨ v = 2 ∨ v = 3) (n : Nat) : ((digs v n).length : Int) = v := by rcases hv with rfl | rfl | rfl <;> rfl
theorem itoa_all : (List.range 1000).all (fun n => decide (itoaI ((1000 : Int) + (n : Int)) = [dgt 1, dgt (n / 100 % 10), dgt (n / 10 % 10), dgt (n % 10)])) = true := by kernel_rfl
theorem itoa_is {n : Nat} (h : n ≤ 999) : itoaI ((1000 : Int) + (n : Int)) = [dgt 1, dgt (n / 100 % 10), dgt (n / 10 % 10), dgt (n % 10)] := of_decide_eq_true (List.all_eq_true.1 itoa_all n (List.mem_range.2 (by omega)))
/-! ### packing -/
theorem mayF_len {k v l : Int} {s : List UInt8} (hk : okSpec k v l = true) (h : mayF k v l s = true) : 1 ≤ k ∧ k ≤ 4 ∧ (v = 0 ∨ v = 2 ∨ v = 3) ∧ (s.length : Int) ≤ l ∧ s.length ≤ 999 ∧ (v = 2 → s.length ≤ 99) ∧ (v = 0 → (s.length : Int) = l) ∧ s.all (okC k) = true := by
  simp only [mayF, Bool.and_eq_true, Bool.not_eq_true', decide_eq_false_iff_not, Bool.and_eq_false_iff, decide_eq_true_eq] at h
  obtain ⟨h0, h1, h2, h3⟩ := h
  rcases okSpec_is hk with ⟨rfl, _⟩ | ⟨g1, g2, g3, g4, g5⟩
  · exact absurd rfl h0
  · refine ⟨g1, g2, by omega, h1, by omega, by omega, fun hv => ?_, h3⟩
    rcases h2 with h2 | h2
    · exact absurd hv h2
    · omega
theorem pack_is {n k v l : Int} {s : List UInt8} (hO : spec_Of.f n = some ((k, v, l), bif decide (k = 0) then 7 else 0)) (hk : okSpec k v l = true) (hs : s.length ≤ 5000) :
    spec_Pack.f (n, bs s) = some (bif decide (k = 0) then (bs [], 7) else bif mayF k v l s then (bs (digs v s.length ++ s), 0) else (bs [], 16)) := by
  unfold spec_Pack.f
  simp only [hO, Option.bind_some, valid_is hO hk hs]
  by_cases h0 : k = 0
  · subst h0; rfl
  · simp only [decide_eq_false h0, cond_false, show ((0 : Int) != 0) = false from rfl]
    cases hm : mayF k v l s
    · rfl
    · obtain ⟨_, _, h3, _, h5, _⟩ := mayF_len hk hm
      have w : IntKind.wrap .i64 ((1000 : Int) + (s.length : Int)) = (1000 : Int) + (s.length : Int) := wrap_i64 (by omega) (by omega)
      have w2 : IntKind.wrap .i64 ((4 : Int) - v) = 4 - v := wrap_i64 (by omega) (by omega)
      have it : strconv_Itoa.f ((1000 : Int) + (s.length : Int)) = some (bs [dgt 1, dgt (s.length / 100 % 10), dgt (s.length / 10 % 10), dgt (s.length % 10)]) := by
        unfold strconv_Itoa.f
        rw [decide_eq_true (by omega), decide_eq_true (by omega), itoa_is h5]
        rfl
      have le0 : decide ((0 : Int) ≤ 4 - v) = true := decide_eq_true (by omega)
      have le1 : decide (4 - v ≤ (([dgt 1, dgt (s.length / 100 % 10), dgt (s.length / 10 % 10), dgt (s.length % 10)] : List UInt8).length : Int)) = true := decide_eq_true (by simp only [List.length_cons, List.length_nil]; omega)
      simp only [Bool.not_true, cond_false, cond_true, bs_size, w, w2, it, Option.bind_some, le0, le1, Bool.and_self, bs_extract, bs_append]
      have cut : (([dgt 1, dgt (s.length / 100 % 10), dgt (s.length / 10 % 10), dgt (s.length % 10)] : List UInt8).take ([dgt 1, dgt (s.length / 100 % 10), dgt (s.length / 10 % 10), dgt (s.length % 10)] : List UInt8).length).drop (4 - v).toNat = digs v s.length := by
        rcases h3 with rfl | rfl | rfl <;> rfl
      have := digs_len h3 s.length
      rw [cut, Nat.ble_eq_true_of_le (by omega)]
      rfl
/-! ### taking -/
def valD (l : List UInt8) : Nat := l.foldl (fun a c => 10 * a + (c.toNat - 48)) 0
theorem okN_dgt {c : UInt8} (h : okN c = true) : c.toNat - 48 < 10 ∧ c = dgt (c.toNat - 48) := by
  simp only [okN, Bool.and_eq_true, decide_eq_true_eq] at h
  refine ⟨by omega, ?_⟩
  apply UInt8.toNat_inj.1
  rw [dgt_nat (by omega)]
  omega
theorem atoi2 : (List.range 100).all (fun n => decide (atoiU [dgt (n / 10), dgt (n % 10)] = ((n : Int), false))) = true := by kernel_rfl
theorem atoi3 : (List.range 1000).all (fun n => decide (atoiU [dgt (n / 100), dgt (n / 10 % 10), dgt (n % 10)] = ((n : Int), false))) = true := by kernel_rfl
theorem atoi_is {l : List UInt8} (h : l.all okN = true) (hl : l.length = 2 ∨ l.length = 3) : strconv_Atoi.f (bs l) = some ((valD l : Int), false) := by
  have hsz : decide ((bs l).size ≤ 281474976710656) = true := decide_eq_true (by rw [bs_size]; omega)
  unfold strconv_Atoi.f
  rw [hsz, cond_true, bs_list]
  congr 1
  rcases hl with hl | hl
  · match l, hl with
    | [a, b], _ =>
      simp only [List.all_cons, List.all_nil, Bool.and_true, Bool.and_eq_true] at h
      obtain ⟨a1, a2⟩ := okN_dgt h.1
      obtain ⟨b1, b2⟩ := okN_dgt h.2
      obtain ⟨x, hx⟩ : ∃ x, a.toNat - 48 = x := ⟨_, rfl⟩
      obtain ⟨y, hy⟩ : ∃ x, b.toNat - 48 = x := ⟨_, rfl⟩
      rw [hx] at a1 a2
      rw [hy] at b1 b2
      have := of_decide_eq_true (List.all_eq_true.1 atoi2 (10 * x + y) (List.mem_range.2 (by omega)))
      rw [show (10 * x + y) / 10 = x by omega, show (10 * x + y) % 10 = y by omega] at this
      have hv : valD [a, b] = 10 * x + y := by simp only [valD, List.foldl_cons, List.foldl_nil, hx, hy]; omega
      rw [hv, ← this, ← a2, ← b2]
  · match l, hl with
    | [a, b, c], _ =>
      simp only [List.all_cons, List.all_nil, Bool.and_true, Bool.and_eq_true] at h
      obtain ⟨a1, a2⟩ := okN_dgt h.1
      obtain ⟨b1, b2⟩ := okN_dgt h.2.1
      obtain ⟨c1, c2⟩ := okN_dgt h.2.2
      obtain ⟨x, hx⟩ : ∃ x, a.toNat - 48 = x := ⟨_, rfl⟩
      obtain ⟨y, hy⟩ : ∃ x, b.toNat - 48 = x := ⟨_, rfl⟩
      obtain ⟨z, hz⟩ : ∃ x, c.toNat - 48 = x := ⟨_, rfl⟩
      rw [hx] at a1 a2
      rw [hy] at b1 b2
      rw [hz] at c1 c2
      have := of_decide_eq_true (List.all_eq_true.1 atoi3 (100 * x + 10 * y + z) (List.mem_range.2 (by omega)))
      rw [show (100 * x + 10 * y + z) / 100 = x by omega, show (100 * x + 10 * y + z) / 10 % 10 = y by omega, show (100 * x + 10 * y + z) % 10 = z by omega] at this
      have hv : valD [a, b, c] = 100 * x + 10 * y + z := by simp only [valD, List.foldl_cons, List.foldl_nil, hx, hy, hz]; omega
      rw [hv, ← this, ← a2, ← b2, ← c2]
theorem valD_le {l : List UInt8} (h : l.all okN = true) (hl : l.length = 2 ∨ l.length = 3) : valD l ≤ 999 := by
  rcases hl with hl | hl
  · match l, hl with
    | [a, b], _ =>
      simp only [List.all_cons, List.all_nil, Bool.and_true, Bool.and_eq_true] at h
      have := okN_dgt h.1
      have := okN_dgt h.2
      simp only [valD, List.foldl_cons, List.foldl_nil]; omega
  · match l, hl with
    | [a, b, c], _ =>
      simp only [List.all_cons, List.all_nil, Bool.and_true, Bool.and_eq_true] at h
      have := okN_dgt h.1
      have := okN_dgt h.2.1
      have := okN_dgt h.2.2
      simp only [valD, List.foldl_cons, List.foldl_nil]; omega
/-- behind the digits: so many octets -/
def bodyF (k : Int) (v m : Nat) (s : List UInt8) : List UInt8 × Int × Int := bif decide (s.length < v + m) then ([], 0, 3) else bif ((s.drop v).take m).all (okC k) then ((s.drop v).take m, ((v + m : Nat) : Int), 0) else ([], 0, 16)
def takeF (k : Int) (v l : Nat) (s : List UInt8) : List UInt8 × Int × Int :=
  bif decide (s.length < v) then ([], 0, 3) else bif decide (v = 0) then bodyF k 0 l s else bif (s.take v).all okN then (bif decide (l < valD (s.take v)) then ([], 0, 16) else bodyF k v (valD (s.take v)) s) else ([], 0, 16)
abbrev inB2 (x : List UInt8 × Int × Int) : ByteArray × Int × Int := (bs x.1, x.2)
theorem all_okC1 (l : List UInt8) : l.all (okC 1) = l.all okN := rfl
theorem take16_is {n k v l : Int} {s : List UInt8} (hO : spec_Of.f n = some ((k, v, l), bif decide (k = 0) then 7 else 0)) (hk : okSpec k v l = true) (hs : s.length ≤ 5000) :
    spec_Take.f (n, bs s) = some (bif decide (k = 0) then (bs [], 0, 7) else inB2 (takeF k v.toNat l.toNat s)) := by
  unfold spec_Take.f
  simp only [hO, Option.bind_some]
  rcases okSpec_is hk with ⟨rfl, rfl, rfl⟩ | ⟨h1, h2, h3, h4, h5⟩
  · rfl
  have e' : decide (k = 0) = false := decide_eq_false (by omega)
  obtain ⟨v', rfl⟩ : ∃ v' : Nat, v = v' := ⟨v.toNat, by omega⟩
  obtain ⟨l', rfl⟩ : ∃ l' : Nat, l = l' := ⟨l.toNat, by omega⟩
  have cut : ∀ (m : Nat), v' ≤ 3 → m ≤ 999 → v' + m ≤ s.length → spec_pure.f ((k, (v' : Int), (l' : Int)), bs ((s.drop v').take m)) = some (((s.drop v').take m).all (okC k)) := fun m hv hm hle => by
    rw [pure_is ⟨h1, h2⟩ (by rw [bs_size]; simp; omega), bs_list]
  have cut' : ∀ m : Nat, (s.take (v' + m)).drop v' = (s.drop v').take m := fun m => by rw [List.drop_take]; congr 1; omega
  simp only [e', cond_false, show ((0 : Int) != 0) = false from rfl, bs_size, Int.toNat_natCast]
  unfold takeF
  by_cases hsv : s.length < v'
  · rw [decide_eq_true (show (s.length : Int) < (v' : Int) by omega), decide_eq_true hsv]; rfl
  rw [decide_eq_false (show ¬ (s.length : Int) < (v' : Int) by omega), decide_eq_false hsv]
  simp only [cond_false]
  by_cases hv0 : v' = 0
  · subst hv0
    rw [decide_eq_false (show ¬ ((0 : Nat) : Int) > 0 by omega), decide_eq_true rfl]
    have w : IntKind.wrap .i64 (((0 : Nat) : Int) + (l' : Int)) = ((0 + l' : Nat) : Int) := by rw [wrap_i64 (by omega) (by omega)]; omega
    simp only [cond_false, cond_true, w, Int.toNat_natCast, bs_extract]
    unfold bodyF
    by_cases hl : s.length < 0 + l'
    · rw [decide_eq_true (show (s.length : Int) < ((0 + l' : Nat) : Int) by omega), decide_eq_true hl]; rfl
    · rw [decide_eq_false (show ¬ (s.length : Int) < ((0 + l' : Nat) : Int) by omega), decide_eq_false hl, decide_eq_true (show (0 : Int) ≤ ((0 + l' : Nat) : Int) by omega), decide_eq_true (show ((0 + l' : Nat) : Int) ≤ (s.length : Int) by omega), decide_eq_true (show (0 : Int) ≤ ((0 : Nat) : Int) by omega), decide_eq_true (show ((0 : Nat) : Int) ≤ ((0 + l' : Nat) : Int) by omega)]
      simp only [cond_false, cond_true, Bool.and_self, cut l' (by omega) (by omega) (by omega), Option.bind_some, cut']
      cases ((s.drop 0).take l').all (okC k) <;> rfl
  · have hv : v' = 2 ∨ v' = 3 := by omega
    have hlen : (s.take v').length = v' := by rw [List.length_take]; omega
    have head : spec_pure.f ((1, 0, 0), bs (s.take v')) = some ((s.take v').all okN) := by rw [pure_is ⟨by omega, by omega⟩ (by rw [bs_size]; omega), bs_list, all_okC1]
    rw [decide_eq_true (show (v' : Int) > 0 by omega), decide_eq_false hv0, decide_eq_true (show (0 : Int) ≤ (v' : Int) by omega), decide_eq_true (show (v' : Int) ≤ (s.length : Int) by omega)]
    simp only [cond_true, cond_false, Bool.and_self, bs_extract, List.drop_zero, head, Option.bind_some]
    cases hd : (s.take v').all okN
    · rfl
    · have at' := atoi_is hd (by omega)
      have hm := valD_le hd (by omega)
      obtain ⟨m, hm'⟩ : ∃ m, valD (s.take v') = m := ⟨_, rfl⟩
      rw [hm'] at at' hm
      simp only [Bool.not_true, cond_false, cond_true, at', Option.bind_some, hm']
      have w : IntKind.wrap .i64 ((v' : Int) + (m : Int)) = ((v' + m : Nat) : Int) := by rw [wrap_i64 (by omega) (by omega)]; omega
      simp only [w, Int.toNat_natCast]
      by_cases hml : l' < m
      · rw [decide_eq_true (show (m : Int) > (l' : Int) by omega), decide_eq_true hml]; rfl
      rw [decide_eq_false (show ¬ (m : Int) > (l' : Int) by omega), decide_eq_false hml]
      unfold bodyF
      by_cases hl : s.length < v' + m
      · rw [decide_eq_true (show (s.length : Int) < ((v' + m : Nat) : Int) by omega), decide_eq_true hl]; rfl
      · rw [decide_eq_false (show ¬ (s.length : Int) < ((v' + m : Nat) : Int) by omega), decide_eq_false hl, decide_eq_true (show (0 : Int) ≤ ((v' + m : Nat) : Int) by omega), decide_eq_true (show ((v' + m : Nat) : Int) ≤ (s.length : Int) by omega), decide_eq_true (show ((v' : Nat) : Int) ≤ ((v' + m : Nat) : Int) by omega)]
        simp only [cond_false, cond_true, Bool.and_self, cut m (by omega) (by omega) (by omega), Option.bind_some, cut']
        cases ((s.drop v').take m).all (okC k) <;> rfl
end Go.Proofs.YtkgnhjmbnmaboaaDoor
end
section
/- Fields are packed and taken as the document says: plain laws. By this session. -/
set_option linter.unusedVariables false
set_option linter.unusedSimpArgs false
namespace Go.Proofs.YtkgnhjmbnmaboaaDoor
open Go Go.Fw
theorem digs_okN {v : Int} {n : Nat} : (digs v n).all okN = true := by
  unfold digs
  have h : ∀ x, okN (dgt (x % 10)) = true := fun x => by
    have := dgt_nat (n := x % 10) (by omega)
    simp only [okN, this, Bool.and_eq_true, decide_eq_true_eq]; omega
  by_cases h2 : v = 2
  · rw [decide_eq_true h2]; simp only [cond_true, List.all_cons, List.all_nil, h, Bool.and_self]
  · by_cases h3 : v = 3
    · rw [decide_eq_false h2, decide_eq_true h3]; simp only [cond_true, cond_false, List.all_cons, List.all_nil, h, Bool.and_self]
    · rw [decide_eq_false h2, decide_eq_false h3]; rfl
theorem digs_val {v : Int} {n : Nat} (h : (v = 2 ∧ n ≤ 99) ∨ (v = 3 ∧ n ≤ 999)) : valD (digs v n) = n := by
  have h' : ∀ x, (dgt (x % 10)).toNat - 48 = x % 10 := fun x => by
    have := dgt_nat (n := x % 10) (by omega); omega
  rcases h with ⟨rfl, h⟩ | ⟨rfl, h⟩
  · show valD [dgt (n / 10 % 10), dgt (n % 10)] = n
    simp only [valD, List.foldl_cons, List.foldl_nil, h']; omega
  · show valD [dgt (n / 100 % 10), dgt (n / 10 % 10), dgt (n % 10)] = n
    simp only [valD, List.foldl_cons, List.foldl_nil, h']; omega
/-- what is packed is taken as it was -/
theorem takeF_digs {k v l : Int} {s b : List UInt8} (hk : okSpec k v l = true) (hm : mayF k v l s = true) : takeF k v.toNat l.toNat (digs v s.length ++ s ++ b) = (s, ((digs v s.length ++ s).length : Int), 0) := by
  obtain ⟨h1, h2, h3, h4, h5, h6, h7, h8⟩ := mayF_len hk hm
  have hl := digs_len h3 s.length
  obtain ⟨v', rfl⟩ : ∃ v' : Nat, v = v' := ⟨v.toNat, by omega⟩
  obtain ⟨l', rfl⟩ : ∃ l' : Nat, l = l' := ⟨l.toNat, by
    rcases okSpec_is hk with ⟨_, _, rfl⟩ | ⟨_, _, _, h, _⟩ <;> omega⟩
  have hl' : (digs (v' : Int) s.length).length = v' := by omega
  have tk : (digs (v' : Int) s.length ++ s ++ b).take v' = digs (v' : Int) s.length := by rw [List.append_assoc, List.take_append_of_le_length (by omega), List.take_of_length_le (by omega)]
  have dr : (digs (v' : Int) s.length ++ s ++ b).drop v' = s ++ b := by
    rw [List.append_assoc, List.drop_append_of_le_length (by omega), List.drop_of_length_le (by omega), List.nil_append]
  have body : bodyF k v' s.length (digs (v' : Int) s.length ++ s ++ b) = (s, ((digs (v' : Int) s.length ++ s).length : Int), 0) := by
    unfold bodyF
    rw [decide_eq_false (by simp only [List.length_append]; omega), cond_false, dr, List.take_left, h8, cond_true]
    simp only [List.length_append, hl']
  unfold takeF
  simp only [Int.toNat_natCast]
  rw [decide_eq_false (by simp only [List.length_append]; omega), cond_false]
  simp only [tk, digs_okN, cond_true]
  by_cases hv : v' = 0
  · subst hv
    rw [decide_eq_true rfl, cond_true]
    have : s.length = l' := by have := h7 rfl; omega
    rw [← this]
    exact body
  · have hd : valD (digs (v' : Int) s.length) = s.length := digs_val (by omega)
    simp only [decide_eq_false hv, cond_false, hd, decide_eq_false (show ¬ l' < s.length by omega)]
    exact body
end Go.Proofs.YtkgnhjmbnmaboaaDoor
end
section
/- The Go function bitmap.bit, as a Lean function, and that it is this one. Written by a program of this session. -/
set_option linter.unusedVariables false
set_option maxRecDepth 100000
namespace Go.Proofs.YtkgnhjmbnmaboaaDoor
open Go Go.Fw
abbrev bitmap_bit.As : Shs := (.cons (.x (.i .i64)) .nil)
abbrev bitmap_bit.m : Back := [(false, (.i .i64)), (false, (.i .u8))]
noncomputable abbrev bitmap_bit.H : HK := hk P G0 E0 J0 [] noLoops 4
theorem bitmap_bit.rows : TabOK P G0 (tabF []) := rows_ok (ws := []) trivial
theorem bitmap_bit.hok : HKOK P bitmap_bit.H := hk_ok e0_ok j0_ok bitmap_bit.rows (fun g n => noLoops_ok g n) 4
noncomputable def bitmap_bit.f (a : Int) : Option (Int × Int) := (bif (decide (((Int.tmod (IntKind.wrap .i64 (a - (1 : Int))) (8 : Int)) < (0 : Int)))) then none else (some ((IntKind.wrap .i64 (Int.tdiv (IntKind.wrap .i64 (a - (1 : Int))) (8 : Int))), (Int.fdiv (128 : Int) ((2 : Int) ^ (Min.min (Int.toNat (Int.tmod (IntKind.wrap .i64 (a - (1 : Int))) (8 : Int))) 8))))))
theorem bitmap_bit.ok : ∀ a : Vals bitmap_bit.As.tys, fnK P bitmap_bit.H (lp []) 77 bitmap_bit.As bitmap_bit.m a some = bitmap_bit.f a := fun a => by kernel_rfl
noncomputable abbrev bitmap_bit.row : Row := fnRow 77 bitmap_bit.As bitmap_bit.m bitmap_bit.f
theorem bitmap_bit.row_ok : RowOK P G0 bitmap_bit.row := row_told bitmap_bit.hok (lp_of (l := []) trivial) (fun _ => rfl) bitmap_bit.ok
end Go.Proofs.YtkgnhjmbnmaboaaDoor
end
section
/- The Go function bitmap.may, as a Lean function, and that it is this one. Written by a program of this session. -/
set_option linter.unusedVariables false
set_option maxRecDepth 100000
namespace Go.Proofs.YtkgnhjmbnmaboaaDoor
open Go Go.Fw
abbrev bitmap_may.As : Shs := (.cons (.x (.l (.i .i64))) .nil)
abbrev bitmap_may.m : Back := [(false, .b)]
noncomputable abbrev bitmap_may.H : HK := hk P G1 E0 J0 [spec_Of.row] noLoops 4
theorem bitmap_may.rows : TabOK P G1 (tabF [spec_Of.row]) := rows_ok (ws := [spec_Of.row]) ⟨spec_Of.row_ok, trivial⟩
theorem bitmap_may.hok : HKOK P bitmap_may.H := hk_ok e0_ok j0_ok bitmap_may.rows (fun g n => noLoops_ok g n) 4
noncomputable abbrev bitmap_may.sh3 : SSh := ⟨[(0, (.x (.l (.i .i64)))), (7, (.x (.l (.i .i64)))), (8, (.x (.i .i64))), (9, (.x (.i .i64)))], []⟩
noncomputable abbrev bitmap_may.os3 : PEnds := [(.ret, ⟨[(2, (.x .b))], []⟩), ((.exit 0), ⟨[], []⟩)]
noncomputable def bitmap_may.t3 (s : ((List Int) × ((List Int) × (Int × Int)))) : Option (((List Int) × ((List Int) × (Int × Int))) ⊕ (Bool ⊕ Unit)) := (bif (decide ((s.2.2.2 < s.2.2.1))) then (bif ((decide (((0 : Int) ≤ s.2.2.2))) && (decide ((s.2.2.2 < ((List.length s.2.1) : Int))))) then (((spec_Of.f (List.getD s.2.1 (Int.toNat s.2.2.2) (0 : Int)))).bind fun (x4 : ((Int × (Int × Int)) × Int)) => (bif (x4.2 != (0 : Int)) then (some (.inr (.inl false))) else (bif (decide ((s.2.2.2 > (0 : Int)))) then (bif ((decide (((0 : Int) ≤ (IntKind.wrap .i64 (s.2.2.2 - (1 : Int)))))) && (decide (((IntKind.wrap .i64 (s.2.2.2 - (1 : Int))) < ((List.length s.1) : Int))))) then (bif (decide (((List.getD s.1 (Int.toNat (IntKind.wrap .i64 (s.2.2.2 - (1 : Int)))) (0 : Int)) ≥ (List.getD s.2.1 (Int.toNat s.2.2.2) (0 : Int))))) then (some (.inr (.inl false))) else (some (.inl (s.1, (s.2.1, (s.2.2.1, (IntKind.wrap .i64 (s.2.2.2 + (1 : Int))))))))) else none) else (some (.inl (s.1, (s.2.1, (s.2.2.1, (IntKind.wrap .i64 (s.2.2.2 + (1 : Int))))))))))) else none) else (some (.inr (.inr ()))))
theorem bitmap_may.t3_ok : ∀ s : Vals bitmap_may.sh3.tys, turnK P bitmap_may.H (lp []) (bodyAt (codeOf P 76) 3) 0 bitmap_may.sh3 bitmap_may.os3 s some = bitmap_may.t3 s := fun s => by kernel_rfl
noncomputable def bitmap_may.l3 : ((List Int) × ((List Int) × (Int × Int))) → Option (Bool ⊕ Unit) := rounds bitmap_may.t3
noncomputable def bitmap_may.f (a : (List Int)) : Option Bool := (((bitmap_may.l3 (a, (a, (((List.length a) : Int), (0 : Int)))))).bind fun (x1 : (Bool ⊕ PUnit)) => (match x1 with | .inl x2 => (some x2) | .inr x2 => (some true)))
theorem bitmap_may.ok : ∀ a : Vals bitmap_may.As.tys, fnK P bitmap_may.H (lp [(3, (NodeT.summ ⟨bitmap_may.sh3, bitmap_may.os3, bitmap_may.l3⟩ 0))]) 76 bitmap_may.As bitmap_may.m a some = bitmap_may.f a := fun a => by kernel_rfl
noncomputable abbrev bitmap_may.row : Row := fnRow 76 bitmap_may.As bitmap_may.m bitmap_may.f
theorem bitmap_may.row_ok : RowOK P G1 bitmap_may.row := row_told bitmap_may.hok (lp_of (l := [(3, (NodeT.summ ⟨bitmap_may.sh3, bitmap_may.os3, bitmap_may.l3⟩ 0))]) ⟨(loop_sum bitmap_may.hok (by kernel_rfl) (by kernel_rfl) (l := []) trivial bitmap_may.sh3 bitmap_may.os3 (by kernel_rfl) bitmap_may.t3 bitmap_may.t3_ok), trivial⟩) (fun _ => rfl) bitmap_may.ok
end Go.Proofs.YtkgnhjmbnmaboaaDoor
end
section
/- The Go function bursarref17.May, as a Lean function, and that it is this one. Written by a program of this session. -/
set_option linter.unusedVariables false
set_option maxRecDepth 100000
namespace Go.Proofs.YtkgnhjmbnmaboaaDoor
open Go Go.Fw
abbrev bursarref17_May.As : Shs := (.cons (.x (.l (.i .i64))) .nil)
abbrev bursarref17_May.m : Back := [(false, .b)]
noncomputable abbrev bursarref17_May.H : HK := hk P G0 E0 J0 [bursarref16_Of.row] noLoops 4
theorem bursarref17_May.rows : TabOK P G0 (tabF [bursarref16_Of.row]) := rows_ok (ws := [bursarref16_Of.row]) ⟨bursarref16_Of.row_ok, trivial⟩
theorem bursarref17_May.hok : HKOK P bursarref17_May.H := hk_ok e0_ok j0_ok bursarref17_May.rows (fun g n => noLoops_ok g n) 4
noncomputable abbrev bursarref17_May.sh3 : SSh := ⟨[(0, (.x (.l (.i .i64)))), (3, (.x (.i .i64)))], []⟩
noncomputable abbrev bursarref17_May.os3 : PEnds := [(.ret, ⟨[(2, (.x .b))], []⟩), ((.exit 0), ⟨[], []⟩)]
noncomputable def bursarref17_May.t3 (s : ((List Int) × Int)) : Option (((List Int) × Int) ⊕ (Bool ⊕ Unit)) := (bif (decide ((s.2 < ((List.length s.1) : Int)))) then (bif ((decide (((0 : Int) ≤ s.2))) && (decide ((s.2 < ((List.length s.1) : Int))))) then (((bursarref16_Of.f (List.getD s.1 (Int.toNat s.2) (0 : Int)))).bind fun (x2 : (Int × (Int × Int))) => (bif (x2.1 == (0 : Int)) then (some (.inr (.inl false))) else (bif (decide ((s.2 > (0 : Int)))) then (bif ((decide (((0 : Int) ≤ (IntKind.wrap .i64 (s.2 - (1 : Int)))))) && (decide (((IntKind.wrap .i64 (s.2 - (1 : Int))) < ((List.length s.1) : Int))))) then (bif ((decide (((0 : Int) ≤ s.2))) && (decide ((s.2 < ((List.length s.1) : Int))))) then (bif (decide (((List.getD s.1 (Int.toNat (IntKind.wrap .i64 (s.2 - (1 : Int)))) (0 : Int)) ≥ (List.getD s.1 (Int.toNat s.2) (0 : Int))))) then (some (.inr (.inl false))) else (some (.inl (s.1, (IntKind.wrap .i64 (s.2 + (1 : Int))))))) else none) else none) else (some (.inl (s.1, (IntKind.wrap .i64 (s.2 + (1 : Int))))))))) else none) else (some (.inr (.inr ()))))
theorem bursarref17_May.t3_ok : ∀ s : Vals bursarref17_May.sh3.tys, turnK P bursarref17_May.H (lp []) (bodyAt (codeOf P 73) 3) 0 bursarref17_May.sh3 bursarref17_May.os3 s some = bursarref17_May.t3 s := fun s => by kernel_rfl
noncomputable def bursarref17_May.l3 : ((List Int) × Int) → Option (Bool ⊕ Unit) := rounds bursarref17_May.t3
noncomputable def bursarref17_May.f (a : (List Int)) : Option Bool := (((bursarref17_May.l3 (a, (0 : Int)))).bind fun (x1 : (Bool ⊕ PUnit)) => (match x1 with | .inl x2 => (some x2) | .inr x2 => (some true)))
theorem bursarref17_May.ok : ∀ a : Vals bursarref17_May.As.tys, fnK P bursarref17_May.H (lp [(3, (NodeT.summ ⟨bursarref17_May.sh3, bursarref17_May.os3, bursarref17_May.l3⟩ 0))]) 73 bursarref17_May.As bursarref17_May.m a some = bursarref17_May.f a := fun a => by kernel_rfl
noncomputable abbrev bursarref17_May.row : Row := fnRow 73 bursarref17_May.As bursarref17_May.m bursarref17_May.f
theorem bursarref17_May.row_ok : RowOK P G0 bursarref17_May.row := row_told bursarref17_May.hok (lp_of (l := [(3, (NodeT.summ ⟨bursarref17_May.sh3, bursarref17_May.os3, bursarref17_May.l3⟩ 0))]) ⟨(loop_sum bursarref17_May.hok (by kernel_rfl) (by kernel_rfl) (l := []) trivial bursarref17_May.sh3 bursarref17_May.os3 (by kernel_rfl) bursarref17_May.t3 bursarref17_May.t3_ok), trivial⟩) (fun _ => rfl) bursarref17_May.ok
end Go.Proofs.YtkgnhjmbnmaboaaDoor
end
section
/- Sets of fields, and bits of octets: plain laws. By this session. -/
set_option linter.unusedVariables false
set_option linter.unusedSimpArgs false
namespace Go.Proofs.YtkgnhjmbnmaboaaDoor
open Go Go.Fw
/-- is there such a field? -/
noncomputable def hasF (n : Int) : Bool := match bursarref16_Of.f n with
  | some x => !(x.1 == 0)
  | none => false
theorem hasF_is (n : Int) : ∃ k v l : Int, bursarref16_Of.f n = some (k, v, l) ∧ spec_Of.f n = some ((k, v, l), bif hasF n then 0 else 7) ∧ (k == 0) = !hasF n := by
  obtain ⟨k, v, l, h1, h2, h3⟩ := of_is n
  have e : hasF n = !(k == 0) := by unfold hasF; rw [h1]
  refine ⟨k, v, l, h1, ?_, by rw [e]; simp⟩
  rw [h2, e]
  by_cases h : k = 0
  · subst h; rfl
  · have hb : (k == 0) = false := by simpa using h
    rw [hb, decide_eq_false h]; rfl
theorem has_all : (List.range 129).all (fun n => !hasF (n : Int) || decide (2 ≤ n)) = true := by kernel_rfl
theorem hasF_bound {n : Int} (h : hasF n = true) : 2 ≤ n ∧ n ≤ 128 := by
  by_cases hn : 0 ≤ n ∧ n ≤ 128
  · have := List.all_eq_true.1 has_all n.toNat (List.mem_range.2 (by omega))
    rw [show ((n.toNat : Nat) : Int) = n by omega, h] at this
    simp only [Bool.not_true, Bool.false_or, decide_eq_true_eq] at this
    omega
  · have := (of_out hn).1
    unfold hasF at h
    rw [this] at h
    cases h
/-- may a set be? -/
noncomputable def okAt (l : List Int) (i : Nat) : Bool := hasF (l.getD i 0) && (decide (i = 0) || decide (l.getD (i - 1) 0 < l.getD i 0))
noncomputable def mayL (l : List Int) : Bool := (List.range l.length).all (okAt l)
theorem may_is {l : List Int} (hl : l.length < 9223372036854775807) : bitmap_may.f l = some (mayL l) := by
  have hr : bitmap_may.l3 (l, l, (l.length : Int), 0) = some (bif mayL l then .inr () else .inl false) := by
    refine rounds_all (t := bitmap_may.t3) (fun i => (l, l, (l.length : Int), (i : Int))) (okAt l) (.inl false) (.inr ()) l.length (fun i hi => ?_) ?_
    · obtain ⟨k, v, len, h1, h2, h3⟩ := hasF_is (l.getD i 0)
      simp only [bitmap_may.t3, decide_eq_true (show (i : Int) < (l.length : Int) by omega), ge0 i, Bool.and_self, cond_true, Int.toNat_natCast, h2, Option.bind_some, wrap_up (show i < 9223372036854775807 by omega)]
      cases hf : hasF (l.getD i 0)
      · simp only [okAt, hf, Bool.false_and, cond_false]; rfl
      · simp only [okAt, hf, cond_true, Bool.true_and, show ((0 : Int) != 0) = false from rfl, cond_false]
        by_cases h0 : i = 0
        · subst h0; rfl
        · have w : IntKind.wrap .i64 ((i : Int) - 1) = ((i - 1 : Nat) : Int) := by rw [wrap_i64 (by omega) (by omega)]; omega
          simp only [decide_eq_true (show (i : Int) > 0 by omega), cond_true, w, ge0 (i - 1), decide_eq_true (show ((i - 1 : Nat) : Int) < (l.length : Int) by omega), Bool.and_self, Int.toNat_natCast, decide_eq_false h0, Bool.false_or]
          by_cases hlt : l.getD (i - 1) 0 < l.getD i 0
          · rw [decide_eq_false (show ¬ l.getD (i - 1) 0 ≥ l.getD i 0 by omega), decide_eq_true hlt]; rfl
          · rw [decide_eq_true (show l.getD (i - 1) 0 ≥ l.getD i 0 by omega), decide_eq_false hlt]; rfl
    · simp [bitmap_may.t3]
  unfold bitmap_may.f
  simp only [hr, Option.bind_some]
  cases mayL l <;> rfl
theorem refMay_is {l : List Int} (hl : l.length < 9223372036854775807) : bursarref17_May.f l = some (mayL l) := by
  have hr : bursarref17_May.l3 (l, 0) = some (bif mayL l then .inr () else .inl false) := by
    refine rounds_all (t := bursarref17_May.t3) (fun i => (l, (i : Int))) (okAt l) (.inl false) (.inr ()) l.length (fun i hi => ?_) ?_
    · obtain ⟨k, v, len, h1, h2, h3⟩ := hasF_is (l.getD i 0)
      simp only [bursarref17_May.t3, decide_eq_true (show (i : Int) < (l.length : Int) by omega), ge0 i, Bool.and_self, cond_true, Int.toNat_natCast, h1, Option.bind_some, h3, wrap_up (show i < 9223372036854775807 by omega)]
      cases hf : hasF (l.getD i 0)
      · simp only [okAt, hf, Bool.false_and, Bool.not_false, cond_true, cond_false]
      · simp only [okAt, hf, cond_true, Bool.true_and, Bool.not_true, cond_false]
        by_cases h0 : i = 0
        · subst h0; rfl
        · have w : IntKind.wrap .i64 ((i : Int) - 1) = ((i - 1 : Nat) : Int) := by rw [wrap_i64 (by omega) (by omega)]; omega
          simp only [decide_eq_true (show (i : Int) > 0 by omega), cond_true, w, ge0 (i - 1), decide_eq_true (show ((i - 1 : Nat) : Int) < (l.length : Int) by omega), Bool.and_self, Int.toNat_natCast, decide_eq_false h0, Bool.false_or]
          by_cases hlt : l.getD (i - 1) 0 < l.getD i 0
          · rw [decide_eq_false (show ¬ l.getD (i - 1) 0 ≥ l.getD i 0 by omega), decide_eq_true hlt]; rfl
          · rw [decide_eq_true (show l.getD (i - 1) 0 ≥ l.getD i 0 by omega), decide_eq_false hlt]; rfl
    · simp [bursarref17_May.t3]
  unfold bursarref17_May.f
  simp only [hr, Option.bind_some]
  cases mayL l <;> rfl
/-! ### bits -/
/-- the bit k of an octet, from the left -/
def bitN (v k : Nat) : Bool := decide (v / 2 ^ (7 - k) % 2 = 1)
theorem or_all : (List.range 256).all (fun v => (List.range 8).all fun k => (List.range 8).all fun j => bitN (bitsOp .or .u8 (v : Int) (Int.fdiv 128 (2 ^ (min k 8)))).toNat j == (decide (j = k) || bitN v j)) = true := by kernel_rfl
theorem or_bound : (List.range 256).all (fun v => (List.range 8).all fun k => decide (0 ≤ bitsOp .or .u8 (v : Int) (Int.fdiv 128 (2 ^ (min k 8)))) && decide (bitsOp .or .u8 (v : Int) (Int.fdiv 128 (2 ^ (min k 8))) < 256)) = true := by kernel_rfl
theorem and_all : (List.range 256).all (fun v => (List.range 8).all fun k => (bitsOp .and .u8 (v : Int) (Int.fdiv 128 (2 ^ (min k 8))) != 0) == bitN v k) = true := by kernel_rfl
theorem bits_all : (List.range 256).all (fun v => decide (v = (List.range 8).foldl (fun c k => 2 * c + (bif bitN v k then 1 else 0)) 0)) = true := by kernel_rfl
end Go.Proofs.YtkgnhjmbnmaboaaDoor
end
section
/- The Go function bitmap.Map, as a Lean function, and that it is this one. Written by a program of this session. -/
set_option linter.unusedVariables false
set_option maxRecDepth 100000
namespace Go.Proofs.YtkgnhjmbnmaboaaDoor
open Go Go.Fw
abbrev bitmap_Map.As : Shs := (.cons (.x (.l (.i .i64))) .nil)
abbrev bitmap_Map.m : Back := [(false, .s), (false, (.i .i64))]
noncomputable abbrev bitmap_Map.H : HK := hk P G1 E0 J0 [bitmap_may.row, bitmap_bit.row] noLoops 4
theorem bitmap_Map.rows : TabOK P G1 (tabF [bitmap_may.row, bitmap_bit.row]) := rows_ok (ws := [bitmap_may.row, bitmap_bit.row]) ⟨bitmap_may.row_ok, ⟨(bitmap_bit.row_ok.more g01), trivial⟩⟩
theorem bitmap_Map.hok : HKOK P bitmap_Map.H := hk_ok e0_ok j0_ok bitmap_Map.rows (fun g n => noLoops_ok g n) 4
noncomputable abbrev bitmap_Map.sh11 : SSh := ⟨[(4, (.own 0 1)), (30, (.x (.l (.i .i64)))), (31, (.x (.i .i64))), (32, (.x (.i .i64)))], [.arr (.i .u8)]⟩
noncomputable abbrev bitmap_Map.os11 : PEnds := [((.exit 0), ⟨[(4, (.x (.l (.i .u8))))], []⟩)]
noncomputable def bitmap_Map.t11 (s : ((List Int) × (Int × (Int × (List Int))))) : Option (((List Int) × (Int × (Int × (List Int)))) ⊕ ((List Int))) := (bif (decide ((s.2.2.1 < s.2.1))) then (bif ((decide (((0 : Int) ≤ s.2.2.1))) && (decide ((s.2.2.1 < ((List.length s.1) : Int))))) then (((bitmap_bit.f (List.getD s.1 (Int.toNat s.2.2.1) (0 : Int)))).bind fun (x4 : (Int × Int)) => (bif ((decide (((0 : Int) ≤ x4.1))) && (decide ((x4.1 < ((List.length s.2.2.2) : Int))))) then (bif (true && (Nat.blt (0 + (Int.toNat x4.1)) (List.length s.2.2.2))) then (bif ((decide (((0 : Int) ≤ x4.1))) && (decide ((x4.1 < ((List.length s.2.2.2) : Int))))) then (bif (true && (Nat.blt (0 + (Int.toNat x4.1)) (List.length s.2.2.2))) then (some (.inl (s.1, (s.2.1, ((IntKind.wrap .i64 (s.2.2.1 + (1 : Int))), (List.set s.2.2.2 (0 + (Int.toNat x4.1)) (bitsOp Go.BinOp.or Go.IntKind.u8 (List.getD s.2.2.2 (0 + (Int.toNat x4.1)) (0 : Int)) x4.2))))))) else none) else none) else none) else none)) else none) else (some (.inr s.2.2.2)))
theorem bitmap_Map.t11_ok : ∀ s : Vals bitmap_Map.sh11.tys, turnK P bitmap_Map.H (lp []) (bodyAt (codeOf P 36) 11) 0 bitmap_Map.sh11 bitmap_Map.os11 s some = bitmap_Map.t11 s := fun s => by kernel_rfl
noncomputable def bitmap_Map.l11 : ((List Int) × (Int × (Int × (List Int)))) → Option ((List Int)) := rounds bitmap_Map.t11
noncomputable def bitmap_Map.f (a : (List Int)) : Option (ByteArray × Int) := (((bitmap_may.f a)).bind fun (x1 : Bool) => (bif (!x1) then (some ((bs []), (1 : Int))) else (bif (decide ((((List.length a) : Int) > (0 : Int)))) then (bif ((decide (((0 : Int) ≤ (IntKind.wrap .i64 (((List.length a) : Int) - (1 : Int)))))) && (decide (((IntKind.wrap .i64 (((List.length a) : Int) - (1 : Int))) < ((List.length a) : Int))))) then (bif (decide (((List.getD a (Int.toNat (IntKind.wrap .i64 (((List.length a) : Int) - (1 : Int)))) (0 : Int)) > (64 : Int)))) then (((bitmap_Map.l11 (a, (((List.length a) : Int), ((0 : Int), [(128 : Int), (0 : Int), (0 : Int), (0 : Int), (0 : Int), (0 : Int), (0 : Int), (0 : Int), (0 : Int), (0 : Int), (0 : Int), (0 : Int), (0 : Int), (0 : Int), (0 : Int), (0 : Int)]))))).bind fun (x2 : (List Int)) => (some ((ByteArray.mk (List.toArray (List.map (fun y3 => (UInt8.ofNat (Int.toNat y3))) x2))), (0 : Int)))) else (((bitmap_Map.l11 (a, (((List.length a) : Int), ((0 : Int), [(0 : Int), (0 : Int), (0 : Int), (0 : Int), (0 : Int), (0 : Int), (0 : Int), (0 : Int)]))))).bind fun (x2 : (List Int)) => (some ((ByteArray.mk (List.toArray (List.map (fun y3 => (UInt8.ofNat (Int.toNat y3))) x2))), (0 : Int))))) else none) else (((bitmap_Map.l11 (a, (((List.length a) : Int), ((0 : Int), [(0 : Int), (0 : Int), (0 : Int), (0 : Int), (0 : Int), (0 : Int), (0 : Int), (0 : Int)]))))).bind fun (x2 : (List Int)) => (some ((ByteArray.mk (List.toArray (List.map (fun y3 => (UInt8.ofNat (Int.toNat y3))) x2))), (0 : Int)))))))
theorem bitmap_Map.ok : ∀ a : Vals bitmap_Map.As.tys, fnK P bitmap_Map.H (lp [(11, (NodeT.summ ⟨bitmap_Map.sh11, bitmap_Map.os11, bitmap_Map.l11⟩ 0))]) 36 bitmap_Map.As bitmap_Map.m a some = bitmap_Map.f a := fun a => by kernel_rfl
noncomputable abbrev bitmap_Map.row : Row := fnRow 36 bitmap_Map.As bitmap_Map.m bitmap_Map.f
theorem bitmap_Map.row_ok : RowOK P G1 bitmap_Map.row := row_told bitmap_Map.hok (lp_of (l := [(11, (NodeT.summ ⟨bitmap_Map.sh11, bitmap_Map.os11, bitmap_Map.l11⟩ 0))]) ⟨(loop_sum bitmap_Map.hok (by kernel_rfl) (by kernel_rfl) (l := []) trivial bitmap_Map.sh11 bitmap_Map.os11 (by kernel_rfl) bitmap_Map.t11 bitmap_Map.t11_ok), trivial⟩) (fun _ => rfl) bitmap_Map.ok
end Go.Proofs.YtkgnhjmbnmaboaaDoor
end
section
/- A set's map, as octets: plain laws. By this session. -/
set_option linter.unusedVariables false
set_option linter.unusedSimpArgs false
namespace Go.Proofs.YtkgnhjmbnmaboaaDoor
open Go Go.Fw
def orB (v k : Nat) : Nat := (bitsOp .or .u8 (v : Int) (Int.fdiv 128 (2 ^ (min k 8)))).toNat
theorem orB_is {v k : Nat} (hv : v < 256) (hk : k < 8) : bitsOp .or .u8 (v : Int) (Int.fdiv 128 (2 ^ (min k 8))) = (orB v k : Int) ∧ orB v k < 256 := by
  have := List.all_eq_true.1 (List.all_eq_true.1 or_bound v (List.mem_range.2 hv)) k (List.mem_range.2 hk)
  simp only [Bool.and_eq_true, decide_eq_true_eq] at this
  unfold orB
  omega
theorem orB_bit {v k j : Nat} (hv : v < 256) (hk : k < 8) (hj : j < 8) : bitN (orB v k) j = (decide (j = k) || bitN v j) :=
  eq_of_beq (List.all_eq_true.1 (List.all_eq_true.1 (List.all_eq_true.1 or_all v (List.mem_range.2 hv)) k (List.mem_range.2 hk)) j (List.mem_range.2 hj))
def stepB (b : List Nat) (n : Nat) : List Nat := b.set ((n - 1) / 8) (orB (b.getD ((n - 1) / 8) 0) ((n - 1) % 8))
abbrev ints (b : List Nat) : List Int := b.map fun (x : Nat) => (x : Int)
theorem ints_getD (b : List Nat) (j : Nat) : (ints b).getD j 0 = ((b.getD j 0 : Nat) : Int) := by
  simp only [List.getD_eq_getElem?_getD, List.getElem?_map]
  cases b[j]? <;> rfl
theorem bit_is {n : Nat} (h1 : 1 ≤ n) (h2 : n ≤ 1000) : bitmap_bit.f (n : Int) = some ((((n - 1) / 8 : Nat) : Int), Int.fdiv 128 (2 ^ (min ((n - 1) % 8) 8))) := by
  have w : IntKind.wrap .i64 ((n : Int) - 1) = ((n - 1 : Nat) : Int) := by rw [wrap_i64 (by omega) (by omega)]; omega
  have e1 : Int.tmod ((n - 1 : Nat) : Int) 8 = (((n - 1) % 8 : Nat) : Int) := by rw [Int.tmod_eq_emod_of_nonneg (by omega)]; rfl
  have e2 : Int.tdiv ((n - 1 : Nat) : Int) 8 = (((n - 1) / 8 : Nat) : Int) := by rw [Int.tdiv_eq_ediv_of_nonneg (by omega)]; rfl
  have w2 : IntKind.wrap .i64 (((n - 1) / 8 : Nat) : Int) = (((n - 1) / 8 : Nat) : Int) := wrap_i64 (by omega) (by omega)
  unfold bitmap_bit.f
  simp only [w, e1, e2, w2]
  rw [decide_eq_false (show ¬ (((n - 1) % 8 : Nat) : Int) < 0 by omega), cond_false, Int.toNat_natCast]
def okB (b : List Nat) : Prop := ∀ x ∈ b, x < 256
theorem okB_getD {b : List Nat} (h : okB b) (j : Nat) : b.getD j 0 < 256 := by
  rw [List.getD_eq_getElem?_getD]
  cases hj : b[j]? with
  | none => simp
  | some x => exact h x (List.mem_of_getElem? hj)
theorem stepB_len (b : List Nat) (n : Nat) : (stepB b n).length = b.length := List.length_set
theorem stepB_ok {b : List Nat} (h : okB b) (n : Nat) : okB (stepB b n) := fun x hx => by
  rcases List.mem_or_eq_of_mem_set hx with hx | rfl
  · exact h x hx
  · exact (orB_is (okB_getD h _) (by omega)).2
def bitB (b : List Nat) (n : Nat) : Bool := bitN (b.getD ((n - 1) / 8) 0) ((n - 1) % 8)
theorem stepB_bit {b : List Nat} (h : okB b) {m n : Nat} (hm : 1 ≤ m) (hm' : m ≤ 8 * b.length) (hn : 1 ≤ n) : bitB (stepB b m) n = (decide (n = m) || bitB b n) := by
  unfold bitB stepB
  have hlt : (m - 1) / 8 < b.length := by omega
  rw [List.getD_eq_getElem?_getD, List.getElem?_set]
  by_cases he : (m - 1) / 8 = (n - 1) / 8
  · rw [if_pos he, if_pos hlt]
    simp only [Option.getD_some]
    rw [orB_bit (okB_getD h _) (by omega) (by omega), he]
    congr 1
    rw [decide_eq_decide]
    omega
  · rw [if_neg he, ← List.getD_eq_getElem?_getD, decide_eq_false (fun e => he (by rw [e])), Bool.false_or]
/-- octets by octets, for all of a list -/
def putAll (l : List Int) (b : List Nat) : List Nat := l.foldl (fun b n => stepB b n.toNat) b
theorem putAll_len : ∀ (l : List Int) (b : List Nat), (putAll l b).length = b.length
  | [], b => rfl
  | n :: l, b => by
    show (putAll l (stepB b n.toNat)).length = _
    rw [putAll_len l, stepB_len]
theorem putAll_ok : ∀ (l : List Int) {b : List Nat}, okB b → okB (putAll l b)
  | [], b, h => h
  | n :: l, b, h => putAll_ok l (stepB_ok h _)
theorem putAll_bit : ∀ (l : List Int) {b : List Nat}, okB b → (∀ n ∈ l, 1 ≤ n ∧ n ≤ 8 * (b.length : Int)) → ∀ n : Nat, 1 ≤ n → bitB (putAll l b) n = (decide ((n : Int) ∈ l) || bitB b n)
  | [], b, h, hl, n, hn => by simp [putAll]
  | m :: l, b, h, hl, n, hn => by
    have hm := hl m List.mem_cons_self
    show bitB (putAll l (stepB b m.toNat)) n = _
    rw [putAll_bit l (stepB_ok h _) (fun x hx => by rw [stepB_len]; exact hl x (List.mem_cons_of_mem _ hx)) n hn, stepB_bit h (by omega) (by omega) hn]
    have e : decide ((n : Int) ∈ m :: l) = (decide ((n : Int) ∈ l) || decide (n = m.toNat)) := by
      rw [Bool.eq_iff_iff]
      simp only [List.mem_cons, decide_eq_true_eq, Bool.or_eq_true]
      constructor
      · rintro (rfl | h)
        · right; omega
        · exact .inl h
      · rintro (h | h)
        · exact .inr h
        · left; omega
    rw [e, Bool.or_assoc]
theorem map_rounds {l : List Int} {b : List Nat} (hb : okB b) (hl : ∀ n ∈ l, 1 ≤ n ∧ n ≤ 8 * (b.length : Int)) (hlen : l.length ≤ 1000) (hbl : b.length ≤ 100) : bitmap_Map.l11 (l, (l.length : Int), 0, ints b) = some (ints (putAll l b)) := by
  have st := rounds_to (t := bitmap_Map.t11) (fun i => (l, (l.length : Int), (i : Int), ints (putAll (l.take i) b))) l.length fun i hi => by
    have hm := hl _ (List.getElem_mem hi)
    obtain ⟨m, hm'⟩ : ∃ m : Nat, l.getD i 0 = m := ⟨(l.getD i 0).toNat, by rw [getD_at hi]; omega⟩
    have hmi : l[i] = (m : Int) := by rw [← getD_at hi (d := 0)]; exact hm'
    rw [hmi] at hm
    have hpl := putAll_len (l.take i) b
    have hpo := putAll_ok (l.take i) hb
    obtain ⟨c, hc⟩ : ∃ c, putAll (l.take i) b = c := ⟨_, rfl⟩
    have next : putAll (l.take (i + 1)) b = stepB c m := by
      rw [take_up 0 hi, hm', ← hc]
      unfold putAll
      rw [List.foldl_append]
      rfl
    rw [hc] at hpl hpo
    have hlt : (m - 1) / 8 < c.length := by omega
    simp only [bitmap_Map.t11, hc, hm', decide_eq_true (show (i : Int) < (l.length : Int) by omega), ge0 i, Bool.and_self, cond_true, Int.toNat_natCast, bit_is (show 1 ≤ m by omega) (show m ≤ 1000 by omega), Option.bind_some, ge0 ((m - 1) / 8), List.length_map, decide_eq_true (show (((m - 1) / 8 : Nat) : Int) < (c.length : Int) by omega), Nat.zero_add, Bool.true_and,
      ints_getD, (orB_is (okB_getD hpo ((m - 1) / 8)) (show (m - 1) % 8 < 8 by omega)).1, wrap_up (show i < 9223372036854775807 by omega), next]
    rw [show Nat.blt ((m - 1) / 8) c.length = true by rw [Nat.blt_eq]; exact hlt]
    simp only [cond_true, stepB, ints, List.map_set]
  have : bitmap_Map.l11 (l, (l.length : Int), 0, ints b) = rounds bitmap_Map.t11 (l, (l.length : Int), ((0 : Nat) : Int), ints (putAll (l.take 0) b)) := rfl
  rw [this, st]
  refine rounds_end ?_
  simp [bitmap_Map.t11]
end Go.Proofs.YtkgnhjmbnmaboaaDoor
end
section
/- The Go function bursarref17.Map, as a Lean function, and that it is this one. Written by a program of this session. -/
set_option linter.unusedVariables false
set_option maxRecDepth 100000
namespace Go.Proofs.YtkgnhjmbnmaboaaDoor
open Go Go.Fw
abbrev bursarref17_Map.As : Shs := (.cons (.x (.l (.i .i64))) .nil)
abbrev bursarref17_Map.m : Back := [(false, .s)]
noncomputable abbrev bursarref17_Map.H : HK := hk P G0 E0 J0 [] noLoops 4
theorem bursarref17_Map.rows : TabOK P G0 (tabF []) := rows_ok (ws := []) trivial
theorem bursarref17_Map.hok : HKOK P bursarref17_Map.H := hk_ok e0_ok j0_ok bursarref17_Map.rows (fun g n => noLoops_ok g n) 4
noncomputable abbrev bursarref17_Map.sh5 : SSh := ⟨[(0, (.x (.l (.i .i64)))), (3, (.ep 0 1 0 0)), (4, (.x (.i .i64))), (5, (.x (.i .i64)))], [.arr .b]⟩
noncomputable abbrev bursarref17_Map.os5 : PEnds := [((.exit 0), ⟨[(3, (.ep 0 1 0 0)), (4, (.x (.i .i64)))], [.arr .b]⟩)]
noncomputable def bursarref17_Map.t5 (s : ((List Int) × (Int × (Int × (List Bool))))) : Option (((List Int) × (Int × (Int × (List Bool)))) ⊕ ((Int × (List Bool)))) := (bif (decide ((s.2.2.1 < ((List.length s.1) : Int)))) then (bif ((decide (((0 : Int) ≤ s.2.2.1))) && (decide ((s.2.2.1 < ((List.length s.1) : Int))))) then (bif ((decide (((0 : Int) ≤ (List.getD s.1 (Int.toNat s.2.2.1) (0 : Int))))) && (decide (((List.getD s.1 (Int.toNat s.2.2.1) (0 : Int)) < (129 : Int))))) then (bif (true && (Nat.blt (0 + (Int.toNat (List.getD s.1 (Int.toNat s.2.2.1) (0 : Int)))) (List.length s.2.2.2))) then (bif ((decide (((0 : Int) ≤ s.2.2.1))) && (decide ((s.2.2.1 < ((List.length s.1) : Int))))) then (bif (decide (((List.getD s.1 (Int.toNat s.2.2.1) (0 : Int)) > (64 : Int)))) then (bif (true && (Nat.blt 1 (List.length (List.set s.2.2.2 (0 + (Int.toNat (List.getD s.1 (Int.toNat s.2.2.1) (0 : Int)))) true)))) then (some (.inl (s.1, ((128 : Int), ((IntKind.wrap .i64 (s.2.2.1 + (1 : Int))), (List.set (List.set s.2.2.2 (0 + (Int.toNat (List.getD s.1 (Int.toNat s.2.2.1) (0 : Int)))) true) 1 true)))))) else none) else (some (.inl (s.1, (s.2.1, ((IntKind.wrap .i64 (s.2.2.1 + (1 : Int))), (List.set s.2.2.2 (0 + (Int.toNat (List.getD s.1 (Int.toNat s.2.2.1) (0 : Int)))) true))))))) else none) else none) else none) else none) else (some (.inr (s.2.1, s.2.2.2))))
theorem bursarref17_Map.t5_ok : ∀ s : Vals bursarref17_Map.sh5.tys, turnK P bursarref17_Map.H (lp []) (bodyAt (codeOf P 74) 5) 0 bursarref17_Map.sh5 bursarref17_Map.os5 s some = bursarref17_Map.t5 s := fun s => by kernel_rfl
noncomputable def bursarref17_Map.l5 : ((List Int) × (Int × (Int × (List Bool)))) → Option ((Int × (List Bool))) := rounds bursarref17_Map.t5
noncomputable abbrev bursarref17_Map.sh9 : SSh := ⟨[(3, (.ep 0 1 0 0)), (4, (.x (.i .i64))), (6, (.x .s)), (7, (.x (.i .i64)))], [.arr .b]⟩
noncomputable abbrev bursarref17_Map.sh9_6 : SSh := ⟨[(3, (.ep 0 1 0 0)), (4, (.x (.i .i64))), (6, (.x .s)), (7, (.x (.i .i64))), (8, (.x (.i .i64))), (9, (.x (.i .i64)))], [.arr .b]⟩
noncomputable abbrev bursarref17_Map.os9_6 : PEnds := [((.exit 4), ⟨[(3, (.ep 0 1 0 0)), (4, (.x (.i .i64))), (6, (.x .s)), (7, (.x (.i .i64))), (8, (.x (.i .i64)))], [.arr .b]⟩)]
noncomputable def bursarref17_Map.t9_6 (s : (Int × (ByteArray × (Int × (Int × (Int × (List Bool))))))) : Option ((Int × (ByteArray × (Int × (Int × (Int × (List Bool)))))) ⊕ ((Int × (ByteArray × (Int × (Int × (List Bool))))))) := (bif (decide ((s.2.2.2.2.1 < (8 : Int)))) then (bif ((decide (((0 : Int) ≤ (IntKind.wrap .i64 (s.2.2.1 + s.2.2.2.2.1))))) && (decide (((IntKind.wrap .i64 (s.2.2.1 + s.2.2.2.2.1)) < (129 : Int))))) then (bif (true && (Nat.blt (0 + (Int.toNat (IntKind.wrap .i64 (s.2.2.1 + s.2.2.2.2.1)))) (List.length s.2.2.2.2.2))) then (bif (List.getD s.2.2.2.2.2 (0 + (Int.toNat (IntKind.wrap .i64 (s.2.2.1 + s.2.2.2.2.1)))) false) then (some (.inl (s.1, (s.2.1, (s.2.2.1, ((IntKind.wrap .i64 ((IntKind.wrap .i64 ((2 : Int) * s.2.2.2.1)) + (1 : Int))), ((IntKind.wrap .i64 (s.2.2.2.2.1 + (1 : Int))), s.2.2.2.2.2))))))) else (some (.inl (s.1, (s.2.1, (s.2.2.1, ((IntKind.wrap .i64 ((2 : Int) * s.2.2.2.1)), ((IntKind.wrap .i64 (s.2.2.2.2.1 + (1 : Int))), s.2.2.2.2.2)))))))) else none) else none) else (some (.inr (s.1, (s.2.1, (s.2.2.1, (s.2.2.2.1, s.2.2.2.2.2)))))))
theorem bursarref17_Map.t9_6_ok : ∀ s : Vals bursarref17_Map.sh9_6.tys, turnK P bursarref17_Map.H (lp []) (bodyAt (bodyAt (codeOf P 74) 9) 6) 0 bursarref17_Map.sh9_6 bursarref17_Map.os9_6 s some = bursarref17_Map.t9_6 s := fun s => by kernel_rfl
noncomputable def bursarref17_Map.l9_6 : (Int × (ByteArray × (Int × (Int × (Int × (List Bool)))))) → Option ((Int × (ByteArray × (Int × (Int × (List Bool)))))) := rounds bursarref17_Map.t9_6
noncomputable abbrev bursarref17_Map.os9 : PEnds := [((.exit 2), ⟨[(6, (.x .s))], []⟩)]
noncomputable def bursarref17_Map.t9 (s : (Int × (ByteArray × (Int × (List Bool))))) : Option ((Int × (ByteArray × (Int × (List Bool)))) ⊕ (ByteArray)) := (bif (decide ((s.2.2.1 ≤ s.1))) then (((bursarref17_Map.l9_6 (s.1, (s.2.1, (s.2.2.1, ((0 : Int), ((0 : Int), s.2.2.2))))))).bind fun (x4 : (Int × (ByteArray × (Int × (Int × (List Bool)))))) => (bif (Nat.ble (x4.2.1.size + (ByteArray.mk (List.toArray (List.map (fun y5 => (UInt8.ofNat (Int.toNat y5))) ((IntKind.wrap .u8 x4.2.2.2.1) :: [])))).size) 9223372036854775807) then (some (.inl (x4.1, ((x4.2.1 ++ (ByteArray.mk (List.toArray (List.map (fun y5 => (UInt8.ofNat (Int.toNat y5))) ((IntKind.wrap .u8 x4.2.2.2.1) :: []))))), ((IntKind.wrap .i64 (x4.2.2.1 + (8 : Int))), x4.2.2.2.2))))) else none)) else (some (.inr s.2.1)))
theorem bursarref17_Map.t9_ok : ∀ s : Vals bursarref17_Map.sh9.tys, turnK P bursarref17_Map.H (lp [(6, (NodeT.summ ⟨bursarref17_Map.sh9_6, bursarref17_Map.os9_6, bursarref17_Map.l9_6⟩ 0))]) (bodyAt (codeOf P 74) 9) 0 bursarref17_Map.sh9 bursarref17_Map.os9 s some = bursarref17_Map.t9 s := fun s => by kernel_rfl
noncomputable def bursarref17_Map.l9 : (Int × (ByteArray × (Int × (List Bool)))) → Option (ByteArray) := rounds bursarref17_Map.t9
noncomputable def bursarref17_Map.f (a : (List Int)) : Option ByteArray := (((bursarref17_Map.l5 (a, ((64 : Int), ((0 : Int), [false, false, false, false, false, false, false, false, false, false, false, false, false, false, false, false, false, false, false, false, false, false, false, false, false, false, false, false, false, false, false, false, false, false, false, false, false, false, false, false, false, false, false, false, false, false, false, false, false, false, false, false, false, false, false, false, false, false, false, false, false, false, false, false, false, false, false, false, false, false, false, false, false, false, false, false, false, false, false, false, false, false, false, false, false, false, false, false, false, false, false, false, false, false, false, false, false, false, false, false, false, false, false, false, false, false, false, false, false, false, false, false, false, false, false, false, false, false, false, false, false, false, false, false, false, false, false, false, false]))))).bind fun (x1 : (Int × (List Bool))) => (((bursarref17_Map.l9 (x1.1, ((bs []), ((1 : Int), x1.2))))).bind fun (x2 : ByteArray) => (some x2)))
theorem bursarref17_Map.ok : ∀ a : Vals bursarref17_Map.As.tys, fnK P bursarref17_Map.H (lp [(5, (NodeT.summ ⟨bursarref17_Map.sh5, bursarref17_Map.os5, bursarref17_Map.l5⟩ 0)), (9, (NodeT.summ ⟨bursarref17_Map.sh9, bursarref17_Map.os9, bursarref17_Map.l9⟩ 0))]) 74 bursarref17_Map.As bursarref17_Map.m a some = bursarref17_Map.f a := fun a => by kernel_rfl
noncomputable abbrev bursarref17_Map.row : Row := fnRow 74 bursarref17_Map.As bursarref17_Map.m bursarref17_Map.f
theorem bursarref17_Map.row_ok : RowOK P G0 bursarref17_Map.row := row_told bursarref17_Map.hok (lp_of (l := [(5, (NodeT.summ ⟨bursarref17_Map.sh5, bursarref17_Map.os5, bursarref17_Map.l5⟩ 0)), (9, (NodeT.summ ⟨bursarref17_Map.sh9, bursarref17_Map.os9, bursarref17_Map.l9⟩ 0))]) ⟨(loop_sum bursarref17_Map.hok (by kernel_rfl) (by kernel_rfl) (l := []) trivial bursarref17_Map.sh5 bursarref17_Map.os5 (by kernel_rfl) bursarref17_Map.t5 bursarref17_Map.t5_ok), ⟨(loop_sum bursarref17_Map.hok (by kernel_rfl) (by kernel_rfl) (l := [(6, (NodeT.summ ⟨bursarref17_Map.sh9_6, bursarref17_Map.os9_6, bursarref17_Map.l9_6⟩ 0))]) ⟨(loop_sum bursarref17_Map.hok (by kernel_rfl) (by kernel_rfl) (l := []) trivial bursarref17_Map.sh9_6 bursarref17_Map.os9_6 (by kernel_rfl) bursarref17_Map.t9_6 bursarref17_Map.t9_6_ok), trivial⟩ bursarref17_Map.sh9 bursarref17_Map.os9 (by kernel_rfl) bursarref17_Map.t9 bursarref17_Map.t9_ok), trivial⟩⟩) (fun _ => rfl) bursarref17_Map.ok
end Go.Proofs.YtkgnhjmbnmaboaaDoor
end
section
/- The map of a set, as the program and as the document have it: plain laws. By this session. -/
set_option linter.unusedVariables false
set_option linter.unusedSimpArgs false
namespace Go.Proofs.YtkgnhjmbnmaboaaDoor
open Go Go.Fw
theorem mayL_at {l : List Int} (h : mayL l = true) {i : Nat} (hi : i < l.length) : hasF (l.getD i 0) = true ∧ (0 < i → l.getD (i - 1) 0 < l.getD i 0) := by
  have := List.all_eq_true.1 h i (List.mem_range.2 hi)
  simp only [okAt, Bool.and_eq_true, Bool.or_eq_true, decide_eq_true_eq] at this
  exact ⟨this.1, fun h0 => by omega⟩
theorem mayL_mem {l : List Int} (h : mayL l = true) {n : Int} (hn : n ∈ l) : 2 ≤ n ∧ n ≤ 128 := by
  obtain ⟨i, hi, rfl⟩ := List.getElem_of_mem hn
  have := (mayL_at h hi).1
  rw [getD_at hi] at this
  exact hasF_bound this
theorem mayL_rise {l : List Int} (h : mayL l = true) {i : Nat} : ∀ {j : Nat}, i < j → j < l.length → l.getD i 0 < l.getD j 0
  | 0, hij, hj => by omega
  | j + 1, hij, hj => by
    have h1 := (mayL_at h hj).2 (by omega)
    rw [Nat.add_sub_cancel] at h1
    by_cases he : i = j
    · subst he; exact h1
    · have := mayL_rise h (i := i) (j := j) (by omega) (by omega)
      omega
def wide (l : List Int) : Bool := l.any fun n => decide (64 < n)
theorem wide_last {l : List Int} (h : mayL l = true) (hl : 0 < l.length) : decide (l.getD (l.length - 1) 0 > 64) = wide l := by
  rw [Bool.eq_iff_iff, decide_eq_true_eq]
  unfold wide
  rw [List.any_eq_true]
  constructor
  · intro hw
    refine ⟨_, ?_, decide_eq_true hw⟩
    rw [getD_at (by omega)]
    exact List.getElem_mem _
  · rintro ⟨n, hn, hw⟩
    obtain ⟨i, hi, rfl⟩ := List.getElem_of_mem hn
    have hw := of_decide_eq_true hw
    by_cases he : i = l.length - 1
    · subst he; rw [getD_at (by omega)]; exact hw
    · have := mayL_rise h (i := i) (j := l.length - 1) (by omega) (by omega)
      rw [getD_at hi] at this
      omega
def w16 : List Nat := [128, 0, 0, 0, 0, 0, 0, 0, 0, 0, 0, 0, 0, 0, 0, 0]
def z8 : List Nat := [0, 0, 0, 0, 0, 0, 0, 0]
def startB (l : List Int) : List Nat := bif wide l then w16 else z8
def mapL (l : List Int) : List Nat := putAll l (startB l)
def octs8 (b : List Nat) : List UInt8 := b.map UInt8.ofNat
theorem start_ok (l : List Int) : okB (startB l) := by
  unfold startB
  cases wide l
  · intro x hx; simp only [cond_false, z8, List.mem_cons, List.not_mem_nil, or_false] at hx; omega
  · intro x hx; simp only [cond_true, w16, List.mem_cons, List.not_mem_nil, or_false] at hx; omega
theorem start_len (l : List Int) : (startB l).length = bif wide l then 16 else 8 := by
  unfold startB
  cases wide l <;> rfl
theorem start_in {l : List Int} (h : mayL l = true) : ∀ n ∈ l, 1 ≤ n ∧ n ≤ 8 * ((startB l).length : Int) := fun n hn => by
  have := mayL_mem h hn
  rw [start_len]
  cases hw : wide l
  · have h64 : ¬ 64 < n := fun h64 => by
      have : wide l = true := List.any_eq_true.2 ⟨n, hn, decide_eq_true h64⟩
      rw [hw] at this; cases this
    simp only [cond_false]; omega
  · simp only [cond_true]; omega
theorem w16_bits : (List.range 129).all (fun n => decide (n = 0) || (bitB w16 n == decide (n = 1))) = true := by kernel_rfl
theorem z8_bits : (List.range 129).all (fun n => bitB z8 n == false) = true := by kernel_rfl
theorem start_bit (l : List Int) {n : Nat} (h1 : 1 ≤ n) (h2 : n ≤ 128) : bitB (startB l) n = (wide l && decide (n = 1)) := by
  unfold startB
  cases wide l
  · exact eq_of_beq (List.all_eq_true.1 z8_bits n (List.mem_range.2 (by omega)))
  · have := List.all_eq_true.1 w16_bits n (List.mem_range.2 (by omega))
    rw [decide_eq_false (show ¬ n = 0 by omega), Bool.false_or] at this
    exact eq_of_beq this
theorem mapL_bit {l : List Int} (h : mayL l = true) {n : Nat} (h1 : 1 ≤ n) (h2 : n ≤ 128) : bitB (mapL l) n = (decide ((n : Int) ∈ l) || (wide l && decide (n = 1))) := by
  unfold mapL
  rw [putAll_bit l (start_ok l) (start_in h) n h1, start_bit l h1 h2]
theorem mapL_len (l : List Int) : (mapL l).length = bif wide l then 16 else 8 := by unfold mapL; rw [putAll_len, start_len]
theorem mapL_ok (l : List Int) : okB (mapL l) := putAll_ok l (start_ok l)
theorem mk_ints (x : List Nat) : ByteArray.mk (List.toArray (List.map (fun y3 => UInt8.ofNat (Int.toNat y3)) (ints x))) = bs (octs8 x) := by
  unfold octs8 bs
  rw [List.map_map]
  rfl
theorem map_is {l : List Int} (hl : l.length ≤ 1000) : bitmap_Map.f l = some (bif mayL l then (bs (octs8 (mapL l)), 0) else (bs [], 1)) := by
  unfold bitmap_Map.f
  simp only [may_is (l := l) (by omega), Option.bind_some]
  cases hm : mayL l
  · rfl
  · have mr := map_rounds (l := l) (start_ok l) (start_in hm) hl (by rw [start_len]; cases wide l <;> simp)
    simp only [Bool.not_true, cond_false, cond_true]
    by_cases h0 : l.length = 0
    · have : l = [] := List.eq_nil_of_length_eq_zero h0
      subst this
      have : bitmap_Map.l11 ([], ((([] : List Int).length : Nat) : Int), 0, ints z8) = some (ints (putAll [] z8)) := mr
      rw [decide_eq_false (show ¬ ((([] : List Int).length : Nat) : Int) > 0 by simp), cond_false]
      have e : ([0, 0, 0, 0, 0, 0, 0, 0] : List Int) = ints z8 := rfl
      rw [e, this, Option.bind_some, mk_ints]
      rfl
    · have w : IntKind.wrap .i64 ((l.length : Int) - 1) = ((l.length - 1 : Nat) : Int) := by rw [wrap_i64 (by omega) (by omega)]; omega
      rw [decide_eq_true (show ((l.length : Nat) : Int) > 0 by omega), cond_true]
      simp only [w, ge0 (l.length - 1), decide_eq_true (show ((l.length - 1 : Nat) : Int) < (l.length : Int) by omega), Bool.and_self, cond_true, Int.toNat_natCast]
      rw [wide_last hm (by omega)]
      have e8 : ([0, 0, 0, 0, 0, 0, 0, 0] : List Int) = ints z8 := rfl
      have e16 : ([128, 0, 0, 0, 0, 0, 0, 0, 0, 0, 0, 0, 0, 0, 0, 0] : List Int) = ints w16 := rfl
      rw [e16, e8]
      unfold mapL
      unfold startB at mr ⊢
      cases hw : wide l <;> rw [hw] at mr <;> simp only [cond_false, cond_true] at mr ⊢ <;> rw [mr, Option.bind_some, mk_ints]
end Go.Proofs.YtkgnhjmbnmaboaaDoor
end
section
/- The map of a set, as the document has it: plain laws. By this session. -/
set_option linter.unusedVariables false
set_option linter.unusedSimpArgs false
namespace Go.Proofs.YtkgnhjmbnmaboaaDoor
open Go Go.Fw
def onStep (s : Int × List Bool) (n : Int) : Int × List Bool := bif decide (n > 64) then (128, (s.2.set n.toNat true).set 1 true) else (s.1, s.2.set n.toNat true)
def onAll (l : List Int) (s : Int × List Bool) : Int × List Bool := l.foldl onStep s
theorem onStep_len (s : Int × List Bool) (n : Int) : (onStep s n).2.length = s.2.length := by
  unfold onStep
  cases decide (n > 64) <;> simp
theorem onAll_len : ∀ (l : List Int) (s : Int × List Bool), (onAll l s).2.length = s.2.length
  | [], s => rfl
  | n :: l, s => by
    show (onAll l (onStep s n)).2.length = _
    rw [onAll_len l, onStep_len]
theorem set_getD (l : List Bool) (i j : Nat) (hi : i < l.length) : (l.set i true).getD j false = (decide (j = i) || l.getD j false) := by
  rw [List.getD_eq_getElem?_getD, List.getElem?_set]
  by_cases h : i = j
  · subst h; simp [hi]
  · rw [if_neg h, ← List.getD_eq_getElem?_getD, decide_eq_false (fun e => h e.symm), Bool.false_or]
theorem onAll_is : ∀ (l : List Int) (s : Int × List Bool), s.2.length = 129 → (∀ n ∈ l, 0 ≤ n ∧ n ≤ 128) → (onAll l s).1 = (bif wide l then 128 else s.1) ∧ ∀ j : Nat, (onAll l s).2.getD j false = (decide ((j : Int) ∈ l) || (wide l && decide (j = 1)) || s.2.getD j false)
  | [], s, hs, h => ⟨rfl, fun j => by simp [onAll, wide]⟩
  | n :: l, s, hs, h => by
    have hn := h n List.mem_cons_self
    obtain ⟨h1, h2⟩ := onAll_is l (onStep s n) (by rw [onStep_len]; exact hs) fun x hx => h x (List.mem_cons_of_mem _ hx)
    have e : onAll (n :: l) s = onAll l (onStep s n) := rfl
    have mem : ∀ j : Nat, decide ((j : Int) ∈ n :: l) = (decide (j = n.toNat) || decide ((j : Int) ∈ l)) := fun j => by
      rw [Bool.eq_iff_iff]
      simp only [List.mem_cons, decide_eq_true_eq, Bool.or_eq_true]
      constructor
      · rintro (h | h)
        · left; omega
        · exact .inr h
      · rintro (h | h)
        · left; omega
        · exact .inr h
    have hw : wide (n :: l) = (decide (64 < n) || wide l) := rfl
    rw [e, h1, hw]
    by_cases h64 : 64 < n
    · have hst : onStep s n = (128, (s.2.set n.toNat true).set 1 true) := by unfold onStep; rw [decide_eq_true (show n > 64 from h64)]; rfl
      refine ⟨by rw [hst, decide_eq_true h64]; cases wide l <;> rfl, fun j => ?_⟩
      rw [h2 j, hst, set_getD _ _ _ (by rw [List.length_set]; omega), set_getD _ _ _ (by omega), mem j, decide_eq_true h64]
      cases decide ((j : Int) ∈ l) <;> cases wide l <;> cases decide (j = 1) <;> cases decide (j = n.toNat) <;> simp
    · have hst : onStep s n = (s.1, s.2.set n.toNat true) := by unfold onStep; rw [decide_eq_false (show ¬ n > 64 from h64)]; rfl
      refine ⟨by rw [hst, decide_eq_false h64]; simp, fun j => ?_⟩
      rw [h2 j, hst, set_getD _ _ _ (by omega), mem j, decide_eq_false h64]
      cases decide ((j : Int) ∈ l) <;> cases wide l <;> cases decide (j = 1) <;> cases decide (j = n.toNat) <;> simp
def on0 : List Bool := List.replicate 129 false
theorem on_rounds {l : List Int} (hl : l.length ≤ 1000) (h : ∀ n ∈ l, 0 ≤ n ∧ n ≤ 128) : bursarref17_Map.l5 (l, 64, 0, on0) = some (onAll l (64, on0)) := by
  have st := rounds_to (t := bursarref17_Map.t5) (fun i => (l, (onAll (l.take i) (64, on0)).1, (i : Int), (onAll (l.take i) (64, on0)).2)) l.length fun i hi => by
    have hm := h _ (List.getElem_mem hi)
    obtain ⟨n, hn⟩ : ∃ n, l.getD i 0 = n := ⟨_, rfl⟩
    have hni : l[i] = n := by rw [← getD_at hi (d := 0)]; exact hn
    rw [hni] at hm
    have hlen : (onAll (l.take i) (64, on0)).2.length = 129 := by rw [onAll_len]; simp [on0]
    have next : onAll (l.take (i + 1)) (64, on0) = onStep (onAll (l.take i) (64, on0)) n := by
      rw [take_up 0 hi, hn]
      unfold onAll
      rw [List.foldl_append]
      rfl
    obtain ⟨s, hs⟩ : ∃ s, onAll (l.take i) (64, on0) = s := ⟨_, rfl⟩
    rw [hs] at hlen next
    simp only [bursarref17_Map.t5, hs, hn, next, decide_eq_true (show (i : Int) < (l.length : Int) by omega), ge0 i, Bool.and_self, cond_true, Int.toNat_natCast, decide_eq_true hm.1, decide_eq_true (show n < 129 by omega), Nat.zero_add, Bool.true_and, wrap_up (show i < 9223372036854775807 by omega), List.length_set]
    rw [show Nat.blt n.toNat s.2.length = true by rw [Nat.blt_eq]; omega, show Nat.blt 1 s.2.length = true by rw [Nat.blt_eq]; omega]
    unfold onStep
    cases decide (n > 64) <;> rfl
  have : bursarref17_Map.l5 (l, 64, 0, on0) = rounds bursarref17_Map.t5 (l, (onAll (l.take 0) (64, on0)).1, ((0 : Nat) : Int), (onAll (l.take 0) (64, on0)).2) := rfl
  rw [this, st]
  refine rounds_end ?_
  simp [bursarref17_Map.t5]
/-- an octet, by its bits -/
def byteOn (on : List Bool) (j k : Nat) : Nat := (List.range k).foldl (fun c k => 2 * c + (bif on.getD (8 * j + 1 + k) false then 1 else 0)) 0
theorem byteOn_up (on : List Bool) (j k : Nat) : byteOn on j (k + 1) = 2 * byteOn on j k + (bif on.getD (8 * j + 1 + k) false then 1 else 0) := by
  unfold byteOn
  rw [List.range_succ, List.foldl_append]
  rfl
theorem byteOn_lt (on : List Bool) (j : Nat) : ∀ k, byteOn on j k < 2 ^ k
  | 0 => by simp [byteOn]
  | k + 1 => by
    have := byteOn_lt on j k
    rw [byteOn_up, Nat.pow_succ]
    cases on.getD (8 * j + 1 + k) false <;> simp <;> omega
theorem inner_rounds {on : List Bool} {most : Int} {s : ByteArray} {j : Nat} (hj : j < 16) (hon : on.length = 129) : bursarref17_Map.l9_6 (most, s, ((8 * j + 1 : Nat) : Int), 0, 0, on) = some (most, s, ((8 * j + 1 : Nat) : Int), (byteOn on j 8 : Int), on) := by
  have st := rounds_to (t := bursarref17_Map.t9_6) (fun k => (most, s, ((8 * j + 1 : Nat) : Int), (byteOn on j k : Int), (k : Int), on)) 8 fun k hk => by
    have hlt := byteOn_lt on j k
    have h256 : 2 ^ k ≤ 128 := Nat.le_trans (Nat.pow_le_pow_right (by omega) (show k ≤ 7 by omega)) (by decide)
    have w1 : IntKind.wrap .i64 (((8 * j + 1 : Nat) : Int) + (k : Int)) = ((8 * j + 1 + k : Nat) : Int) := by rw [wrap_i64 (by omega) (by omega)]; omega
    have w2 : IntKind.wrap .i64 ((2 : Int) * (byteOn on j k : Int)) = ((2 * byteOn on j k : Nat) : Int) := by rw [wrap_i64 (by omega) (by omega)]; omega
    have w3 : IntKind.wrap .i64 (((2 * byteOn on j k : Nat) : Int) + 1) = ((2 * byteOn on j k + 1 : Nat) : Int) := by rw [wrap_i64 (by omega) (by omega)]; omega
    simp only [bursarref17_Map.t9_6, decide_eq_true (show (k : Int) < 8 by omega), cond_true, w1, ge0 (8 * j + 1 + k), decide_eq_true (show ((8 * j + 1 + k : Nat) : Int) < 129 by omega), Bool.and_self, Int.toNat_natCast, Nat.zero_add, Bool.true_and, w2, w3, wrap_up (show k < 9223372036854775807 by omega), byteOn_up]
    rw [show Nat.blt (8 * j + 1 + k) on.length = true by rw [Nat.blt_eq]; omega]
    cases on.getD (8 * j + 1 + k) false <;> rfl
  have : bursarref17_Map.l9_6 (most, s, ((8 * j + 1 : Nat) : Int), 0, 0, on) = rounds bursarref17_Map.t9_6 (most, s, ((8 * j + 1 : Nat) : Int), (byteOn on j 0 : Int), ((0 : Nat) : Int), on) := rfl
  rw [this, st]
  refine rounds_end ?_
  simp [bursarref17_Map.t9_6]
theorem outer_rounds {on : List Bool} (hon : on.length = 129) {m : Nat} (hm : m ≤ 16) : bursarref17_Map.l9 (((8 * m : Nat) : Int), bs [], 1, on) = some (bs ((List.range m).map fun j => UInt8.ofNat (byteOn on j 8))) := by
  have st := rounds_to (t := bursarref17_Map.t9) (fun j => (((8 * m : Nat) : Int), bs ((List.range j).map fun j => UInt8.ofNat (byteOn on j 8)), ((8 * j + 1 : Nat) : Int), on)) m fun j hj => by
    have hlt := byteOn_lt on j 8
    have w1 : IntKind.wrap .u8 ((byteOn on j 8 : Nat) : Int) = ((byteOn on j 8 : Nat) : Int) := by rw [wrap_u8]; omega
    have w2 : IntKind.wrap .i64 (((8 * j + 1 : Nat) : Int) + 8) = ((8 * (j + 1) + 1 : Nat) : Int) := by rw [wrap_i64 (by omega) (by omega)]; omega
    have hb : ByteArray.mk (List.toArray (List.map (fun y4 => UInt8.ofNat (Int.toNat y4)) [((byteOn on j 8 : Nat) : Int)])) = bs [UInt8.ofNat (byteOn on j 8)] := rfl
    simp only [bursarref17_Map.t9, decide_eq_true (show ((8 * j + 1 : Nat) : Int) ≤ ((8 * m : Nat) : Int) by omega), cond_true, inner_rounds (show j < 16 by omega) hon, Option.bind_some, w1, w2, hb, bs_size, bs_append, List.length_map, List.length_range]
    rw [Nat.ble_eq_true_of_le (by simp; omega), List.range_succ, List.map_append]
    rfl
  have : bursarref17_Map.l9 (((8 * m : Nat) : Int), bs [], 1, on) = rounds bursarref17_Map.t9 (((8 * m : Nat) : Int), bs ((List.range 0).map fun j => UInt8.ofNat (byteOn on j 8)), ((8 * 0 + 1 : Nat) : Int), on) := rfl
  rw [this, st]
  refine rounds_end ?_
  simp only [bursarref17_Map.t9, decide_eq_false (show ¬ ((8 * m + 1 : Nat) : Int) ≤ ((8 * m : Nat) : Int) by omega), cond_false]
theorem byte_of_bits {v : Nat} (hv : v < 256) : v = (List.range 8).foldl (fun c k => 2 * c + (bif bitN v k then 1 else 0)) 0 := of_decide_eq_true (List.all_eq_true.1 bits_all v (List.mem_range.2 hv))
theorem foldl_same {A : Type} {f g : A → Nat → A} : ∀ (l : List Nat) (a : A), (∀ k ∈ l, ∀ a, f a k = g a k) → l.foldl f a = l.foldl g a
  | [], a, h => rfl
  | k :: l, a, h => by
    simp only [List.foldl_cons, h k List.mem_cons_self]
    exact foldl_same l _ fun k hk => h k (List.mem_cons_of_mem _ hk)
theorem refMap_is {l : List Int} (hl : l.length ≤ 1000) (h : mayL l = true) : bursarref17_Map.f l = some (bs (octs8 (mapL l))) := by
  have hin : ∀ n ∈ l, 0 ≤ n ∧ n ≤ 128 := fun n hn => by have := mayL_mem h hn; omega
  obtain ⟨g1, g2⟩ := onAll_is l (64, on0) (by simp [on0]) hin
  have hlen : (onAll l (64, on0)).2.length = 129 := by rw [onAll_len]; simp [on0]
  have e : bursarref17_Map.f l = (bursarref17_Map.l5 (l, 64, 0, on0)).bind (fun (x1 : Int × List Bool) => (bursarref17_Map.l9 (x1.1, bs [], 1, x1.2)).bind fun x2 => some x2) := rfl
  rw [e]
  simp only [on_rounds hl hin, Option.bind_some]
  have hm : (onAll l (64, on0)).1 = ((8 * (bif wide l then 16 else 8) : Nat) : Int) := by rw [g1]; cases wide l <;> rfl
  rw [hm, outer_rounds hlen (by cases wide l <;> simp), Option.bind_some]
  congr 2
  unfold octs8
  refine List.ext_getElem (by rw [List.length_map, List.length_range, List.length_map, mapL_len]) fun j h1 h2 => ?_
  have hj : j < (bif wide l then 16 else 8) := by simpa using h1
  have hj16 : j < 16 := by cases hw : wide l <;> rw [hw] at hj <;> simp at hj <;> omega
  have hjm : j < (mapL l).length := by simpa using h2
  simp only [List.getElem_map, List.getElem_range]
  congr 1
  have hv : (mapL l).getD j 0 < 256 := okB_getD (mapL_ok l) j
  rw [← getD_at hjm (d := 0), byte_of_bits hv]
  unfold byteOn
  refine foldl_same _ _ fun k hk c => ?_
  have hk := List.mem_range.1 hk
  have hb := mapL_bit h (n := 8 * j + 1 + k) (by omega) (by omega)
  unfold bitB at hb
  rw [show (8 * j + 1 + k - 1) / 8 = j by omega, show (8 * j + 1 + k - 1) % 8 = k by omega] at hb
  rw [hb, g2]
  have : on0.getD (8 * j + 1 + k) false = false := by
    rw [List.getD_eq_getElem?_getD]
    unfold on0
    rw [List.getElem?_replicate]
    split <;> rfl
  rw [this, Bool.or_false]
end Go.Proofs.YtkgnhjmbnmaboaaDoor
end
section
/- The Go function bitmap.Read, as a Lean function, and that it is this one. Written by a program of this session. -/
set_option linter.unusedVariables false
set_option maxRecDepth 100000
namespace Go.Proofs.YtkgnhjmbnmaboaaDoor
open Go Go.Fw
abbrev bitmap_Read.As : Shs := (.cons (.x .s) .nil)
abbrev bitmap_Read.m : Back := [(false, (.l (.i .i64))), (false, (.i .i64)), (false, (.i .i64))]
noncomputable abbrev bitmap_Read.H : HK := hk P G1 E0 J0 [bitmap_Map.row, bitmap_bit.row] noLoops 4
theorem bitmap_Read.rows : TabOK P G1 (tabF [bitmap_Map.row, bitmap_bit.row]) := rows_ok (ws := [bitmap_Map.row, bitmap_bit.row]) ⟨bitmap_Map.row_ok, ⟨(bitmap_bit.row_ok.more g01), trivial⟩⟩
theorem bitmap_Read.hok : HKOK P bitmap_Read.H := hk_ok e0_ok j0_ok bitmap_Read.rows (fun g n => noLoops_ok g n) 4
noncomputable abbrev bitmap_Read.shi0 : SSh := ⟨[(0, (.yd 2 [6] (.cons (.pt 0 0) .nil) [28] (rfA P 31 0) (rfB P 31 0))), (1, (.pt 1 0)), (3, (.x (.i .i64)))], [.box (.cons (.own 3 1) .nil), .box (.cons (.x .s) .nil), .lp false, .arrN (.i .i64)]⟩
noncomputable abbrev bitmap_Read.osi0 : PEnds := [((.exit 0), ⟨[], [.box (.cons (.own 3 1) .nil), .box (.cons (.x .s) .nil), .lp false, .arrN (.i .i64)]⟩)]
noncomputable def bitmap_Read.ti0 (s : (Int × (ByteArray × (List Int)))) : Option ((Int × (ByteArray × (List Int))) ⊕ ((ByteArray × (List Int)))) := (bif (decide ((s.1 ≤ (IntKind.wrap .i64 ((8 : Int) * (s.2.1.size : Int)))))) then (((bitmap_bit.f s.1)).bind fun (x4 : (Int × Int)) => (bif ((decide (((0 : Int) ≤ x4.1))) && (decide ((x4.1 < (s.2.1.size : Int))))) then (bif ((bitsOp Go.BinOp.and Go.IntKind.u8 (bt s.2.1 (Int.toNat x4.1)) x4.2) != (0 : Int)) then (bif (decide ((s.1 > (1 : Int)))) then (bif ((true && (Nat.ble (((List.length s.2.2) + (List.length (s.1 :: []))) * 8) 140737488355328)) && (Nat.ble ((List.length s.2.2) + (List.length (s.1 :: []))) 140737488355328)) then (some (.inl ((IntKind.wrap .i64 (s.1 + (1 : Int))), (s.2.1, (s.2.2 ++ (s.1 :: [])))))) else none) else (some (.inl ((IntKind.wrap .i64 (s.1 + (1 : Int))), s.2)))) else (some (.inl ((IntKind.wrap .i64 (s.1 + (1 : Int))), s.2)))) else none)) else (some (.inr s.2)))
theorem bitmap_Read.ti0_ok : ∀ s : Vals bitmap_Read.shi0.tys, turnK P bitmap_Read.H (lp []) (bodyAt (codeOf P 103) 2) 3 bitmap_Read.shi0 bitmap_Read.osi0 s some = bitmap_Read.ti0 s := by rintro ⟨s0, s1, s2⟩; cases s2 <;> kernel_rfl
noncomputable def bitmap_Read.li0 : (Int × (ByteArray × (List Int))) → Option ((ByteArray × (List Int))) := rounds bitmap_Read.ti0
noncomputable abbrev bitmap_Read.L1 : ILp := [(103, 3, [(2, (NodeT.summ ⟨bitmap_Read.shi0, bitmap_Read.osi0, bitmap_Read.li0⟩ 3))])]
theorem bitmap_Read.L1ok : ILpOK P G1 bitmap_Read.L1 := ⟨⟨(loop_sum bitmap_Read.hok (by kernel_rfl) (by kernel_rfl) (l := []) trivial bitmap_Read.shi0 bitmap_Read.osi0 (by kernel_rfl) bitmap_Read.ti0 bitmap_Read.ti0_ok), trivial⟩, trivial⟩
noncomputable abbrev bitmap_Read.H1 : HK := hk P G1 E0 J0 [bitmap_Map.row, bitmap_bit.row] (ilp bitmap_Read.L1) 4
theorem bitmap_Read.hok1 : HKOK P bitmap_Read.H1 := hk_ok e0_ok j0_ok bitmap_Read.rows (fun g n => ilp_ok bitmap_Read.L1ok g n) 4
noncomputable def bitmap_Read.f (a : ByteArray) : Option ((List Int) × (Int × Int)) := (bif (!((ByteArray.toList a) == [])) then (bif (true && (decide (((0 : Int) < (a.size : Int))))) then (bif ((bitsOp Go.BinOp.and Go.IntKind.u8 (bt a 0) (128 : Int)) != (0 : Int)) then (bif (decide (((a.size : Int) < (16 : Int)))) then (some ([], ((0 : Int), (3 : Int)))) else (bif (true && (decide (((16 : Int) ≤ (a.size : Int))))) then (((bitmap_Read.li0 ((1 : Int), ((ByteArray.extract a 0 16), [])))).bind fun (x1 : (ByteArray × (List Int))) => (match x1.2 with | [] => (((bitmap_Map.f [])).bind fun (x2 : (ByteArray × Int)) => (bif (x2.2 != (0 : Int)) then (some ([], ((0 : Int), (4 : Int)))) else (bif (true && (decide (((16 : Int) ≤ (a.size : Int))))) then (bif (!((ByteArray.toList x2.1) == (ByteArray.toList (ByteArray.extract a 0 16)))) then (some ([], ((0 : Int), (4 : Int)))) else (some ([], ((16 : Int), (0 : Int))))) else none))) | x2 :: x3 => (((bitmap_Map.f (x2 :: x3))).bind fun (x4 : (ByteArray × Int)) => (bif (x4.2 != (0 : Int)) then (some ([], ((0 : Int), (4 : Int)))) else (bif (true && (decide (((16 : Int) ≤ (a.size : Int))))) then (bif (!((ByteArray.toList x4.1) == (ByteArray.toList (ByteArray.extract a 0 16)))) then (some ([], ((0 : Int), (4 : Int)))) else (some ((x2 :: x3), ((16 : Int), (0 : Int))))) else none))))) else none)) else (bif (decide (((a.size : Int) < (8 : Int)))) then (some ([], ((0 : Int), (3 : Int)))) else (bif (true && (decide (((8 : Int) ≤ (a.size : Int))))) then (((bitmap_Read.li0 ((1 : Int), ((ByteArray.extract a 0 8), [])))).bind fun (x1 : (ByteArray × (List Int))) => (match x1.2 with | [] => (((bitmap_Map.f [])).bind fun (x2 : (ByteArray × Int)) => (bif (x2.2 != (0 : Int)) then (some ([], ((0 : Int), (4 : Int)))) else (bif (true && (decide (((8 : Int) ≤ (a.size : Int))))) then (bif (!((ByteArray.toList x2.1) == (ByteArray.toList (ByteArray.extract a 0 8)))) then (some ([], ((0 : Int), (4 : Int)))) else (some ([], ((8 : Int), (0 : Int))))) else none))) | x2 :: x3 => (((bitmap_Map.f (x2 :: x3))).bind fun (x4 : (ByteArray × Int)) => (bif (x4.2 != (0 : Int)) then (some ([], ((0 : Int), (4 : Int)))) else (bif (true && (decide (((8 : Int) ≤ (a.size : Int))))) then (bif (!((ByteArray.toList x4.1) == (ByteArray.toList (ByteArray.extract a 0 8)))) then (some ([], ((0 : Int), (4 : Int)))) else (some ((x2 :: x3), ((8 : Int), (0 : Int))))) else none))))) else none))) else none) else (bif (decide (((a.size : Int) < (8 : Int)))) then (some ([], ((0 : Int), (3 : Int)))) else (bif (true && (decide (((8 : Int) ≤ (a.size : Int))))) then (((bitmap_Read.li0 ((1 : Int), ((ByteArray.extract a 0 8), [])))).bind fun (x1 : (ByteArray × (List Int))) => (match x1.2 with | [] => (((bitmap_Map.f [])).bind fun (x2 : (ByteArray × Int)) => (bif (x2.2 != (0 : Int)) then (some ([], ((0 : Int), (4 : Int)))) else (bif (true && (decide (((8 : Int) ≤ (a.size : Int))))) then (bif (!((ByteArray.toList x2.1) == (ByteArray.toList (ByteArray.extract a 0 8)))) then (some ([], ((0 : Int), (4 : Int)))) else (some ([], ((8 : Int), (0 : Int))))) else none))) | x2 :: x3 => (((bitmap_Map.f (x2 :: x3))).bind fun (x4 : (ByteArray × Int)) => (bif (x4.2 != (0 : Int)) then (some ([], ((0 : Int), (4 : Int)))) else (bif (true && (decide (((8 : Int) ≤ (a.size : Int))))) then (bif (!((ByteArray.toList x4.1) == (ByteArray.toList (ByteArray.extract a 0 8)))) then (some ([], ((0 : Int), (4 : Int)))) else (some ((x2 :: x3), ((8 : Int), (0 : Int))))) else none))))) else none)))
theorem bitmap_Read.ok : ∀ a : Vals bitmap_Read.As.tys, fnK P bitmap_Read.H1 (lp []) 31 bitmap_Read.As bitmap_Read.m a some = bitmap_Read.f a := fun a => by kernel_rfl
noncomputable abbrev bitmap_Read.row : Row := fnRow 31 bitmap_Read.As bitmap_Read.m bitmap_Read.f
theorem bitmap_Read.row_ok : RowOK P G1 bitmap_Read.row := row_told bitmap_Read.hok1 (lp_of (l := []) trivial) (fun _ => rfl) bitmap_Read.ok
end Go.Proofs.YtkgnhjmbnmaboaaDoor
end
section
/- The set whose map a text begins with, as the program reads it: plain laws. By this session. -/
set_option linter.unusedVariables false
set_option linter.unusedSimpArgs false
namespace Go.Proofs.YtkgnhjmbnmaboaaDoor
open Go Go.Fw
def bitS (t : List UInt8) (n : Nat) : Bool := bitN (t.getD ((n - 1) / 8) 0).toNat ((n - 1) % 8)
/-- the bits that are 1, but the first one -/
def bitsL (t : List UInt8) (k : Nat) : List Int := (((List.range k).map (· + 1)).filter fun n => decide (1 < n) && bitS t n).map fun (n : Nat) => (n : Int)
theorem bitsL_up (t : List UInt8) (k : Nat) : bitsL t (k + 1) = bitsL t k ++ (bif decide (1 < k + 1) && bitS t (k + 1) then [((k + 1 : Nat) : Int)] else []) := by
  unfold bitsL
  rw [List.range_succ, List.map_append, List.filter_append, List.map_append]
  congr 1
  simp only [List.map_cons, List.map_nil, List.filter_cons, List.filter_nil]
  cases (decide (1 < k + 1) && bitS t (k + 1)) <;> rfl
theorem bitsL_len (t : List UInt8) (k : Nat) : (bitsL t k).length ≤ k := by
  unfold bitsL
  rw [List.length_map]
  refine Nat.le_trans (List.length_filter_le _ _) ?_
  simp
theorem and_is {v k : Nat} (hv : v < 256) (hk : k < 8) : (bitsOp .and .u8 (v : Int) (Int.fdiv 128 (2 ^ (min k 8))) != 0) = bitN v k :=
  eq_of_beq (List.all_eq_true.1 (List.all_eq_true.1 and_all v (List.mem_range.2 hv)) k (List.mem_range.2 hk))
theorem read_rounds {t : List UInt8} (ht : t.length ≤ 16) : bitmap_Read.li0 (1, bs t, []) = some (bs t, bitsL t (8 * t.length)) := by
  have st := rounds_to (t := bitmap_Read.ti0) (fun i => (((i + 1 : Nat) : Int), bs t, bitsL t i)) (8 * t.length) fun i hi => by
    have w : IntKind.wrap .i64 ((8 : Int) * (t.length : Int)) = ((8 * t.length : Nat) : Int) := by rw [wrap_i64 (by omega) (by omega)]; omega
    have hl := bitsL_len t i
    have hv := (t.getD (i / 8) 0).toNat_lt
    have ha := and_is (v := (t.getD (i / 8) 0).toNat) (k := i % 8) (by omega) (by omega)
    have hlt : i / 8 < t.length := by omega
    simp only [bitmap_Read.ti0, bs_size, w, decide_eq_true (show ((i + 1 : Nat) : Int) ≤ ((8 * t.length : Nat) : Int) by omega), cond_true, bit_is (show 1 ≤ i + 1 by omega) (show i + 1 ≤ 1000 by omega), Option.bind_some, Nat.add_sub_cancel, ge0 (i / 8), decide_eq_true (show ((i / 8 : Nat) : Int) < (t.length : Int) by omega), Bool.and_self, Int.toNat_natCast, bt_bs, ha, wrap_up (show i + 1 < 9223372036854775807 by omega), bitsL_up]
    have hbs : bitS t (i + 1) = bitN (t.getD (i / 8) 0).toNat (i % 8) := by unfold bitS; rw [Nat.add_sub_cancel]
    rw [hbs]
    cases hb : bitN (t.getD (i / 8) 0).toNat (i % 8)
    · simp only [cond_false, Bool.and_false, List.append_nil]
    · by_cases h1 : 1 < i + 1
      · rw [decide_eq_true (show ((i + 1 : Nat) : Int) > 1 by omega), decide_eq_true h1, Nat.ble_eq_true_of_le (by simp; omega), Nat.ble_eq_true_of_le (by simp; omega)]
        rfl
      · rw [decide_eq_false (show ¬ ((i + 1 : Nat) : Int) > 1 by omega), decide_eq_false h1]
        simp only [cond_true, cond_false, Bool.false_and, List.append_nil]
  have : bitmap_Read.li0 (1, bs t, []) = rounds bitmap_Read.ti0 (((0 + 1 : Nat) : Int), bs t, bitsL t 0) := rfl
  rw [this, st]
  refine rounds_end ?_
  have w : IntKind.wrap .i64 ((8 : Int) * (t.length : Int)) = ((8 * t.length : Nat) : Int) := by rw [wrap_i64 (by omega) (by omega)]; omega
  simp only [bitmap_Read.ti0, bs_size, w, decide_eq_false (show ¬ ((8 * t.length + 1 : Nat) : Int) ≤ ((8 * t.length : Nat) : Int) by omega), cond_false]
/-- what is read, of so many octets -/
noncomputable def readN (s : List UInt8) (size : Nat) : List Int × Int × Int := bif decide (s.length < size) then ([], 0, 3) else
  bif mayL (bitsL (s.take size) (8 * size)) && decide (octs8 (mapL (bitsL (s.take size) (8 * size))) = s.take size) then (bitsL (s.take size) (8 * size), size, 0) else ([], 0, 4)
def wideS (s : List UInt8) : Bool := decide (0 < s.length) && bitN (s.getD 0 0).toNat 0
noncomputable def readL (s : List UInt8) : List Int × Int × Int := readN s (bif wideS s then 16 else 8)
theorem list_split {A B : Type} (l : List A) (F : List A → B) : (match l with | [] => F [] | x :: y => F (x :: y)) = F l := by cases l <;> rfl
theorem read_is {s : List UInt8} (hs : s.length ≤ 5000) : bitmap_Read.f (bs s) = some (readL s) := by
  have part : ∀ size : Nat, size = 8 ∨ size = 16 → ¬ s.length < size → ((bitmap_Read.li0 (1, bs (s.take size), [])).bind fun (x1 : ByteArray × List Int) => (bitmap_Map.f x1.2).bind fun (x4 : ByteArray × Int) => bif x4.2 != 0 then some (([] : List Int), (0 : Int), (4 : Int)) else (bif !(ByteArray.toList x4.1 == ByteArray.toList (bs (s.take size))) then some ([], 0, 4) else some (x1.2, (size : Int), 0))) = some (readN s size) := fun size h8 hlt => by
    have hl : (s.take size).length = size := by rw [List.length_take]; omega
    have rr := read_rounds (t := s.take size) (by omega)
    rw [hl] at rr
    have hbl := bitsL_len (s.take size) (8 * size)
    rw [rr, Option.bind_some]
    simp only [map_is (l := bitsL (s.take size) (8 * size)) (by omega), Option.bind_some, texts_eq]
    unfold readN
    rw [decide_eq_false hlt, cond_false]
    cases hm : mayL (bitsL (s.take size) (8 * size))
    · rfl
    · simp only [cond_true, Bool.true_and, show ((0 : Int) != 0) = false from rfl, cond_false]
      by_cases he : octs8 (mapL (bitsL (s.take size) (8 * size))) = s.take size
      · rw [decide_eq_true (bs_inj.2 he), decide_eq_true he]; rfl
      · rw [decide_eq_false (fun h => he (bs_inj.1 h)), decide_eq_false he]; rfl
  have cut : ∀ size : Nat, ByteArray.extract (bs s) 0 size = bs (s.take size) := fun size => by rw [bs_extract, List.drop_zero]
  have p8 := part 8 (.inl rfl)
  have p16 := part 16 (.inr rfl)
  have short : ∀ size : Nat, s.length < size → readN s size = ([], 0, 3) := fun size h => by unfold readN; rw [decide_eq_true h]; rfl
  have hwide : 0 < s.length → (bitsOp .and .u8 (((s.getD 0 0).toNat : Nat) : Int) 128 != 0) = wideS s := fun h0 => by
    have hv := (s.getD 0 0).toNat_lt
    have := and_is (v := (s.getD 0 0).toNat) (k := 0) (by omega) (by omega)
    unfold wideS
    rw [decide_eq_true h0, Bool.true_and]
    exact this
  simp only [texts_eq] at p8 p16
  unfold bitmap_Read.f readL
  simp only [bs_size, texts_eq, texts_nil, cut, bt_bs, Bool.true_and]
  have f8 : (bif decide ((s.length : Int) < 8) then some (([] : List Int), (0 : Int), (3 : Int)) else (bif decide ((8 : Int) ≤ (s.length : Int)) then ((bitmap_Read.li0 (1, bs (s.take 8), [])).bind fun (x1 : ByteArray × List Int) => match x1.2 with
      | [] => (bitmap_Map.f []).bind fun (x2 : ByteArray × Int) => bif x2.2 != 0 then some (([] : List Int), (0 : Int), (4 : Int)) else (bif decide ((8 : Int) ≤ (s.length : Int)) then (bif !decide (x2.1 = bs (s.take 8)) then some ([], 0, 4) else some ([], 8, 0)) else none)
      | x2 :: x3 => (bitmap_Map.f (x2 :: x3)).bind fun (x4 : ByteArray × Int) => bif x4.2 != 0 then some ([], 0, 4) else (bif decide ((8 : Int) ≤ (s.length : Int)) then (bif !decide (x4.1 = bs (s.take 8)) then some ([], 0, 4) else some (x2 :: x3, 8, 0)) else none)) else none)) = some (readN s 8) := by
    by_cases hlt : s.length < 8
    · rw [decide_eq_true (show (s.length : Int) < 8 by omega), short 8 hlt]; rfl
    · rw [decide_eq_false (show ¬ (s.length : Int) < 8 by omega)]
      simp only [decide_eq_true (show (8 : Int) ≤ (s.length : Int) by omega), cond_false, cond_true]
      refine (congrArg (Option.bind _) (funext fun x1 => ?_)).trans (p8 hlt)
      obtain ⟨x, l⟩ := x1
      cases l <;> rfl
  have f16 : (bif decide ((s.length : Int) < 16) then some (([] : List Int), (0 : Int), (3 : Int)) else (bif decide ((16 : Int) ≤ (s.length : Int)) then ((bitmap_Read.li0 (1, bs (s.take 16), [])).bind fun (x1 : ByteArray × List Int) => match x1.2 with
      | [] => (bitmap_Map.f []).bind fun (x2 : ByteArray × Int) => bif x2.2 != 0 then some (([] : List Int), (0 : Int), (4 : Int)) else (bif decide ((16 : Int) ≤ (s.length : Int)) then (bif !decide (x2.1 = bs (s.take 16)) then some ([], 0, 4) else some ([], 16, 0)) else none)
      | x2 :: x3 => (bitmap_Map.f (x2 :: x3)).bind fun (x4 : ByteArray × Int) => bif x4.2 != 0 then some ([], 0, 4) else (bif decide ((16 : Int) ≤ (s.length : Int)) then (bif !decide (x4.1 = bs (s.take 16)) then some ([], 0, 4) else some (x2 :: x3, 16, 0)) else none)) else none)) = some (readN s 16) := by
    by_cases hlt : s.length < 16
    · rw [decide_eq_true (show (s.length : Int) < 16 by omega), short 16 hlt]; rfl
    · rw [decide_eq_false (show ¬ (s.length : Int) < 16 by omega)]
      simp only [decide_eq_true (show (16 : Int) ≤ (s.length : Int) by omega), cond_false, cond_true]
      refine (congrArg (Option.bind _) (funext fun x1 => ?_)).trans (p16 hlt)
      obtain ⟨x, l⟩ := x1
      cases l <;> rfl
  by_cases h0 : 0 < s.length
  · have hne : ¬ bs s = bs [] := fun h => by have := bs_inj.1 h; subst this; simp at h0
    rw [decide_eq_false hne]
    simp only [Bool.not_false, cond_true, decide_eq_true (show (0 : Int) < (s.length : Int) by omega), hwide h0]
    cases wideS s
    · exact f8
    · exact f16
  · have : s = [] := List.eq_nil_of_length_eq_zero (by omega)
    subst this
    rw [decide_eq_true rfl]
    exact f8
end Go.Proofs.YtkgnhjmbnmaboaaDoor
end
section
/- The Go function bursarlaw17.awake, as a Lean function, and that it is this one. Written by a program of this session. -/
set_option linter.unusedVariables false
set_option maxRecDepth 100000
namespace Go.Proofs.YtkgnhjmbnmaboaaDoor
open Go Go.Fw
abbrev bursarlaw17_awake.As : Shs := .nil
abbrev bursarlaw17_awake.m : Back := [(false, .b)]
noncomputable abbrev bursarlaw17_awake.H : HK := hk P G1 E0 J0 [bitmap_Read.row, bitmap_Map.row] noLoops 4
theorem bursarlaw17_awake.rows : TabOK P G1 (tabF [bitmap_Read.row, bitmap_Map.row]) := rows_ok (ws := [bitmap_Read.row, bitmap_Map.row]) ⟨bitmap_Read.row_ok, ⟨bitmap_Map.row_ok, trivial⟩⟩
theorem bursarlaw17_awake.hok : HKOK P bursarlaw17_awake.H := hk_ok e0_ok j0_ok bursarlaw17_awake.rows (fun g n => noLoops_ok g n) 4
noncomputable def bursarlaw17_awake.f (a : Unit) : Option Bool := (((bitmap_Map.f [(2 : Int), (4 : Int)])).bind fun (x0 : (ByteArray × Int)) => (((bitmap_Map.f [(2 : Int), (70 : Int)])).bind fun (x1 : (ByteArray × Int)) => (((bitmap_Read.f (bs [255, 255, 255, 255, 255, 255, 255, 255, 255, 255, 255, 255, 255, 255, 255, 255]))).bind fun (x2 : ((List Int) × (Int × Int))) => (bif ((ByteArray.toList x0.1) == [(80 : UInt8), (0 : UInt8), (0 : UInt8), (0 : UInt8), (0 : UInt8), (0 : UInt8), (0 : UInt8), (0 : UInt8)]) then (bif (x0.2 == (0 : Int)) then (bif ((x1.1.size : Int) == (16 : Int)) then (bif (true && (decide (((0 : Int) < (x1.1.size : Int))))) then (bif ((bt x1.1 0) == (192 : Int)) then (bif (x1.2 == (0 : Int)) then (some (x2.2.2 == (4 : Int))) else (some false)) else (some false)) else none) else (some false)) else (some false)) else (some false)))))
theorem bursarlaw17_awake.ok : ∀ a : Vals bursarlaw17_awake.As.tys, fnK P bursarlaw17_awake.H (lp []) 35 bursarlaw17_awake.As bursarlaw17_awake.m a some = bursarlaw17_awake.f a := fun a => by kernel_rfl
noncomputable abbrev bursarlaw17_awake.row : Row := fnRow 35 bursarlaw17_awake.As bursarlaw17_awake.m bursarlaw17_awake.f
theorem bursarlaw17_awake.row_ok : RowOK P G1 bursarlaw17_awake.row := row_told bursarlaw17_awake.hok (lp_of (l := []) trivial) (fun _ => rfl) bursarlaw17_awake.ok
end Go.Proofs.YtkgnhjmbnmaboaaDoor
end
section
/- The Go function bursarref17.Same, as a Lean function, and that it is this one. Written by a program of this session. -/
set_option linter.unusedVariables false
set_option maxRecDepth 100000
namespace Go.Proofs.YtkgnhjmbnmaboaaDoor
open Go Go.Fw
abbrev bursarref17_Same.As : Shs := (.cons (.x (.l (.i .i64))) (.cons (.x (.l (.i .i64))) .nil))
abbrev bursarref17_Same.m : Back := [(false, .b)]
noncomputable abbrev bursarref17_Same.H : HK := hk P G0 E0 J0 [] noLoops 4
theorem bursarref17_Same.rows : TabOK P G0 (tabF []) := rows_ok (ws := []) trivial
theorem bursarref17_Same.hok : HKOK P bursarref17_Same.H := hk_ok e0_ok j0_ok bursarref17_Same.rows (fun g n => noLoops_ok g n) 4
noncomputable abbrev bursarref17_Same.sh6 : SSh := ⟨[(0, (.x (.l (.i .i64)))), (1, (.x (.l (.i .i64)))), (5, (.x (.i .i64)))], []⟩
noncomputable abbrev bursarref17_Same.os6 : PEnds := [(.ret, ⟨[(4, (.x .b))], []⟩), ((.exit 0), ⟨[], []⟩)]
noncomputable def bursarref17_Same.t6 (s : ((List Int) × ((List Int) × Int))) : Option (((List Int) × ((List Int) × Int)) ⊕ (Bool ⊕ Unit)) := (bif (decide ((s.2.2 < ((List.length s.1) : Int)))) then (bif ((decide (((0 : Int) ≤ s.2.2))) && (decide ((s.2.2 < ((List.length s.1) : Int))))) then (bif ((decide (((0 : Int) ≤ s.2.2))) && (decide ((s.2.2 < ((List.length s.2.1) : Int))))) then (bif ((List.getD s.1 (Int.toNat s.2.2) (0 : Int)) != (List.getD s.2.1 (Int.toNat s.2.2) (0 : Int))) then (some (.inr (.inl false))) else (some (.inl (s.1, (s.2.1, (IntKind.wrap .i64 (s.2.2 + (1 : Int)))))))) else none) else none) else (some (.inr (.inr ()))))
theorem bursarref17_Same.t6_ok : ∀ s : Vals bursarref17_Same.sh6.tys, turnK P bursarref17_Same.H (lp []) (bodyAt (codeOf P 33) 6) 0 bursarref17_Same.sh6 bursarref17_Same.os6 s some = bursarref17_Same.t6 s := fun s => by kernel_rfl
noncomputable def bursarref17_Same.l6 : ((List Int) × ((List Int) × Int)) → Option (Bool ⊕ Unit) := rounds bursarref17_Same.t6
noncomputable def bursarref17_Same.f (a : ((List Int) × (List Int))) : Option Bool := (bif (((List.length a.1) : Int) != ((List.length a.2) : Int)) then (some false) else (((bursarref17_Same.l6 (a.1, (a.2, (0 : Int))))).bind fun (x2 : (Bool ⊕ PUnit)) => (match x2 with | .inl x3 => (some x3) | .inr x3 => (some true))))
theorem bursarref17_Same.ok : ∀ a : Vals bursarref17_Same.As.tys, fnK P bursarref17_Same.H (lp [(6, (NodeT.summ ⟨bursarref17_Same.sh6, bursarref17_Same.os6, bursarref17_Same.l6⟩ 0))]) 33 bursarref17_Same.As bursarref17_Same.m a some = bursarref17_Same.f a := fun a => by kernel_rfl
noncomputable abbrev bursarref17_Same.row : Row := fnRow 33 bursarref17_Same.As bursarref17_Same.m bursarref17_Same.f
theorem bursarref17_Same.row_ok : RowOK P G0 bursarref17_Same.row := row_told bursarref17_Same.hok (lp_of (l := [(6, (NodeT.summ ⟨bursarref17_Same.sh6, bursarref17_Same.os6, bursarref17_Same.l6⟩ 0))]) ⟨(loop_sum bursarref17_Same.hok (by kernel_rfl) (by kernel_rfl) (l := []) trivial bursarref17_Same.sh6 bursarref17_Same.os6 (by kernel_rfl) bursarref17_Same.t6 bursarref17_Same.t6_ok), trivial⟩) (fun _ => rfl) bursarref17_Same.ok
end Go.Proofs.YtkgnhjmbnmaboaaDoor
end
section
/- The Go function bursarlaw17.few, as a Lean function, and that it is this one. Written by a program of this session. -/
set_option linter.unusedVariables false
set_option maxRecDepth 100000
namespace Go.Proofs.YtkgnhjmbnmaboaaDoor
open Go Go.Fw
abbrev bursarlaw17_few.As : Shs := (.cons (.x .s) .nil)
abbrev bursarlaw17_few.m : Back := [(false, .s)]
noncomputable abbrev bursarlaw17_few.H : HK := hk P G0 E0 J0 [] noLoops 4
theorem bursarlaw17_few.rows : TabOK P G0 (tabF []) := rows_ok (ws := []) trivial
theorem bursarlaw17_few.hok : HKOK P bursarlaw17_few.H := hk_ok e0_ok j0_ok bursarlaw17_few.rows (fun g n => noLoops_ok g n) 4
noncomputable def bursarlaw17_few.f (a : ByteArray) : Option ByteArray := (bif (decide (((a.size : Int) > (30 : Int)))) then (bif (true && (decide (((30 : Int) ≤ (a.size : Int))))) then (some (ByteArray.extract a 0 30)) else none) else (some a))
theorem bursarlaw17_few.ok : ∀ a : Vals bursarlaw17_few.As.tys, fnK P bursarlaw17_few.H (lp []) 30 bursarlaw17_few.As bursarlaw17_few.m a some = bursarlaw17_few.f a := fun a => by kernel_rfl
noncomputable abbrev bursarlaw17_few.row : Row := fnRow 30 bursarlaw17_few.As bursarlaw17_few.m bursarlaw17_few.f
theorem bursarlaw17_few.row_ok : RowOK P G0 bursarlaw17_few.row := row_told bursarlaw17_few.hok (lp_of (l := []) trivial) (fun _ => rfl) bursarlaw17_few.ok
end Go.Proofs.YtkgnhjmbnmaboaaDoor
end
section
/- A set's map is read as it was: plain laws. By this session. -/
set_option linter.unusedVariables false
set_option linter.unusedSimpArgs false
namespace Go.Proofs.YtkgnhjmbnmaboaaDoor
open Go Go.Fw
/-- a rising list is what it has, in order -/
theorem rise_filter : ∀ (k : Nat) (l : List Nat), l.Pairwise (· < ·) → (∀ n ∈ l, n < k) → (List.range k).filter (fun n => decide (n ∈ l)) = l
  | 0, l, hp, h => by
    cases l with
    | nil => rfl
    | cons a l => exact absurd (h a List.mem_cons_self) (by omega)
  | k + 1, l, hp, h => by
    rw [List.range_succ, List.filter_append]
    by_cases hk : k ∈ l
    · obtain ⟨l1, l2, rfl⟩ := List.append_of_mem hk
      have hp' := List.pairwise_append.1 hp
      have h2 : l2 = [] := by
        cases l2 with
        | nil => rfl
        | cons b l2 =>
          have h1 := (List.pairwise_cons.1 hp'.2.1).1 b List.mem_cons_self
          have h2 := h b (by simp)
          omega
      subst h2
      have hlt : ∀ n ∈ l1, n < k := fun n hn => hp'.2.2 n hn k List.mem_cons_self
      have ih := rise_filter k l1 hp'.1 hlt
      have e : (List.range k).filter (fun n => decide (n ∈ l1 ++ [k])) = (List.range k).filter (fun n => decide (n ∈ l1)) := by
        refine List.filter_congr fun n hn => ?_
        have := List.mem_range.1 hn
        rw [decide_eq_decide]
        simp only [List.mem_append, List.mem_singleton]
        constructor
        · rintro (h | h)
          · exact h
          · omega
        · exact .inl
      rw [e, ih]
      congr 1
      simp
    · have ih := rise_filter k l hp fun n hn => by
        have := h n hn
        have : n ≠ k := fun e => hk (e ▸ hn)
        omega
      rw [ih]
      simp [hk]
theorem mayL_pair {l : List Int} (h : mayL l = true) : (l.map Int.toNat).Pairwise (· < ·) := by
  rw [List.pairwise_iff_getElem]
  intro i j hi hj hij
  have hi' : i < l.length := by simpa using hi
  have hj' : j < l.length := by simpa using hj
  have hr := mayL_rise h hij hj'
  rw [getD_at hi', getD_at hj'] at hr
  have := mayL_mem h (List.getElem_mem hi')
  simp only [List.getElem_map]
  omega
theorem toNat_back {l : List Int} (h : ∀ n ∈ l, 0 ≤ n) : (l.map Int.toNat).map (fun (n : Nat) => (n : Int)) = l := by
  rw [List.map_map]
  conv => rhs; rw [← List.map_id l]
  refine List.map_congr_left fun n hn => ?_
  have := h n hn
  simp only [Function.comp, id]
  omega
theorem octs_getD (b : List Nat) (h : okB b) (j : Nat) : ((octs8 b).getD j 0).toNat = b.getD j 0 := by
  have hv := okB_getD h j
  have : (octs8 b).getD j 0 = UInt8.ofNat (b.getD j 0) := by
    unfold octs8
    simp only [List.getD_eq_getElem?_getD, List.getElem?_map]
    cases b[j]? <;> rfl
  rw [this, UInt8.toNat_ofNat']
  omega
theorem bitS_octs (b : List Nat) (h : okB b) (n : Nat) : bitS (octs8 b) n = bitB b n := by
  unfold bitS bitB
  rw [octs_getD b h]
/-- what is read of a set's map is the set -/
theorem bitsL_map {l : List Int} (h : mayL l = true) : bitsL (octs8 (mapL l)) (8 * (mapL l).length) = l := by
  have hk : ∀ n ∈ l, 2 ≤ n ∧ n ≤ 8 * ((mapL l).length : Int) := fun n hn => by
    have h1 := mayL_mem h hn
    have h2 := start_in h n hn
    rw [mapL_len]
    rw [start_len] at h2
    omega
  have h128 : 8 * (mapL l).length ≤ 128 := by rw [mapL_len]; cases wide l <;> simp
  unfold bitsL
  have e : ((List.range (8 * (mapL l).length)).map (· + 1)).filter (fun n => decide (1 < n) && bitS (octs8 (mapL l)) n) = l.map Int.toNat := by
    have r := rise_filter (8 * (mapL l).length + 1) (l.map Int.toNat) (mayL_pair h) fun n hn => by
      obtain ⟨x, hx, rfl⟩ := List.mem_map.1 hn
      have := hk x hx
      omega
    rw [List.range_succ_eq_map, List.filter_cons, if_neg (by
      simp only [decide_eq_true_eq, List.mem_map, not_exists, not_and]
      intro x hx e
      have := hk x hx
      omega)] at r
    rw [← r]
    refine List.filter_congr fun n hn => ?_
    obtain ⟨m, hm, rfl⟩ := List.mem_map.1 hn
    have hm := List.mem_range.1 hm
    rw [bitS_octs _ (mapL_ok l), mapL_bit h (by omega) (by omega), Bool.eq_iff_iff]
    simp only [Bool.and_eq_true, Bool.or_eq_true, decide_eq_true_eq, List.mem_map]
    constructor
    · rintro ⟨h1, h2 | ⟨_, h2⟩⟩
      · exact ⟨_, h2, by simp⟩
      · omega
    · rintro ⟨x, hx, e⟩
      have := hk x hx
      have hx' : x = ((m + 1 : Nat) : Int) := by
        have : x.toNat = m + 1 := e
        omega
      subst hx'
      exact ⟨by omega, .inl hx⟩
  rw [e, toNat_back fun n hn => by have := hk n hn; omega]
theorem octs_len (b : List Nat) : (octs8 b).length = b.length := List.length_map ..
theorem octs_inj {l m : List Int} (hl : mayL l = true) (hm : mayL m = true) : octs8 (mapL l) = octs8 (mapL m) ↔ l = m := by
  constructor
  · intro h
    have h1 := bitsL_map hl
    have h2 := bitsL_map hm
    have e : (mapL l).length = (mapL m).length := by rw [← octs_len, ← octs_len, h]
    rw [← h1, ← h2, h, e]
  · intro h; rw [h]
theorem wideS_map {l : List Int} (h : mayL l = true) (b : List UInt8) : wideS (octs8 (mapL l) ++ b) = wide l := by
  have hpos : 0 < (octs8 (mapL l)).length := by rw [octs_len, mapL_len]; cases wide l <;> simp
  have hb := mapL_bit h (n := 1) (by omega) (by omega)
  have h1 : decide (((1 : Nat) : Int) ∈ l) = false := decide_eq_false fun hn => by have := mayL_mem h hn; omega
  rw [h1, Bool.false_or, decide_eq_true rfl, Bool.and_true] at hb
  unfold wideS
  rw [decide_eq_true (by rw [List.length_append]; omega), Bool.true_and]
  have : (octs8 (mapL l) ++ b).getD 0 0 = (octs8 (mapL l)).getD 0 0 := by
    rw [List.getD_eq_getElem?_getD, List.getElem?_append_left hpos, ← List.getD_eq_getElem?_getD]
  rw [this, octs_getD _ (mapL_ok l), ← hb]
  rfl
theorem read_map {l : List Int} (h : mayL l = true) (b : List UInt8) : readL (octs8 (mapL l) ++ b) = (l, ((octs8 (mapL l)).length : Int), 0) := by
  have hl : (octs8 (mapL l)).length = bif wide l then 16 else 8 := by rw [octs_len, mapL_len]
  have hl2 : (mapL l).length = bif wide l then 16 else 8 := mapL_len l
  unfold readL
  rw [wideS_map h b, ← hl]
  unfold readN
  rw [decide_eq_false (by rw [List.length_append]; omega), cond_false, List.take_left, octs_len, bitsL_map h, h, decide_eq_true rfl]
  rfl
theorem same_is {l m : List Int} (hl : l.length ≤ 1000) (hm : m.length ≤ 1000) : bursarref17_Same.f (l, m) = some (decide (l = m)) := by
  unfold bursarref17_Same.f
  by_cases he : l.length = m.length
  · have e : (((l.length : Nat) : Int) != ((m.length : Nat) : Int)) = false := by rw [he]; simp
    have hr : bursarref17_Same.l6 (l, m, 0) = some (bif (List.range l.length).all (fun i => l.getD i 0 == m.getD i 0) then .inr () else .inl false) := by
      refine rounds_all (t := bursarref17_Same.t6) (fun i => (l, m, (i : Int))) (fun i => l.getD i 0 == m.getD i 0) (.inl false) (.inr ()) l.length (fun i hi => ?_) ?_
      · simp only [bursarref17_Same.t6, decide_eq_true (show (i : Int) < (l.length : Int) by omega), decide_eq_true (show (i : Int) < (m.length : Int) by omega), ge0 i, Bool.and_self, cond_true, Int.toNat_natCast, wrap_up (show i < 9223372036854775807 by omega), bne]
        cases (l.getD i 0 == m.getD i 0) <;> rfl
      · simp [bursarref17_Same.t6]
    simp only [e, cond_false, hr, Option.bind_some]
    have ha : (List.range l.length).all (fun i => l.getD i 0 == m.getD i 0) = decide (l = m) := by
      rw [Bool.eq_iff_iff, List.all_eq_true, decide_eq_true_eq]
      constructor
      · intro h
        refine List.ext_getElem he fun i h1 h2 => ?_
        have := eq_of_beq (h i (List.mem_range.2 h1))
        rwa [getD_at h1, getD_at h2] at this
      · rintro rfl i _; exact beq_self_eq_true _
    rw [ha]
    cases decide (l = m) <;> rfl
  · have e : (((l.length : Nat) : Int) != ((m.length : Nat) : Int)) = true := by
      simp only [bne_iff_ne, ne_eq]; omega
    rw [e, decide_eq_false (fun h => he (by rw [h]))]
    rfl
theorem few17 (s : ByteArray) : ∃ l : List UInt8, l.length ≤ 30 ∧ bursarlaw17_few.f s = some (bs l) := by
  rw [eq_bs s]
  unfold bursarlaw17_few.f
  simp only [bs_size]
  by_cases h : s.data.toList.length > 30
  · rw [decide_eq_true (show (s.data.toList.length : Int) > 30 by omega), decide_eq_true (show (30 : Int) ≤ (s.data.toList.length : Int) by omega)]
    refine ⟨s.data.toList.take 30, by simp; omega, ?_⟩
    simp [bs_extract]
  · rw [decide_eq_false (show ¬ (s.data.toList.length : Int) > 30 by omega)]
    exact ⟨_, by omega, rfl⟩
theorem aw1 : mayL [2, 4] = true ∧ octs8 (mapL [2, 4]) = [80, 0, 0, 0, 0, 0, 0, 0] := ⟨by kernel_rfl, by kernel_rfl⟩
theorem aw2 : mayL [2, 70] = true ∧ octs8 (mapL [2, 70]) = [192, 0, 0, 0, 0, 0, 0, 0, 4, 0, 0, 0, 0, 0, 0, 0] := ⟨by kernel_rfl, by kernel_rfl⟩
theorem aw3 : (readL [255, 255, 255, 255, 255, 255, 255, 255, 255, 255, 255, 255, 255, 255, 255, 255]).2.2 = 4 := by kernel_rfl
theorem awake17 : bursarlaw17_awake.f () = some true := by
  unfold bursarlaw17_awake.f
  have m1 := map_is (l := [2, 4]) (by simp)
  have m2 := map_is (l := [2, 70]) (by simp)
  rw [aw1.1, aw1.2, cond_true] at m1
  rw [aw2.1, aw2.2, cond_true] at m2
  rw [m1, Option.bind_some, m2, Option.bind_some, read_is (by simp), Option.bind_some, aw3]
  simp only [texts_eq, bs_toList, bs_size, bt_bs, decide_true]
  rfl
end Go.Proofs.YtkgnhjmbnmaboaaDoor
end
section
/- Maps of sets: no two sets have the same, none is the beginning of another; each is the document's, and is read as it was. By this session. -/
set_option linter.unusedVariables false
set_option linter.unusedSimpArgs false
namespace Go.Proofs.YtkgnhjmbnmaboaaDoor
open Go Go.Fw
theorem octs_size {l : List Int} : (octs8 (mapL l)).length = bif wide l then 16 else 8 := by rw [octs_len, mapL_len]
/-- no map is the beginning of another one -/
theorem map_apart {l m : List Int} (hl : mayL l = true) (hm : mayL m = true) (hne : l ≠ m) : (octs8 (mapL m)).take (octs8 (mapL l)).length ≠ octs8 (mapL l) := by
  intro h
  have hb := congrArg wideS h
  have w1 := wideS_map hl []
  have w2 := wideS_map hm []
  rw [List.append_nil] at w1 w2
  have e : wideS ((octs8 (mapL m)).take (octs8 (mapL l)).length) = wideS (octs8 (mapL m)) := by
    have p1 : 0 < (octs8 (mapL l)).length := by rw [octs_size]; cases wide l <;> simp
    have p2 : 0 < (octs8 (mapL m)).length := by rw [octs_size]; cases wide m <;> simp
    unfold wideS
    rw [List.length_take, decide_eq_true (by omega), decide_eq_true p2, List.getD_eq_getElem?_getD, List.getElem?_take, if_pos p1, ← List.getD_eq_getElem?_getD]
  rw [e, w1, w2] at hb
  have hlen : (octs8 (mapL l)).length = (octs8 (mapL m)).length := by rw [octs_size, octs_size, hb]
  rw [hlen, List.take_of_length_le (Nat.le_refl _)] at h
  exact hne ((octs_inj hl hm).1 h.symm)
end Go.Proofs.YtkgnhjmbnmaboaaDoor
end
section
/- The Go function mti.May, as a Lean function, and that it is this one. Written by a program of this session. -/
set_option linter.unusedVariables false
set_option maxRecDepth 100000
namespace Go.Proofs.YtkgnhjmbnmaboaaDoor
open Go Go.Fw
abbrev mti_May.As : Shs := (.cons (.x T_api_Mti) .nil)
abbrev mti_May.m : Back := [(false, .b)]
noncomputable abbrev mti_May.H : HK := hk P G0 E0 J0 [] noLoops 4
theorem mti_May.rows : TabOK P G0 (tabF []) := rows_ok (ws := []) trivial
theorem mti_May.hok : HKOK P mti_May.H := hk_ok e0_ok j0_ok mti_May.rows (fun g n => noLoops_ok g n) 4
noncomputable def mti_May.f (a : (Int × (Bool × (Bool × Bool)))) : Option Bool := (bif (a.1 == (1 : Int)) then (bif (a.1 == (1 : Int)) then (bif (!a.2.2.1) then (some true) else (some (!a.2.2.2))) else (bif (a.1 == (6 : Int)) then (bif (a.1 == (6 : Int)) then (bif a.2.1 then (some false) else (bif (!a.2.2.1) then (some true) else (some (!a.2.2.2)))) else (some false)) else (bif (a.1 == (8 : Int)) then (bif a.2.1 then (some false) else (bif (!a.2.2.1) then (some true) else (some (!a.2.2.2)))) else (some false)))) else (bif (a.1 == (2 : Int)) then (bif (a.1 == (2 : Int)) then (bif (!a.2.2.1) then (some true) else (some (!a.2.2.2))) else (bif (a.1 == (6 : Int)) then (bif (a.1 == (6 : Int)) then (bif a.2.1 then (some false) else (bif (!a.2.2.1) then (some true) else (some (!a.2.2.2)))) else (some false)) else (bif (a.1 == (8 : Int)) then (bif a.2.1 then (some false) else (bif (!a.2.2.1) then (some true) else (some (!a.2.2.2)))) else (some false)))) else (bif (a.1 == (4 : Int)) then (bif (a.1 == (4 : Int)) then (bif (!a.2.2.1) then (some true) else (some (!a.2.2.2))) else (bif (a.1 == (6 : Int)) then (bif (a.1 == (6 : Int)) then (bif a.2.1 then (some false) else (bif (!a.2.2.1) then (some true) else (some (!a.2.2.2)))) else (some false)) else (bif (a.1 == (8 : Int)) then (bif a.2.1 then (some false) else (bif (!a.2.2.1) then (some true) else (some (!a.2.2.2)))) else (some false)))) else (bif (a.1 == (5 : Int)) then (bif (!a.2.2.1) then (some true) else (some (!a.2.2.2))) else (bif (a.1 == (6 : Int)) then (bif (a.1 == (6 : Int)) then (bif a.2.1 then (some false) else (bif (!a.2.2.1) then (some true) else (some (!a.2.2.2)))) else (some false)) else (bif (a.1 == (8 : Int)) then (bif a.2.1 then (some false) else (bif (!a.2.2.1) then (some true) else (some (!a.2.2.2)))) else (some false)))))))
theorem mti_May.ok : ∀ a : Vals mti_May.As.tys, fnK P mti_May.H (lp []) 126 mti_May.As mti_May.m a some = mti_May.f a := fun a => by kernel_rfl
noncomputable abbrev mti_May.row : Row := fnRow 126 mti_May.As mti_May.m mti_May.f
theorem mti_May.row_ok : RowOK P G0 mti_May.row := row_told mti_May.hok (lp_of (l := []) trivial) (fun _ => rfl) mti_May.ok
end Go.Proofs.YtkgnhjmbnmaboaaDoor
end
section
/- The Go function mti.bits, as a Lean function, and that it is this one. Written by a program of this session. -/
set_option linter.unusedVariables false
set_option maxRecDepth 100000
namespace Go.Proofs.YtkgnhjmbnmaboaaDoor
open Go Go.Fw
abbrev mti_bits.As : Shs := (.cons (.x (.l .b)) .nil)
abbrev mti_bits.m : Back := [(false, (.i .i64))]
noncomputable abbrev mti_bits.H : HK := hk P G0 E0 J0 [] noLoops 4
theorem mti_bits.rows : TabOK P G0 (tabF []) := rows_ok (ws := []) trivial
theorem mti_bits.hok : HKOK P mti_bits.H := hk_ok e0_ok j0_ok mti_bits.rows (fun g n => noLoops_ok g n) 4
noncomputable abbrev mti_bits.sh4 : SSh := ⟨[(3, (.x (.i .i64))), (6, (.x (.l .b))), (7, (.x (.i .i64))), (8, (.x (.i .i64)))], []⟩
noncomputable abbrev mti_bits.os4 : PEnds := [((.exit 0), ⟨[(3, (.x (.i .i64)))], []⟩)]
noncomputable def mti_bits.t4 (s : (Int × ((List Bool) × (Int × Int)))) : Option ((Int × ((List Bool) × (Int × Int))) ⊕ (Int)) := (bif (decide ((s.2.2.2 < s.2.2.1))) then (bif ((decide (((0 : Int) ≤ s.2.2.2))) && (decide ((s.2.2.2 < ((List.length s.2.1) : Int))))) then (bif (List.getD s.2.1 (Int.toNat s.2.2.2) false) then (bif (decide ((s.2.2.2 < (0 : Int)))) then none else (some (.inl ((bitsOp Go.BinOp.or Go.IntKind.i64 s.1 (IntKind.wrap .i64 ((1 : Int) * ((2 : Int) ^ (Min.min (Int.toNat s.2.2.2) 64))))), (s.2.1, (s.2.2.1, (IntKind.wrap .i64 (s.2.2.2 + (1 : Int))))))))) else (some (.inl (s.1, (s.2.1, (s.2.2.1, (IntKind.wrap .i64 (s.2.2.2 + (1 : Int))))))))) else none) else (some (.inr s.1)))
theorem mti_bits.t4_ok : ∀ s : Vals mti_bits.sh4.tys, turnK P mti_bits.H (lp []) (bodyAt (codeOf P 156) 4) 0 mti_bits.sh4 mti_bits.os4 s some = mti_bits.t4 s := fun s => by kernel_rfl
noncomputable def mti_bits.l4 : (Int × ((List Bool) × (Int × Int))) → Option (Int) := rounds mti_bits.t4
noncomputable def mti_bits.f (a : (List Bool)) : Option Int := (((mti_bits.l4 ((0 : Int), (a, (((List.length a) : Int), (0 : Int)))))).bind fun (x1 : Int) => (some x1))
theorem mti_bits.ok : ∀ a : Vals mti_bits.As.tys, fnK P mti_bits.H (lp [(4, (NodeT.summ ⟨mti_bits.sh4, mti_bits.os4, mti_bits.l4⟩ 0))]) 156 mti_bits.As mti_bits.m a some = mti_bits.f a := fun a => by kernel_rfl
noncomputable abbrev mti_bits.row : Row := fnRow 156 mti_bits.As mti_bits.m mti_bits.f
theorem mti_bits.row_ok : RowOK P G0 mti_bits.row := row_told mti_bits.hok (lp_of (l := [(4, (NodeT.summ ⟨mti_bits.sh4, mti_bits.os4, mti_bits.l4⟩ 0))]) ⟨(loop_sum mti_bits.hok (by kernel_rfl) (by kernel_rfl) (l := []) trivial mti_bits.sh4 mti_bits.os4 (by kernel_rfl) mti_bits.t4 mti_bits.t4_ok), trivial⟩) (fun _ => rfl) mti_bits.ok
end Go.Proofs.YtkgnhjmbnmaboaaDoor
end
section
/- The Go function mti.text, as a Lean function, and that it is this one. Written by a program of this session. -/
set_option linter.unusedVariables false
set_option maxRecDepth 100000
namespace Go.Proofs.YtkgnhjmbnmaboaaDoor
open Go Go.Fw
abbrev mti_text.As : Shs := (.cons (.x T_api_Mti) .nil)
abbrev mti_text.m : Back := [(false, .s)]
noncomputable abbrev mti_text.H : HK := hk P G0 E0 J0 [mti_bits.row] noLoops 4
theorem mti_text.rows : TabOK P G0 (tabF [mti_bits.row]) := rows_ok (ws := [mti_bits.row]) ⟨mti_bits.row_ok, trivial⟩
theorem mti_text.hok : HKOK P mti_text.H := hk_ok e0_ok j0_ok mti_text.rows (fun g n => noLoops_ok g n) 4
noncomputable def mti_text.f (a : (Int × (Bool × (Bool × Bool)))) : Option ByteArray := (((mti_bits.f (a.2.2.1 :: (a.2.1 :: [])))).bind fun (x1 : Int) => (((mti_bits.f (a.2.2.2 :: []))).bind fun (x2 : Int) => (some (ByteArray.mk (List.toArray (List.map (fun y3 => (UInt8.ofNat (Int.toNat y3))) ((48 : Int) :: ((IntKind.wrap .u8 (IntKind.wrap .i64 ((48 : Int) + a.1))) :: ((IntKind.wrap .u8 (IntKind.wrap .i64 ((48 : Int) + x1))) :: ((IntKind.wrap .u8 (IntKind.wrap .i64 ((48 : Int) + x2))) :: []))))))))))
theorem mti_text.ok : ∀ a : Vals mti_text.As.tys, fnK P mti_text.H (lp []) 127 mti_text.As mti_text.m a some = mti_text.f a := fun a => by kernel_rfl
noncomputable abbrev mti_text.row : Row := fnRow 127 mti_text.As mti_text.m mti_text.f
theorem mti_text.row_ok : RowOK P G0 mti_text.row := row_told mti_text.hok (lp_of (l := []) trivial) (fun _ => rfl) mti_text.ok
end Go.Proofs.YtkgnhjmbnmaboaaDoor
end
section
/- The Go function mti.Parse, as a Lean function, and that it is this one. Written by a program of this session. -/
set_option linter.unusedVariables false
set_option maxRecDepth 100000
namespace Go.Proofs.YtkgnhjmbnmaboaaDoor
open Go Go.Fw
abbrev mti_Parse.As : Shs := (.cons (.x .s) .nil)
abbrev mti_Parse.m : Back := [(false, T_api_Mti), (false, (.i .i64))]
noncomputable abbrev mti_Parse.H : HK := hk P G0 E0 J0 [mti_May.row, mti_text.row] noLoops 4
theorem mti_Parse.rows : TabOK P G0 (tabF [mti_May.row, mti_text.row]) := rows_ok (ws := [mti_May.row, mti_text.row]) ⟨mti_May.row_ok, ⟨mti_text.row_ok, trivial⟩⟩
theorem mti_Parse.hok : HKOK P mti_Parse.H := hk_ok e0_ok j0_ok mti_Parse.rows (fun g n => noLoops_ok g n) 4
noncomputable def mti_Parse.f (a : ByteArray) : Option ((Int × (Bool × (Bool × Bool))) × Int) := (bif ((a.size : Int) != (4 : Int)) then (some (((0 : Int), (false, (false, false))), (17 : Int))) else (bif (true && (decide (((2 : Int) < (a.size : Int))))) then (bif (true && (decide (((1 : Int) < (a.size : Int))))) then (bif (true && (decide (((3 : Int) < (a.size : Int))))) then (((mti_May.f ((IntKind.wrap .i64 (IntKind.wrap .u8 ((bt a 1) - (48 : Int)))), (((bitsOp Go.BinOp.and Go.IntKind.u8 (IntKind.wrap .u8 ((bt a 2) - (48 : Int))) (2 : Int)) != (0 : Int)), (((bitsOp Go.BinOp.and Go.IntKind.u8 (IntKind.wrap .u8 ((bt a 2) - (48 : Int))) (1 : Int)) != (0 : Int)), ((bt a 3) == (49 : Int))))))).bind fun (x1 : Bool) => (bif (!x1) then (some (((0 : Int), (false, (false, false))), (17 : Int))) else (((mti_text.f ((IntKind.wrap .i64 (IntKind.wrap .u8 ((bt a 1) - (48 : Int)))), (((bitsOp Go.BinOp.and Go.IntKind.u8 (IntKind.wrap .u8 ((bt a 2) - (48 : Int))) (2 : Int)) != (0 : Int)), (((bitsOp Go.BinOp.and Go.IntKind.u8 (IntKind.wrap .u8 ((bt a 2) - (48 : Int))) (1 : Int)) != (0 : Int)), ((bt a 3) == (49 : Int))))))).bind fun (x2 : ByteArray) => (bif (!((ByteArray.toList x2) == (ByteArray.toList a))) then (some (((0 : Int), (false, (false, false))), (17 : Int))) else (some (((IntKind.wrap .i64 (IntKind.wrap .u8 ((bt a 1) - (48 : Int)))), (((bitsOp Go.BinOp.and Go.IntKind.u8 (IntKind.wrap .u8 ((bt a 2) - (48 : Int))) (2 : Int)) != (0 : Int)), (((bitsOp Go.BinOp.and Go.IntKind.u8 (IntKind.wrap .u8 ((bt a 2) - (48 : Int))) (1 : Int)) != (0 : Int)), ((bt a 3) == (49 : Int))))), (0 : Int))))))) else none) else none) else none))
theorem mti_Parse.ok : ∀ a : Vals mti_Parse.As.tys, fnK P mti_Parse.H (lp []) 105 mti_Parse.As mti_Parse.m a some = mti_Parse.f a := fun a => by kernel_rfl
noncomputable abbrev mti_Parse.row : Row := fnRow 105 mti_Parse.As mti_Parse.m mti_Parse.f
theorem mti_Parse.row_ok : RowOK P G0 mti_Parse.row := row_told mti_Parse.hok (lp_of (l := []) trivial) (fun _ => rfl) mti_Parse.ok
end Go.Proofs.YtkgnhjmbnmaboaaDoor
end
section
/- Messages' types: what the code and the document's answer compute. By this session. -/
set_option linter.unusedVariables false
set_option linter.unusedSimpArgs false
namespace Go.Proofs.YtkgnhjmbnmaboaaDoor
open Go Go.Fw
/-- a type of messages as the code has it: class, advice, answers, again -/
abbrev M := Int × (Bool × (Bool × Bool))
def mayM (m : M) : Bool := ((m.1 == 1 || m.1 == 2 || m.1 == 4 || m.1 == 5) || ((m.1 == 6 || m.1 == 8) && !m.2.1)) && (!m.2.2.1 || !m.2.2.2)
theorem May_is (m : M) : mti_May.f m = some (mayM m) := by
  obtain ⟨c, a, b, d⟩ := m
  simp only [mti_May.f, mayM]
  by_cases h1 : c = 1
  · subst h1; cases a <;> cases b <;> cases d <;> rfl
  by_cases h2 : c = 2
  · subst h2; cases a <;> cases b <;> cases d <;> rfl
  by_cases h4 : c = 4
  · subst h4; cases a <;> cases b <;> cases d <;> rfl
  by_cases h5 : c = 5
  · subst h5; cases a <;> cases b <;> cases d <;> rfl
  by_cases h6 : c = 6
  · subst h6; cases a <;> cases b <;> cases d <;> rfl
  by_cases h8 : c = 8
  · subst h8; cases a <;> cases b <;> cases d <;> rfl
  have e1 : (c == 1) = false := by simp [h1]
  have e2 : (c == 2) = false := by simp [h2]
  have e4 : (c == 4) = false := by simp [h4]
  have e5 : (c == 5) = false := by simp [h5]
  have e6 : (c == 6) = false := by simp [h6]
  have e8 : (c == 8) = false := by simp [h8]
  simp only [e1, e2, e4, e5, e6, e8]
  rfl
def bI (b : Bool) : Int := bif b then 1 else 0
theorem bits1 (a : Bool) : mti_bits.f [a] = some (bI a) := by
  unfold mti_bits.f mti_bits.l4
  have h1 : mti_bits.t4 (0, ([a], (((List.length [a] : Nat) : Int), 0))) = some (.inl (bI a, ([a], (((List.length [a] : Nat) : Int), 1)))) := by cases a <;> decide +kernel
  have h2 : mti_bits.t4 (bI a, ([a], (((List.length [a] : Nat) : Int), 1))) = some (.inr (bI a)) := by cases a <;> decide +kernel
  rw [rounds_next h1, rounds_end h2]; rfl
theorem bits2 (a b : Bool) : mti_bits.f [a, b] = some (bI a + 2 * bI b) := by
  unfold mti_bits.f mti_bits.l4
  have h1 : mti_bits.t4 (0, ([a, b], (((List.length [a, b] : Nat) : Int), 0))) = some (.inl (bI a, ([a, b], (((List.length [a, b] : Nat) : Int), 1)))) := by cases a <;> cases b <;> decide +kernel
  have h2 : mti_bits.t4 (bI a, ([a, b], (((List.length [a, b] : Nat) : Int), 1))) = some (.inl (bI a + 2 * bI b, ([a, b], (((List.length [a, b] : Nat) : Int), 2)))) := by cases a <;> cases b <;> decide +kernel
  have h3 : mti_bits.t4 (bI a + 2 * bI b, ([a, b], (((List.length [a, b] : Nat) : Int), 2))) = some (.inr (bI a + 2 * bI b)) := by cases a <;> cases b <;> decide +kernel
  rw [rounds_next h1, rounds_next h2, rounds_end h3]; rfl
/-- the digits of a type -/
def textM (m : M) : ByteArray := ByteArray.mk (List.toArray (List.map (fun y => UInt8.ofNat (Int.toNat y)) [48, IntKind.wrap .u8 (IntKind.wrap .i64 (48 + m.1)), IntKind.wrap .u8 (IntKind.wrap .i64 (48 + (bI m.2.2.1 + 2 * bI m.2.1))), IntKind.wrap .u8 (IntKind.wrap .i64 (48 + bI m.2.2.2))]))
theorem text_M (m : M) : mti_text.f m = some (textM m) := by
  unfold mti_text.f
  rw [bits2, bits1]; rfl
end Go.Proofs.YtkgnhjmbnmaboaaDoor
end
section
/- All types of messages, and whose digits any text is: what the code and the document's answer compute. By this session. -/
set_option linter.unusedVariables false
set_option linter.unusedSimpArgs false
namespace Go.Proofs.YtkgnhjmbnmaboaaDoor
open Go Go.Fw
def allT : List ByteArray := [bs [48, 49, 48, 48], bs [48, 49, 48, 49], bs [48, 49, 49, 48], bs [48, 49, 50, 48], bs [48, 49, 50, 49], bs [48, 49, 51, 48], bs [48, 50, 48, 48], bs [48, 50, 48, 49], bs [48, 50, 49, 48], bs [48, 50, 50, 48], bs [48, 50, 50, 49], bs [48, 50, 51, 48], bs [48, 52, 48, 48], bs [48, 52, 48, 49], bs [48, 52, 49, 48], bs [48, 52, 50, 48], bs [48, 52, 50, 49], bs [48, 52, 51, 48], bs [48, 53, 48, 48], bs [48, 53, 48, 49], bs [48, 53, 49, 48], bs [48, 53, 50, 48], bs [48, 53, 50, 49], bs [48, 53, 51, 48], bs [48, 54, 48, 48], bs [48, 54, 48, 49], bs [48, 54, 49, 48], bs [48, 56, 48, 48], bs [48, 56, 48, 49], bs [48, 56, 49, 48]]
def allM : List M := [(1, (false, (false, false))), (1, (false, (false, true))), (1, (false, (true, false))), (1, (true, (false, false))), (1, (true, (false, true))), (1, (true, (true, false))), (2, (false, (false, false))), (2, (false, (false, true))), (2, (false, (true, false))), (2, (true, (false, false))), (2, (true, (false, true))), (2, (true, (true, false))), (4, (false, (false, false))), (4, (false, (false, true))), (4, (false, (true, false))), (4, (true, (false, false))), (4, (true, (false, true))), (4, (true, (true, false))), (5, (false, (false, false))), (5, (false, (false, true))), (5, (false, (true, false))), (5, (true, (false, false))), (5, (true, (false, true))), (5, (true, (true, false))), (6, (false, (false, false))), (6, (false, (false, true))), (6, (false, (true, false))), (8, (false, (false, false))), (8, (false, (false, true))), (8, (false, (true, false)))]
def m0 : M := (0, (false, (false, false)))
def tAt (i : Nat) : ByteArray := allT.getD i (bs [])
def mAt (i : Nat) : M := allM.getD i m0
/-- the first of them -/
def firstI (p : Nat → Bool) : Option Nat := (List.range 30).find? p
theorem firstI_some {p : Nat → Bool} {i : Nat} (h : firstI p = some i) : i < 30 ∧ p i = true := by
  unfold firstI at h
  exact ⟨List.mem_range.1 (List.mem_of_find?_eq_some h), List.find?_some h⟩
theorem firstI_none {p : Nat → Bool} (h : firstI p = none) : ∀ i, i < 30 → p i = false := by
  unfold firstI at h
  intro i hi
  have := List.find?_eq_none.1 h i (List.mem_range.2 hi)
  simpa using this
theorem rounds_find {S R : Type} {t : S → Option (S ⊕ R)} (st : Nat → S) (p : Nat → Bool) (out : Nat → R) (fin : R) (h : ∀ i, i < 30 → p i = false → t (st i) = some (.inl (st (i + 1)))) (hp : ∀ i, i < 30 → p i = true → t (st i) = some (.inr (out i))) (hf : t (st 30) = some (.inr fin)) :
    rounds t (st 0) = some (match firstI p with | some i => out i | none => fin) := by
  have go : ∀ k, k ≤ 30 → rounds t (st 0) = match (List.range k).find? p with | some i => some (out i) | none => rounds t (st k) := by
    intro k
    induction k with
    | zero => intro _; rfl
    | succ k ih =>
      intro hk
      rw [ih (by omega), List.range_succ, List.find?_append]
      cases (List.range k).find? p with
      | some i => rfl
      | none =>
        cases hx : p k with
        | false => simp [hx, rounds_next (h k (by omega) hx)]
        | true => simp [hx, rounds_end (hp k (by omega) hx)]
  rw [go 30 (Nat.le_refl _), rounds_end hf]
  unfold firstI
  cases (List.range 30).find? p <;> rfl
theorem text_at : ∀ i, i < 30 → textM (mAt i) = tAt i := by decide +kernel
theorem may_at : ∀ i, i < 30 → mayM (mAt i) = true := by decide +kernel
theorem may_in (m : M) (h : mayM m = true) : ∃ i, i < 30 ∧ mAt i = m := by
  obtain ⟨c, a, b, d⟩ := m
  have hc : c = 1 ∨ c = 2 ∨ c = 4 ∨ c = 5 ∨ c = 6 ∨ c = 8 := by
    simp only [mayM, Bool.and_eq_true, Bool.or_eq_true, beq_iff_eq] at h
    omega
  rcases hc with rfl | rfl | rfl | rfl | rfl | rfl <;> cases a <;> cases b <;> cases d <;> first | (cases h; done) | decide +kernel
/-! ### the document's answer -/
def whose (s : ByteArray) : Option Nat := firstI fun i => decide (tAt i = s)
theorem whose_at : ∀ i, i < 30 → whose (tAt i) = some i := by decide +kernel
def index (m : M) : Option Nat := firstI fun i => decide (mAt i = m)
/-! ### the code -/
def decM (s : ByteArray) : M := (IntKind.wrap .i64 (IntKind.wrap .u8 (bt s 1 - 48)), ((bitsOp .and .u8 (IntKind.wrap .u8 (bt s 2 - 48)) 2 != 0), ((bitsOp .and .u8 (IntKind.wrap .u8 (bt s 2 - 48)) 1 != 0), (bt s 3 == 49))))
theorem dec_at : ∀ i, i < 30 → (tAt i).size = 4 ∧ decM (tAt i) = mAt i := by decide +kernel
theorem mtiParse_is (s : ByteArray) : mti_Parse.f s = some (match whose s with | some i => (mAt i, 0) | none => (m0, 17)) := by
  have key : mti_Parse.f s = bif decide (s.size = 4) then (bif mayM (decM s) && decide (textM (decM s) = s) then some (decM s, 0) else some (m0, 17)) else some (m0, 17) := by
    unfold mti_Parse.f
    by_cases h4 : s.size = 4
    · have d0 : ((s.size : Int) != 4) = false := by simp; omega
      have d1 : decide ((1 : Int) < (s.size : Int)) = true := decide_eq_true (by omega)
      have d2 : decide ((2 : Int) < (s.size : Int)) = true := decide_eq_true (by omega)
      have d3 : decide ((3 : Int) < (s.size : Int)) = true := decide_eq_true (by omega)
      have em : mti_May.f (decM s) = some (mayM (decM s)) := May_is _
      have et : mti_text.f (decM s) = some (textM (decM s)) := text_M _
      unfold decM at em et
      simp only [d0, d1, d2, d3, em, et, decide_eq_true h4, texts_eq, Bool.and_self, cond_true, cond_false, Option.bind_some]
      unfold decM m0
      cases mayM _ with
      | false => rfl
      | true =>
        simp only [Bool.not_true, cond_false, Bool.true_and]
        cases decide (textM _ = s) <;> rfl
    · have d0 : ((s.size : Int) != 4) = true := by simp; omega
      rw [d0, decide_eq_false h4]; rfl
  rw [key]
  cases hx : whose s with
  | some i =>
    obtain ⟨hi, hp⟩ := firstI_some hx
    have e : tAt i = s := of_decide_eq_true hp
    subst e
    obtain ⟨h4, hd⟩ := dec_at i hi
    rw [decide_eq_true h4, hd, may_at i hi, text_at i hi, decide_eq_true rfl]; rfl
  | none =>
    have hn := firstI_none hx
    cases decide (s.size = 4) with
    | false => rfl
    | true =>
      cases hm : mayM (decM s) with
      | false => rfl
      | true =>
        obtain ⟨i, hi, e⟩ := may_in _ hm
        have ht := text_at i hi
        have h1 := hn i hi
        have : decide (textM (decM s) = s) = false := by
          rw [← e, ht]; exact h1
        rw [this]; rfl
end Go.Proofs.YtkgnhjmbnmaboaaDoor
end
section
/- The Go function iso.numbers, as a Lean function, and that it is this one. Written by a program of this session. -/
set_option linter.unusedVariables false
set_option maxRecDepth 100000
namespace Go.Proofs.YtkgnhjmbnmaboaaDoor
open Go Go.Fw
abbrev iso_numbers.As : Shs := (.cons (.x (.l (.g (.p (.i .i64) .s)))) .nil)
abbrev iso_numbers.m : Back := [(false, (.l (.i .i64)))]
noncomputable abbrev iso_numbers.H : HK := hk P G0 E0 J0 [] noLoops 4
theorem iso_numbers.rows : TabOK P G0 (tabF []) := rows_ok (ws := []) trivial
theorem iso_numbers.hok : HKOK P iso_numbers.H := hk_ok e0_ok j0_ok iso_numbers.rows (fun g n => noLoops_ok g n) 4
noncomputable abbrev iso_numbers.sh4 : SSh := ⟨[(3, (.own 0 1)), (6, (.x (.l (.g (.p (.i .i64) .s))))), (7, (.x (.i .i64))), (8, (.x (.i .i64)))], [.arrN (.i .i64)]⟩
noncomputable abbrev iso_numbers.os4 : PEnds := [((.exit 0), ⟨[(3, (.x (.l (.i .i64))))], []⟩)]
noncomputable def iso_numbers.t4 (s : ((List (Int × ByteArray)) × (Int × (Int × (List Int))))) : Option (((List (Int × ByteArray)) × (Int × (Int × (List Int)))) ⊕ ((List Int))) := (bif (decide ((s.2.2.1 < s.2.1))) then (bif ((decide (((0 : Int) ≤ s.2.2.1))) && (decide ((s.2.2.1 < ((List.length s.1) : Int))))) then (bif ((true && (Nat.ble (((List.length s.2.2.2) + (List.length ((List.getD s.1 (Int.toNat s.2.2.1) (Ty.dflt T_api_Account)).1 :: []))) * 8) 140737488355328)) && (Nat.ble ((List.length s.2.2.2) + (List.length ((List.getD s.1 (Int.toNat s.2.2.1) (Ty.dflt T_api_Account)).1 :: []))) 140737488355328)) then (some (.inl (s.1, (s.2.1, ((IntKind.wrap .i64 (s.2.2.1 + (1 : Int))), (s.2.2.2 ++ ((List.getD s.1 (Int.toNat s.2.2.1) (Ty.dflt T_api_Account)).1 :: []))))))) else none) else none) else (some (.inr s.2.2.2)))
theorem iso_numbers.t4_ok : ∀ s : Vals iso_numbers.sh4.tys, turnK P iso_numbers.H (lp []) (bodyAt (codeOf P 106) 4) 0 iso_numbers.sh4 iso_numbers.os4 s some = iso_numbers.t4 s := by rintro ⟨s0, s1, s2, s3⟩; cases s3 <;> kernel_rfl
noncomputable def iso_numbers.l4 : ((List (Int × ByteArray)) × (Int × (Int × (List Int)))) → Option ((List Int)) := rounds iso_numbers.t4
noncomputable def iso_numbers.f (a : (List (Int × ByteArray))) : Option (List Int) := (((iso_numbers.l4 (a, (((List.length a) : Int), ((0 : Int), []))))).bind fun (x1 : (List Int)) => (some x1))
theorem iso_numbers.ok : ∀ a : Vals iso_numbers.As.tys, fnK P iso_numbers.H (lp [(4, (NodeT.summ ⟨iso_numbers.sh4, iso_numbers.os4, iso_numbers.l4⟩ 0))]) 106 iso_numbers.As iso_numbers.m a some = iso_numbers.f a := fun a => by kernel_rfl
noncomputable abbrev iso_numbers.row : Row := fnRow 106 iso_numbers.As iso_numbers.m iso_numbers.f
theorem iso_numbers.row_ok : RowOK P G0 iso_numbers.row := row_told iso_numbers.hok (lp_of (l := [(4, (NodeT.summ ⟨iso_numbers.sh4, iso_numbers.os4, iso_numbers.l4⟩ 0))]) ⟨(loop_sum iso_numbers.hok (by kernel_rfl) (by kernel_rfl) (l := []) trivial iso_numbers.sh4 iso_numbers.os4 (by kernel_rfl) iso_numbers.t4 iso_numbers.t4_ok), trivial⟩) (fun _ => rfl) iso_numbers.ok
end Go.Proofs.YtkgnhjmbnmaboaaDoor
end
section
/- The Go function iso.pack, as a Lean function, and that it is this one. Written by a program of this session. -/
set_option linter.unusedVariables false
set_option maxRecDepth 100000
namespace Go.Proofs.YtkgnhjmbnmaboaaDoor
open Go Go.Fw
abbrev iso_pack.As : Shs := (.cons (.x T_api_Message) .nil)
abbrev iso_pack.m : Back := [(false, .s), (false, (.i .i64))]
noncomputable abbrev iso_pack.H : HK := hk P G1 E0 J0 [bitmap_Map.row, spec_Pack.row, mti_Parse.row, iso_numbers.row] noLoops 4
theorem iso_pack.rows : TabOK P G1 (tabF [bitmap_Map.row, spec_Pack.row, mti_Parse.row, iso_numbers.row]) := rows_ok (ws := [bitmap_Map.row, spec_Pack.row, mti_Parse.row, iso_numbers.row]) ⟨bitmap_Map.row_ok, ⟨spec_Pack.row_ok, ⟨(mti_Parse.row_ok.more g01), ⟨(iso_numbers.row_ok.more g01), trivial⟩⟩⟩⟩
theorem iso_pack.hok : HKOK P iso_pack.H := hk_ok e0_ok j0_ok iso_pack.rows (fun g n => noLoops_ok g n) 4
noncomputable abbrev iso_pack.sh12 : SSh := ⟨[(8, (.x .s)), (36, (.x (.l (.g (.p (.i .i64) .s))))), (37, (.x (.i .i64))), (38, (.x (.i .i64)))], []⟩
noncomputable abbrev iso_pack.os12 : PEnds := [(.ret, ⟨[(2, (.x .s)), (3, (.x (.i .i64)))], []⟩), ((.exit 0), ⟨[(8, (.x .s))], []⟩)]
noncomputable def iso_pack.t12 (s : (ByteArray × ((List (Int × ByteArray)) × (Int × Int)))) : Option ((ByteArray × ((List (Int × ByteArray)) × (Int × Int))) ⊕ ((ByteArray × Int) ⊕ ByteArray)) := (bif (decide ((s.2.2.2 < s.2.2.1))) then (bif ((decide (((0 : Int) ≤ s.2.2.2))) && (decide ((s.2.2.2 < ((List.length s.2.1) : Int))))) then (((spec_Pack.f (List.getD s.2.1 (Int.toNat s.2.2.2) (Ty.dflt T_api_Account)))).bind fun (x4 : (ByteArray × Int)) => (bif (x4.2 != (0 : Int)) then (some (.inr (.inl ((bs []), (16 : Int))))) else (bif (Nat.ble (s.1.size + x4.1.size) 9223372036854775807) then (some (.inl ((s.1 ++ x4.1), (s.2.1, (s.2.2.1, (IntKind.wrap .i64 (s.2.2.2 + (1 : Int)))))))) else none))) else none) else (some (.inr (.inr s.1))))
theorem iso_pack.t12_ok : ∀ s : Vals iso_pack.sh12.tys, turnK P iso_pack.H (lp []) (bodyAt (codeOf P 78) 12) 0 iso_pack.sh12 iso_pack.os12 s some = iso_pack.t12 s := fun s => by kernel_rfl
noncomputable def iso_pack.l12 : (ByteArray × ((List (Int × ByteArray)) × (Int × Int))) → Option ((ByteArray × Int) ⊕ ByteArray) := rounds iso_pack.t12
noncomputable def iso_pack.f (a : (ByteArray × (List (Int × ByteArray)))) : Option (ByteArray × Int) := (((mti_Parse.f a.1)).bind fun (x1 : ((Int × (Bool × (Bool × Bool))) × Int)) => (bif (x1.2 != (0 : Int)) then (some ((bs []), x1.2)) else (((iso_numbers.f a.2)).bind fun (x2 : (List Int)) => (((bitmap_Map.f x2)).bind fun (x3 : (ByteArray × Int)) => (bif (x3.2 != (0 : Int)) then (some ((bs []), (16 : Int))) else (bif (Nat.ble (a.1.size + x3.1.size) 9223372036854775807) then (((iso_pack.l12 ((a.1 ++ x3.1), (a.2, (((List.length a.2) : Int), (0 : Int)))))).bind fun (x4 : ((ByteArray × Int) ⊕ ByteArray)) => (match x4 with | .inl x5 => (some x5) | .inr x5 => (some (x5, (0 : Int))))) else none))))))
theorem iso_pack.ok : ∀ a : Vals iso_pack.As.tys, fnK P iso_pack.H (lp [(12, (NodeT.summ ⟨iso_pack.sh12, iso_pack.os12, iso_pack.l12⟩ 0))]) 78 iso_pack.As iso_pack.m a some = iso_pack.f a := fun a => by kernel_rfl
noncomputable abbrev iso_pack.row : Row := fnRow 78 iso_pack.As iso_pack.m iso_pack.f
theorem iso_pack.row_ok : RowOK P G1 iso_pack.row := row_told iso_pack.hok (lp_of (l := [(12, (NodeT.summ ⟨iso_pack.sh12, iso_pack.os12, iso_pack.l12⟩ 0))]) ⟨(loop_sum iso_pack.hok (by kernel_rfl) (by kernel_rfl) (l := []) trivial iso_pack.sh12 iso_pack.os12 (by kernel_rfl) iso_pack.t12 iso_pack.t12_ok), trivial⟩) (fun _ => rfl) iso_pack.ok
end Go.Proofs.YtkgnhjmbnmaboaaDoor
end
section
/- The Go function iso.Pack, as a Lean function, and that it is this one. Written by a program of this session. -/
set_option linter.unusedVariables false
set_option maxRecDepth 100000
namespace Go.Proofs.YtkgnhjmbnmaboaaDoor
open Go Go.Fw
abbrev iso_Pack.As : Shs := (.cons (.x T_api_Message) .nil)
abbrev iso_Pack.m : Back := [(false, .s), (false, (.i .i64))]
noncomputable abbrev iso_Pack.H : HK := hk P G1 E0 J0 [iso_pack.row] noLoops 4
theorem iso_Pack.rows : TabOK P G1 (tabF [iso_pack.row]) := rows_ok (ws := [iso_pack.row]) ⟨iso_pack.row_ok, trivial⟩
theorem iso_Pack.hok : HKOK P iso_Pack.H := hk_ok e0_ok j0_ok iso_Pack.rows (fun g n => noLoops_ok g n) 4
noncomputable def iso_Pack.f (a : (ByteArray × (List (Int × ByteArray)))) : Option (ByteArray × Int) := (((iso_pack.f a)).bind fun (x1 : (ByteArray × Int)) => (bif (x1.2 == (0 : Int)) then (bif (decide (((x1.1.size : Int) > (4000 : Int)))) then (some ((bs []), (9 : Int))) else (some x1)) else (some x1)))
theorem iso_Pack.ok : ∀ a : Vals iso_Pack.As.tys, fnK P iso_Pack.H (lp []) 39 iso_Pack.As iso_Pack.m a some = iso_Pack.f a := fun a => by kernel_rfl
noncomputable abbrev iso_Pack.row : Row := fnRow 39 iso_Pack.As iso_Pack.m iso_Pack.f
theorem iso_Pack.row_ok : RowOK P G1 iso_Pack.row := row_told iso_Pack.hok (lp_of (l := []) trivial) (fun _ => rfl) iso_Pack.ok
end Go.Proofs.YtkgnhjmbnmaboaaDoor
end
section
/- The Go function iso.Parse, as a Lean function, and that it is this one. Written by a program of this session. -/
set_option linter.unusedVariables false
set_option maxRecDepth 100000
namespace Go.Proofs.YtkgnhjmbnmaboaaDoor
open Go Go.Fw
abbrev iso_Parse.As : Shs := (.cons (.x .s) .nil)
abbrev iso_Parse.m : Back := [(false, T_api_Message), (false, (.i .i64))]
noncomputable abbrev iso_Parse.H : HK := hk P G1 E0 J0 [bitmap_Read.row, spec_Take.row, mti_Parse.row] noLoops 4
theorem iso_Parse.rows : TabOK P G1 (tabF [bitmap_Read.row, spec_Take.row, mti_Parse.row]) := rows_ok (ws := [bitmap_Read.row, spec_Take.row, mti_Parse.row]) ⟨bitmap_Read.row_ok, ⟨spec_Take.row_ok, ⟨(mti_Parse.row_ok.more g01), trivial⟩⟩⟩
theorem iso_Parse.hok : HKOK P iso_Parse.H := hk_ok e0_ok j0_ok iso_Parse.rows (fun g n => noLoops_ok g n) 4
noncomputable abbrev iso_Parse.sh20 : SSh := ⟨[(2, (.pt 0 0)), (4, (.pt 1 0)), (10, (.x .s)), (54, (.x (.l (.i .i64)))), (55, (.x (.i .i64))), (56, (.x (.i .i64)))], [.box (.cons (.x .s) (.cons (.own 2 2) .nil)), .box (.cons (.x .s) (.cons (.own 3 2) .nil)), .arrN T_api_Account, .arrN T_api_Account]⟩
noncomputable abbrev iso_Parse.os20 : PEnds := [(.ret, ⟨[(2, (.pt 0 0)), (3, (.x (.i .i64)))], [.box (.cons (.x .s) (.cons (.own 1 2) .nil)), .arrN T_api_Account]⟩), ((.exit 1), ⟨[(2, (.pt 0 0)), (4, (.pt 1 0)), (10, (.x .s))], [.box (.cons (.x .s) (.cons (.own 2 2) .nil)), .box (.cons (.x .s) (.cons (.own 3 2) .nil)), .arrN T_api_Account, .arrN T_api_Account]⟩)]
noncomputable def iso_Parse.t20 (s : (ByteArray × ((List Int) × (Int × (Int × (ByteArray × (ByteArray × ((List (Int × ByteArray)) × (List (Int × ByteArray)))))))))) : Option ((ByteArray × ((List Int) × (Int × (Int × (ByteArray × (ByteArray × ((List (Int × ByteArray)) × (List (Int × ByteArray))))))))) ⊕ ((Int × (ByteArray × (List (Int × ByteArray)))) ⊕ (ByteArray × (ByteArray × (ByteArray × ((List (Int × ByteArray)) × (List (Int × ByteArray)))))))) := (bif (decide ((s.2.2.2.1 < s.2.2.1))) then (bif ((decide (((0 : Int) ≤ s.2.2.2.1))) && (decide ((s.2.2.2.1 < ((List.length s.2.1) : Int))))) then (((spec_Take.f ((List.getD s.2.1 (Int.toNat s.2.2.2.1) (0 : Int)), s.1))).bind fun (x10 : (ByteArray × (Int × Int))) => (bif (x10.2.2 != (0 : Int)) then (some (.inr (.inl (x10.2.2, ((bs []), []))))) else (bif ((true && (Nat.ble (((List.length s.2.2.2.2.2.2.2) + (List.length (((List.getD s.2.1 (Int.toNat s.2.2.2.1) (0 : Int)), x10.1) :: []))) * 24) 140737488355328)) && (Nat.ble ((List.length s.2.2.2.2.2.2.2) + (List.length (((List.getD s.2.1 (Int.toNat s.2.2.2.1) (0 : Int)), x10.1) :: []))) 140737488355328)) then (bif ((decide (((0 : Int) ≤ x10.2.1))) && (decide ((x10.2.1 ≤ (s.1.size : Int))))) then (some (.inl ((ByteArray.extract s.1 (Int.toNat x10.2.1) s.1.size), (s.2.1, (s.2.2.1, ((IntKind.wrap .i64 (s.2.2.2.1 + (1 : Int))), (s.2.2.2.2.1, (s.2.2.2.2.2.1, (s.2.2.2.2.2.2.1, (s.2.2.2.2.2.2.2 ++ (((List.getD s.2.1 (Int.toNat s.2.2.2.1) (0 : Int)), x10.1) :: []))))))))))) else none) else none))) else none) else (some (.inr (.inr (s.1, s.2.2.2.2)))))
theorem iso_Parse.t20_ok : ∀ s : Vals iso_Parse.sh20.tys, turnK P iso_Parse.H (lp []) (bodyAt (codeOf P 79) 20) 0 iso_Parse.sh20 iso_Parse.os20 s some = iso_Parse.t20 s := by rintro ⟨s0, s1, s2, s3, s4, s5, s6, s7⟩; cases s6 <;> cases s7 <;> kernel_rfl
noncomputable def iso_Parse.l20 : (ByteArray × ((List Int) × (Int × (Int × (ByteArray × (ByteArray × ((List (Int × ByteArray)) × (List (Int × ByteArray))))))))) → Option ((Int × (ByteArray × (List (Int × ByteArray)))) ⊕ (ByteArray × (ByteArray × (ByteArray × ((List (Int × ByteArray)) × (List (Int × ByteArray))))))) := rounds iso_Parse.t20
noncomputable def iso_Parse.f (a : ByteArray) : Option ((ByteArray × (List (Int × ByteArray))) × Int) := (bif (decide (((a.size : Int) > (4000 : Int)))) then (some (((bs []), []), (9 : Int))) else (bif (decide (((a.size : Int) < (4 : Int)))) then (some (((bs []), []), (3 : Int))) else (bif (true && (decide (((4 : Int) ≤ (a.size : Int))))) then (((mti_Parse.f (ByteArray.extract a 0 4))).bind fun (x1 : ((Int × (Bool × (Bool × Bool))) × Int)) => (bif (x1.2 != (0 : Int)) then (some (((bs []), []), x1.2)) else (bif (true && (decide (((4 : Int) ≤ (a.size : Int))))) then (((bitmap_Read.f (ByteArray.extract a 4 a.size))).bind fun (x2 : ((List Int) × (Int × Int))) => (bif (x2.2.2 != (0 : Int)) then (some (((bs []), []), x2.2.2)) else (bif ((decide (((0 : Int) ≤ (IntKind.wrap .i64 ((4 : Int) + x2.2.1))))) && (decide (((IntKind.wrap .i64 ((4 : Int) + x2.2.1)) ≤ (a.size : Int))))) then (((iso_Parse.l20 ((ByteArray.extract a (Int.toNat (IntKind.wrap .i64 ((4 : Int) + x2.2.1))) a.size), (x2.1, (((List.length x2.1) : Int), ((0 : Int), ((bs []), ((ByteArray.extract a 0 4), ([], []))))))))).bind fun (x3 : ((Int × (ByteArray × (List (Int × ByteArray)))) ⊕ (ByteArray × (ByteArray × (ByteArray × ((List (Int × ByteArray)) × (List (Int × ByteArray)))))))) => (match x3 with | .inl x4 => (match x4.2.2 with | [] => (some ((x4.2.1, []), x4.1)) | x5 :: x6 => (some ((x4.2.1, (x5 :: x6)), x4.1))) | .inr x4 => (match x4.2.2.2.1 with | [] => (match x4.2.2.2.2 with | [] => (bif (!((ByteArray.toList x4.1) == [])) then (some (((bs []), []), (4 : Int))) else (some ((x4.2.2.1, []), (0 : Int)))) | x5 :: x6 => (bif (!((ByteArray.toList x4.1) == [])) then (some (((bs []), []), (4 : Int))) else (some ((x4.2.2.1, (x5 :: x6)), (0 : Int))))) | x5 :: x6 => (match x4.2.2.2.2 with | [] => (bif (!((ByteArray.toList x4.1) == [])) then (some (((bs []), []), (4 : Int))) else (some ((x4.2.2.1, []), (0 : Int)))) | x7 :: x8 => (bif (!((ByteArray.toList x4.1) == [])) then (some (((bs []), []), (4 : Int))) else (some ((x4.2.2.1, (x7 :: x8)), (0 : Int)))))))) else none))) else none))) else none)))
theorem iso_Parse.ok : ∀ a : Vals iso_Parse.As.tys, fnK P iso_Parse.H (lp [(20, (NodeT.summ ⟨iso_Parse.sh20, iso_Parse.os20, iso_Parse.l20⟩ 0))]) 79 iso_Parse.As iso_Parse.m a some = iso_Parse.f a := fun a => by kernel_rfl
noncomputable abbrev iso_Parse.row : Row := fnRow 79 iso_Parse.As iso_Parse.m iso_Parse.f
theorem iso_Parse.row_ok : RowOK P G1 iso_Parse.row := row_told iso_Parse.hok (lp_of (l := [(20, (NodeT.summ ⟨iso_Parse.sh20, iso_Parse.os20, iso_Parse.l20⟩ 0))]) ⟨(loop_sum iso_Parse.hok (by kernel_rfl) (by kernel_rfl) (l := []) trivial iso_Parse.sh20 iso_Parse.os20 (by kernel_rfl) iso_Parse.t20 iso_Parse.t20_ok), trivial⟩) (fun _ => rfl) iso_Parse.ok
end Go.Proofs.YtkgnhjmbnmaboaaDoor
end
section
/- The Go function bursarref19.Same, as a Lean function, and that it is this one. Written by a program of this session. -/
set_option linter.unusedVariables false
set_option maxRecDepth 100000
namespace Go.Proofs.YtkgnhjmbnmaboaaDoor
open Go Go.Fw
abbrev bursarref19_Same.As : Shs := (.cons (.x T_api_Message) (.cons (.x T_api_Message) .nil))
abbrev bursarref19_Same.m : Back := [(false, .b)]
noncomputable abbrev bursarref19_Same.H : HK := hk P G0 E0 J0 [] noLoops 4
theorem bursarref19_Same.rows : TabOK P G0 (tabF []) := rows_ok (ws := []) trivial
theorem bursarref19_Same.hok : HKOK P bursarref19_Same.H := hk_ok e0_ok j0_ok bursarref19_Same.rows (fun g n => noLoops_ok g n) 4
noncomputable abbrev bursarref19_Same.sh6 : SSh := ⟨[(2, (.pt 0 0)), (3, (.pt 1 0)), (5, (.x (.i .i64)))], [.box (.cons (.x .s) (.cons (.x (.l (.g (.p (.i .i64) .s)))) .nil)), .box (.cons (.x .s) (.cons (.x (.l (.g (.p (.i .i64) .s)))) .nil))]⟩
noncomputable abbrev bursarref19_Same.os6 : PEnds := [(.ret, ⟨[(4, (.x .b))], []⟩), ((.exit 0), ⟨[], []⟩)]
noncomputable def bursarref19_Same.t6 (s : (Int × (ByteArray × ((List (Int × ByteArray)) × (ByteArray × (List (Int × ByteArray))))))) : Option ((Int × (ByteArray × ((List (Int × ByteArray)) × (ByteArray × (List (Int × ByteArray)))))) ⊕ (Bool ⊕ Unit)) := (bif (decide ((s.1 < ((List.length s.2.2.1) : Int)))) then (bif ((decide (((0 : Int) ≤ s.1))) && (decide ((s.1 < ((List.length s.2.2.1) : Int))))) then (bif ((decide (((0 : Int) ≤ s.1))) && (decide ((s.1 < ((List.length s.2.2.2.2) : Int))))) then (bif (!(((List.getD s.2.2.1 (Int.toNat s.1) (Ty.dflt T_api_Account)).1 == (List.getD s.2.2.2.2 (Int.toNat s.1) (Ty.dflt T_api_Account)).1) && (((ByteArray.toList (List.getD s.2.2.1 (Int.toNat s.1) (Ty.dflt T_api_Account)).2) == (ByteArray.toList (List.getD s.2.2.2.2 (Int.toNat s.1) (Ty.dflt T_api_Account)).2)) && true))) then (some (.inr (.inl false))) else (some (.inl ((IntKind.wrap .i64 (s.1 + (1 : Int))), s.2)))) else none) else none) else (some (.inr (.inr ()))))
theorem bursarref19_Same.t6_ok : ∀ s : Vals bursarref19_Same.sh6.tys, turnK P bursarref19_Same.H (lp []) (bodyAt (codeOf P 80) 6) 0 bursarref19_Same.sh6 bursarref19_Same.os6 s some = bursarref19_Same.t6 s := fun s => by kernel_rfl
noncomputable def bursarref19_Same.l6 : (Int × (ByteArray × ((List (Int × ByteArray)) × (ByteArray × (List (Int × ByteArray)))))) → Option (Bool ⊕ Unit) := rounds bursarref19_Same.t6
noncomputable def bursarref19_Same.f (a : ((ByteArray × (List (Int × ByteArray))) × (ByteArray × (List (Int × ByteArray))))) : Option Bool := (bif (!((ByteArray.toList a.1.1) == (ByteArray.toList a.2.1))) then (some false) else (bif (((List.length a.1.2) : Int) != ((List.length a.2.2) : Int)) then (some false) else (((bursarref19_Same.l6 ((0 : Int), (a.1.1, (a.1.2, a.2))))).bind fun (x2 : (Bool ⊕ PUnit)) => (match x2 with | .inl x3 => (some x3) | .inr x3 => (some true)))))
theorem bursarref19_Same.ok : ∀ a : Vals bursarref19_Same.As.tys, fnK P bursarref19_Same.H (lp [(6, (NodeT.summ ⟨bursarref19_Same.sh6, bursarref19_Same.os6, bursarref19_Same.l6⟩ 0))]) 80 bursarref19_Same.As bursarref19_Same.m a some = bursarref19_Same.f a := fun a => by kernel_rfl
noncomputable abbrev bursarref19_Same.row : Row := fnRow 80 bursarref19_Same.As bursarref19_Same.m bursarref19_Same.f
theorem bursarref19_Same.row_ok : RowOK P G0 bursarref19_Same.row := row_told bursarref19_Same.hok (lp_of (l := [(6, (NodeT.summ ⟨bursarref19_Same.sh6, bursarref19_Same.os6, bursarref19_Same.l6⟩ 0))]) ⟨(loop_sum bursarref19_Same.hok (by kernel_rfl) (by kernel_rfl) (l := []) trivial bursarref19_Same.sh6 bursarref19_Same.os6 (by kernel_rfl) bursarref19_Same.t6 bursarref19_Same.t6_ok), trivial⟩) (fun _ => rfl) bursarref19_Same.ok
end Go.Proofs.YtkgnhjmbnmaboaaDoor
end
