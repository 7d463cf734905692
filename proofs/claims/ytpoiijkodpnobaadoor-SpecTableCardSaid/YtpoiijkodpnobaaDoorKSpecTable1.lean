/- Part 5 of what the proof of this statement stands on: What each field is is as the document says, and there are no others. -/
import Derived.WalkKit
import Derived.ProofKit
import Derived.OpenShut
import Derived.ShutString
import Derived.ChangeOld
import Derived.Carry
import Derived.Below
import Derived.SizedLaws
import Derived.Laws.Strings
import Derived.Lib.Bytealg
import Derived.Lib.ParseIntB
import Derived.Lib.ItoaNum
import Derived.Test.YtpoiijkodpnobaaDoorProg
import Derived.KernelRfl
import Derived.Laws.Externs
import Derived.Deep.Draws
import Derived.Shelf.Strings.Fields
import Derived.Shelf.Strconv.ErrVarAll
import Derived.Test.YtpoiijkodpnobaaDoorW4
section
/- A law's call, from its arguments as they may be read: it returns true, and what was handed in reads as it did. By this session. -/
set_option linter.unusedVariables false
set_option linter.unusedSimpArgs false
namespace Go.Fw
open Go.ChangeShapes Go.WideShapes Go.ChangeAt Go.RowKit
/-- are these types of the program these of plain data? -/
def okTys (P : Program) : List TypeId → List Ty → Bool
  | [], [] => true
  | t :: ts, T :: Ts => okTy P 40 t T && (P.readableRec t && (decide (t < P.types.size) && okTys P ts Ts))
  | _, _ => false
def FitAll : (Ts : List Ty) → Vals Ts → Prop
  | [], _ => True
  | [T], x => T.fit x
  | T :: T' :: Ts, x => T.fit x.1 ∧ FitAll (T' :: Ts) x.2
section
variable {P : Program} {H : Type} {enc : TypeId × Value → H} {W : World} {base : Nat}
theorem read_all : ∀ {ts : List TypeId} {Ts : List Ty} {vs : List Value} {ds : List (DataW H)} {ps : List MemPlace}, okTys P ts Ts = true → DataW.TrodAll enc P W 0 (fun _ => true) true ts vs ds ps →
    (∀ (j : Nat) t v, ts[j]? = some t → vs[j]? = some v → Value.okWide P W .any base t v) →
    ∃ a : Vals Ts, FitAll Ts a ∧ ds.length = ts.length ∧ vs.length = (elts Ts a).length ∧ (∀ (j : Nat) (d : D), (elts Ts a)[j]? = some d → ∃ v, vs[j]? = some v ∧ RelD W (fun b => b < W.heap.size) d v)
  | [], [], vs, ds, ps, hk, h, hv => by
    obtain ⟨rfl, rfl, rfl⟩ := trodAll_nil h
    exact ⟨(), trivial, rfl, rfl, fun j d hd => by simp [elts] at hd⟩
  | [], _ :: _, vs, ds, ps, hk, h, hv => by simp [okTys] at hk
  | _ :: _, [], vs, ds, ps, hk, h, hv => by simp [okTys] at hk
  | t :: ts, T :: Ts, vs, ds, ps, hk, h, hv => by
    simp only [okTys, Bool.and_eq_true] at hk
    obtain ⟨hk, _, _, hks⟩ := hk
    obtain ⟨v, vs', d, ds', p, q, rfl, rfl, rfl, h0, h1⟩ := trodAll_cons h
    obtain ⟨y, hy, hr⟩ := read_arg hk (hv 0 t v rfl rfl) h0
    obtain ⟨a, ha, hl, hls, hrs⟩ := read_all hks h1 fun j t v ht hj => hv (j + 1) t v ht hj
    cases Ts with
    | nil =>
      cases ts with
      | cons => simp [okTys] at hks
      | nil =>
        obtain ⟨rfl, rfl, rfl⟩ := trodAll_nil h1
        refine ⟨y, hy, rfl, rfl, fun j d hd => ?_⟩
        cases j with
        | zero => simp [elts] at hd; subst hd; exact ⟨v, rfl, hr⟩
        | succ j => simp [elts] at hd
    | cons T' Ts =>
      refine ⟨(y, a), ⟨hy, ha⟩, by simp [hl], by simp [elts, hls], fun j d hd => ?_⟩
      cases j with
      | zero => simp [elts] at hd; subst hd; exact ⟨v, rfl, hr⟩
      | succ j => simp only [elts, List.getElem?_cons_succ] at hd; exact hrs j d hd
theorem trod_back (hl : laidOutB P = true) {W' : World} (hb : Below W.heap.size W W') : ∀ {ts : List TypeId} {Ts : List Ty} {vs : List Value} {ds : List (DataW H)} {ps : List MemPlace}, okTys P ts Ts = true → DataW.TrodAll enc P W 0 (fun _ => true) true ts vs ds ps →
    DataW.TrodAll enc P W' 0 (fun b => decide (b < W.heap.size)) true ts vs ds ps
  | [], [], vs, ds, ps, hk, h => by
    obtain ⟨rfl, rfl, rfl⟩ := trodAll_nil h
    exact trodAll_mk0
  | [], _ :: _, vs, ds, ps, hk, h => by simp [okTys] at hk
  | _ :: _, [], vs, ds, ps, hk, h => by simp [okTys] at hk
  | t :: ts, T :: Ts, vs, ds, ps, hk, h => by
    simp only [okTys, Bool.and_eq_true, decide_eq_true_eq] at hk
    obtain ⟨hk, hrr, hsz, hks⟩ := hk
    obtain ⟨v, vs', d, ds', p, q, rfl, rfl, rfl, h0, h1⟩ := trodAll_cons h
    have lt : ∀ x ∈ p, x.block < W.heap.size := by
      obtain ⟨m, hm⟩ := h0
      exact DataW.trod_lt m _ _ _ hm
    exact trodAll_cons_mk (Below.trod hl hrr hsz h0 hb lt) (trod_back hl hb hks h1)
/-- a law's call -/
theorem law_call {G : Nat → Option (List D)} {fn : Func} {g : FuncId} {As : Shs} {F : Vals As.tys → Option Bool} {s : ChangeSpec} {tb : TypeId} (hl : laidOutB P = true)
    (hok : RowOK P G (fnRow g As [(false, .b)] F)) (hgl : Glob ⟨W, fun b => b < W.heap.size, fun _ => False, fun _ => 0, fun _ => 0, G⟩) (hty : okTys P fn.params.toList As.tys = true) (hdec : ∀ a : Vals As.tys, decArgs As (elts As.tys a) = some a)
    (hres : fn.resultTypes = #[tb]) (htb : P.underlying tb = some .bool) (hvars : s.vars = []) (hspec : ∀ ds : List (DataW H), ds.length = fn.params.toList.length → (s.fn H ds).results = [.lit (.bool true)] ∧ (s.fn H ds).args = ds ∧ (s.fn H ds).vars = [])
    (hlaw : ∀ a : Vals As.tys, FitAll As.tys a → F a = some true)
    {args : Array Value} {ds gs : List (DataW H)} {before : List MemPlace} (hval : ∀ (j : Nat) t v, fn.params[j]? = some t → args[j]? = some v → Value.okWide P W .any base t v)
    (hW : DataW.Whole enc P fn.params.toList s.vars false W args.toList ds gs before) :
    Calls P g args W fun e W' => ∃ v, e = .returned v ∧ s.post enc P fn false true false false W args v W' := by
  have hW' := hW
  obtain ⟨p, q, hA, hV, rfl, hfz, hnd⟩ := hW
  obtain ⟨a, ha, hdl, hvl, hr⟩ := read_all hty hA fun j t v ht hv => hval j t v (by rw [← Array.getElem?_toList]; exact ht) (by rw [← Array.getElem?_toList]; exact hv)
  rw [hvars] at hV
  obtain ⟨rfl, rfl⟩ := trodVars_none hV
  have call := (hok _ a true (hdec a) (hlaw a ha)).2
  refine (top_call (W := W) (vs := args) call hgl (by rw [← Array.length_toList]; exact hvl) (fun j d hd => ?_)).mono ?_
  · obtain ⟨v, hv, hrel⟩ := hr j d hd
    rw [Array.getElem?_toList] at hv
    rw [Array.getD_eq_getD_getElem?, hv]
    exact hrel
  · rintro e W' ⟨⟨v, I', rfl, hx⟩, bel⟩
    have hv : v = .bool true := by
      have hx' : RelX W' I' (fun _ => False) (.b true) v := hx
      cases hx'; rfl
    subst hv
    obtain ⟨s1, s2, s3⟩ := hspec (ds ++ []) (by rw [List.append_nil]; exact hdl)
    refine ⟨_, rfl, ds, [], p ++ [], [], p, [], hW', ?_, ?_, ?_, bel.frame _, fun h => by cases h⟩
    · rw [s1, hres]
      exact trodAll_mk1 (shut_bool htb _)
    · rw [s2, List.append_nil]
      exact trod_back hl bel hty hA
    · rw [s3, hvars]; rfl
end
end Go.Fw
end
section
/- Loops as rounds, texts and numbers: plain laws. By this session. -/
set_option linter.unusedVariables false
set_option linter.unusedSimpArgs false
namespace Go.Fw
theorem wrap_i64 {n : Int} (h1 : -9223372036854775808 ≤ n) (h2 : n ≤ 9223372036854775807) : IntKind.wrap .i64 n = n := by rw [IntKind.wrap_i64]; omega
theorem wrap_u64 (n : Int) : IntKind.wrap .u64 n = n % 18446744073709551616 := by
  show (if (false && decide (n % 18446744073709551616 ≥ 9223372036854775808)) = true then n % 18446744073709551616 - 18446744073709551616 else n % 18446744073709551616) = _
  simp
theorem wrap_u8 (n : Int) : IntKind.wrap .u8 n = n % 256 := by
  show (if (false && decide (n % 256 ≥ 128)) = true then n % 256 - 256 else n % 256) = _
  simp
theorem wrap_up {n : Nat} (h : n < 9223372036854775807) : IntKind.wrap .i64 ((n : Int) + 1) = ((n + 1 : Nat) : Int) := by rw [wrap_i64 (by omega) (by omega)]; omega
theorem bt_bound (s : ByteArray) (i : Nat) : 0 ≤ bt s i ∧ bt s i ≤ 255 := by
  unfold bt
  have := (s.data.toList.getD i 0).toNat_lt
  omega
section
variable {S R : Type} {t : S → Option (S ⊕ R)}
theorem rounds_end {s : S} {r : R} (h : t s = some (.inr r)) : rounds t s = some r := by rw [rounds_eq, h]
theorem rounds_next {s s' : S} (h : t s = some (.inl s')) : rounds t s = rounds t s' := by rw [rounds_eq, h]
theorem rounds_to (st : Nat → S) (n : Nat) (h : ∀ i, i < n → t (st i) = some (.inl (st (i + 1)))) : rounds t (st 0) = rounds t (st n) := by
  induction n with
  | zero => rfl
  | succ n ih => rw [ih fun i hi => h i (by omega), rounds_next (h n (by omega))]
/-- rounds that go on while it is so -/
theorem rounds_all (st : Nat → S) (p : Nat → Bool) (out fin : R) (n : Nat) (h : ∀ i, i < n → t (st i) = some (bif p i then .inl (st (i + 1)) else .inr out)) (hf : t (st n) = some (.inr fin)) :
    rounds t (st 0) = some (bif (List.range n).all p then fin else out) := by
  have go : ∀ k, k ≤ n → rounds t (st 0) = bif (List.range k).all p then rounds t (st k) else some out := by
    intro k
    induction k with
    | zero => intro _; rfl
    | succ k ih =>
      intro hk
      rw [ih (by omega), List.range_succ, List.all_append]
      cases (List.range k).all p with
      | false => rfl
      | true =>
        have h1 := h k (by omega)
        cases hp : p k with
        | false => rw [hp] at h1; simp [hp, rounds_end h1]
        | true => rw [hp] at h1; simp [hp, rounds_next h1]
  rw [go n (Nat.le_refl _), rounds_end hf]
  cases (List.range n).all p <;> rfl
end
/-- sums of so many -/
def sumTo (f : Nat → Int) : Nat → Int
  | 0 => 0
  | n + 1 => sumTo f n + f n
theorem sumTo_back (f : Nat → Int) : ∀ n, sumTo (fun j => f (n - 1 - j)) n = sumTo f n := by
  have first : ∀ (g : Nat → Int) (n : Nat), sumTo g (n + 1) = g 0 + sumTo (fun j => g (j + 1)) n := by
    intro g n
    induction n with
    | zero => simp [sumTo]
    | succ n ih => rw [sumTo, ih, sumTo]; omega
  have same : ∀ (g h : Nat → Int) (n : Nat), (∀ j, j < n → g j = h j) → sumTo g n = sumTo h n := by
    intro g h n
    induction n with
    | zero => intro _; rfl
    | succ n ih => intro hh; rw [sumTo, sumTo, ih fun j hj => hh j (by omega), hh n (by omega)]
  intro n
  induction n with
  | zero => rfl
  | succ n ih =>
    rw [first, sumTo, ← ih, same (fun j => f (n + 1 - 1 - (j + 1))) (fun j => f (n - 1 - j)) n fun j hj => by
      have : n + 1 - 1 - (j + 1) = n - 1 - j := by omega
      simp only [this]]
    simp only [Nat.add_sub_cancel, Nat.sub_zero]
    omega
theorem sumTo_bound {f : Nat → Int} {b : Int} : ∀ {n : Nat}, (∀ j, j < n → 0 ≤ f j ∧ f j ≤ b) → 0 ≤ sumTo f n ∧ sumTo f n ≤ b * n
  | 0, _ => by simp [sumTo]
  | n + 1, h => by
    have ih := sumTo_bound (f := f) (b := b) (n := n) fun j hj => h j (by omega)
    have := h n (by omega)
    have e : b * ((n + 1 : Nat) : Int) = b * n + b := by rw [Int.natCast_add, Int.mul_add]; simp
    rw [sumTo, e]
    omega
theorem sumTo_same {g h : Nat → Int} : ∀ {n : Nat}, (∀ j, j < n → g j = h j) → sumTo g n = sumTo h n
  | 0, _ => rfl
  | n + 1, hh => by rw [sumTo, sumTo, sumTo_same fun j hj => hh j (by omega), hh n (by omega)]
/-! ### lists -/
theorem getD_at {α : Type} {l : List α} {i : Nat} {d : α} (h : i < l.length) : l.getD i d = l[i] := by simp [List.getD_eq_getElem?_getD, List.getElem?_eq_getElem h]
theorem take_up {α : Type} {l : List α} {i : Nat} (d : α) (h : i < l.length) : l.take (i + 1) = l.take i ++ [l.getD i d] := by
  rw [List.take_succ_eq_append_getElem h, getD_at h]
theorem range_all {α : Type} (p : α → Bool) (d : α) (l : List α) : ((List.range l.length).all fun i => p (l.getD i d)) = l.all p := by
  rw [Bool.eq_iff_iff, List.all_eq_true, List.all_eq_true]
  constructor
  · intro h x hx
    obtain ⟨i, hi, rfl⟩ := List.getElem_of_mem hx
    have := h i (List.mem_range.2 hi)
    rwa [getD_at hi] at this
  · intro h i hi
    have hi := List.mem_range.1 hi
    rw [getD_at hi]
    exact h _ (List.getElem_mem hi)
/-- is there room for one more? -/
theorem room {n m : Nat} (w k : Nat) (h : n ≤ m) (hw : (m + 1) * w ≤ k) : Nat.ble ((n + 1) * w) k = true := Nat.ble_eq_true_of_le (Nat.le_trans (Nat.mul_le_mul_right w (by omega)) hw)
/-- an amount -/
def Am (a : Int) : Prop := -9223372036854775808 ≤ a ∧ a ≤ 9223372036854775807
end Go.Fw
end
section
/- Texts as lists of octets; digits of numbers. By this session. -/
set_option linter.unusedVariables false
set_option linter.unusedSimpArgs false
namespace Go.Fw
open Go
theorem eq_bs (s : ByteArray) : s = bs s.data.toList := by cases s; simp [bs]
theorem bs_data (l : List UInt8) : (bs l).data = l.toArray := rfl
theorem bs_list (l : List UInt8) : (bs l).data.toList = l := by simp [bs]
theorem bs_toList (l : List UInt8) : (bs l).toList = l := by rw [ByteArray.toList_eq, bs_list]
theorem bs_size (l : List UInt8) : (bs l).size = l.length := by show (bs l).data.size = _; simp [bs]
theorem bs_append (l r : List UInt8) : bs l ++ bs r = bs (l ++ r) := by
  apply ByteArray.ext
  rw [ByteArray.data_append]
  simp [bs]
theorem bs_extract (l : List UInt8) (i j : Nat) : (bs l).extract i j = bs ((l.take j).drop i) := by
  apply ByteArray.ext
  rw [ByteArray.data_extract]
  apply Array.toList_inj.1
  simp [bs, List.extract_eq_take_drop, List.drop_take]
theorem bt_bs (l : List UInt8) (i : Nat) : bt (bs l) i = ((l.getD i 0).toNat : Int) := by unfold bt; rw [bs_list]
theorem bs_inj {l r : List UInt8} : bs l = bs r ↔ l = r := ⟨fun h => by rw [← bs_list l, h, bs_list], fun h => by rw [h]⟩
theorem texts_eq (x y : ByteArray) : (ByteArray.toList x == ByteArray.toList y) = decide (x = y) := by
  rw [ByteArray.toList_eq, ByteArray.toList_eq, Bool.eq_iff_iff, beq_iff_eq, decide_eq_true_iff]
  constructor
  · intro h
    cases x; cases y
    simp only [Array.toList_inj] at h
    rw [h]
  · intro h; rw [h]
theorem texts_list (x : ByteArray) (l : List UInt8) : (ByteArray.toList x == l) = decide (x = bs l) := by
  rw [← texts_eq, bs_toList]
theorem texts_nil (x : ByteArray) : (ByteArray.toList x == []) = decide (x = bs []) := by
  rw [← texts_eq, bs_toList]
/-- the digit of a number below 10 -/
abbrev dgt (n : Nat) : UInt8 := UInt8.ofNat (48 + n)
theorem dgt_nat {n : Nat} (h : n < 10) : (dgt n).toNat = 48 + n := by simp [dgt, UInt8.toNat_ofNat']; omega
/-- digits, of numbers above 0; of 0 none -/
def decP : Nat → Nat → List UInt8
  | 0, _ => []
  | k + 1, n => if n = 0 then [] else decP k (n / 10) ++ [dgt (n % 10)]
theorem decF_decP : ∀ (k n : Nat), n < 10 ^ (k + 1) → decF (k + 1) n = decP k (n / 10) ++ [dgt (n % 10)]
  | 0, n, h => by
    have h' : n < 10 := by simpa using h
    have hb : Nat.blt n 10 = true := by rw [Nat.blt_eq]; exact h'
    unfold decF decP
    simp only [hb, cond_true, List.nil_append]
    rw [show n % 10 = n by omega]
  | k + 1, n, h => by
    unfold decF decP
    by_cases h' : n < 10
    · have hb : Nat.blt n 10 = true := by rw [Nat.blt_eq]; exact h'
      simp only [hb, cond_true]
      rw [if_pos (by omega), show n % 10 = n by omega]; rfl
    · have hb : Nat.blt n 10 = false := by
        cases hb : Nat.blt n 10
        · rfl
        · rw [Nat.blt_eq] at hb; omega
      simp only [hb, cond_false]
      rw [if_neg (by omega), decF_decP k (n / 10) (by have : 10 ^ (k + 1 + 1) = 10 ^ (k + 1) * 10 := Nat.pow_succ ..; omega)]
theorem decP_len : ∀ (k n : Nat), (decP k n).length ≤ k
  | 0, _ => by simp [decP]
  | k + 1, n => by
    unfold decP
    split
    · simp
    · have := decP_len k (n / 10); simp; omega
theorem decP_dig : ∀ (k n : Nat) (c : UInt8), c ∈ decP k n → 48 ≤ c.toNat ∧ c.toNat ≤ 57
  | 0, _, c, h => by simp [decP] at h
  | k + 1, n, c, h => by
    unfold decP at h
    split at h
    · simp at h
    · rcases List.mem_append.1 h with h | h
      · exact decP_dig k _ c h
      · rw [List.mem_singleton.1 h, dgt_nat (by omega)]; omega
/-- digits are parsed, one by one -/
theorem parse_decP (M : Nat) : ∀ (k n : Nat) (t : List UInt8), n < 10 ^ k → n < 18446744073709551616 → n ≤ M → Lib.parseUintM M 0 (decP k n ++ t) = Lib.parseUintM M n t
  | 0, n, t, h, _, _ => by
    have : n = 0 := by simpa using h
    subst this; rfl
  | k + 1, n, t, h, h2, h3 => by
    unfold decP
    split
    · rename_i h0; subst h0; rfl
    · rw [List.append_assoc, parse_decP M k (n / 10) _ (by have : 10 ^ (k + 1) = 10 ^ k * 10 := Nat.pow_succ ..; omega) (by omega) (by omega)]
      have hd := dgt_nat (n := n % 10) (by omega)
      conv => lhs; unfold Lib.parseUintM
      simp only [List.singleton_append, hd]
      rw [if_pos (by omega), if_neg (by omega), if_neg (by omega)]
      congr 1
      omega
theorem parse_dig {M acc n : Nat} {t : List UInt8} (h : n < 10) (h1 : acc * 10 + n ≤ M) (h2 : acc * 10 < 18446744073709551610) : Lib.parseUintM M acc (dgt n :: t) = Lib.parseUintM M (acc * 10 + n) t := by
  have hd := dgt_nat h
  conv => lhs; unfold Lib.parseUintM
  simp only [hd]
  rw [if_pos (by omega), if_neg (by omega), if_neg (by omega)]
  congr 1
  omega
theorem indexByte_skip (c : UInt8) : ∀ (l t : List UInt8), (∀ x, x ∈ l → x ≠ c) → Lib.indexByte (l ++ c :: t) c = l.length
  | [], t, _ => by simp [Lib.indexByte]
  | x :: l, t, h => by
    have hx : (x == c) = false := by simpa using h x (List.mem_cons_self ..)
    have ih := indexByte_skip c l t fun y hy => h y (List.mem_cons_of_mem _ hy)
    have hn : (Lib.indexByte (l ++ c :: t) c == -1) = false := by rw [ih]; simp only [beq_eq_false_iff_ne]; omega
    rw [List.cons_append, Lib.indexByte, hx]
    rw [if_neg (by simp), if_neg (by simp [hn]), ih]
    simp
theorem indexByte_lt (c : UInt8) : ∀ (l : List UInt8), Lib.indexByte l c < l.length
  | [] => by simp [Lib.indexByte]
  | x :: l => by
    have ih := indexByte_lt c l
    rw [Lib.indexByte]
    split
    · simp
    · split
      · simp; omega
      · simp; omega
end Go.Fw
end
section
/- The program of this seat, the types of its data, and its functions without a body. By this session. -/
set_option linter.unusedVariables false
set_option linter.unusedSimpArgs false
namespace Go.Proofs.YtpoiijkodpnobaaDoor
open Go Go.Fw
noncomputable abbrev P := Tryd.prog
theorem pick_le {n : Nat} {cs : List D} {A B : Nat → Option (List D)} (h : ∀ g c, A g = some c → B g = some c) : ∀ g c, (bif g == n then some cs else A g) = some c → (bif g == n then some cs else B g) = some c := by
  intro g c
  cases (g == n)
  · exact h g c
  · exact fun h => h
abbrev G0 : Nat → Option (List D) := fun g => bif g == 5 then some [.i .u64 1, .i .u64 10, .i .u64 100, .i .u64 1000, .i .u64 10000, .i .u64 100000, .i .u64 1000000, .i .u64 10000000, .i .u64 100000000, .i .u64 1000000000, .i .u64 10000000000, .i .u64 100000000000, .i .u64 1000000000000, .i .u64 10000000000000, .i .u64 100000000000000, .i .u64 1000000000000000, .i .u64 10000000000000000, .i .u64 100000000000000000, .i .u64 1000000000000000000, .i .u64 10000000000000000000] else bif g == 0 then some [.i .u8 0, .i .u8 0, .i .u8 0, .i .u8 0, .i .u8 0, .i .u8 0, .i .u8 0, .i .u8 0, .i .u8 0, .i .u8 1, .i .u8 1, .i .u8 1, .i .u8 1, .i .u8 1, .i .u8 0, .i .u8 0, .i .u8 0, .i .u8 0, .i .u8 0, .i .u8 0, .i .u8 0, .i .u8 0, .i .u8 0, .i .u8 0, .i .u8 0, .i .u8 0, .i .u8 0, .i .u8 0, .i .u8 0, .i .u8 0, .i .u8 0, .i .u8 0, .i .u8 1, .i .u8 0, .i .u8 0, .i .u8 0, .i .u8 0, .i .u8 0, .i .u8 0, .i .u8 0, .i .u8 0, .i .u8 0, .i .u8 0, .i .u8 0, .i .u8 0, .i .u8 0, .i .u8 0, .i .u8 0, .i .u8 0, .i .u8 0, .i .u8 0, .i .u8 0, .i .u8 0, .i .u8 0, .i .u8 0, .i .u8 0, .i .u8 0, .i .u8 0, .i .u8 0, .i .u8 0, .i .u8 0, .i .u8 0, .i .u8 0, .i .u8 0, .i .u8 0, .i .u8 0, .i .u8 0, .i .u8 0, .i .u8 0, .i .u8 0, .i .u8 0, .i .u8 0, .i .u8 0, .i .u8 0, .i .u8 0, .i .u8 0, .i .u8 0, .i .u8 0, .i .u8 0, .i .u8 0, .i .u8 0, .i .u8 0, .i .u8 0, .i .u8 0, .i .u8 0, .i .u8 0, .i .u8 0, .i .u8 0, .i .u8 0, .i .u8 0, .i .u8 0, .i .u8 0, .i .u8 0, .i .u8 0, .i .u8 0, .i .u8 0, .i .u8 0, .i .u8 0, .i .u8 0, .i .u8 0, .i .u8 0, .i .u8 0, .i .u8 0, .i .u8 0, .i .u8 0, .i .u8 0, .i .u8 0, .i .u8 0, .i .u8 0, .i .u8 0, .i .u8 0, .i .u8 0, .i .u8 0, .i .u8 0, .i .u8 0, .i .u8 0, .i .u8 0, .i .u8 0, .i .u8 0, .i .u8 0, .i .u8 0, .i .u8 0, .i .u8 0, .i .u8 0, .i .u8 0, .i .u8 0, .i .u8 0, .i .u8 0, .i .u8 0, .i .u8 0, .i .u8 0, .i .u8 0, .i .u8 0, .i .u8 0, .i .u8 0, .i .u8 0, .i .u8 0, .i .u8 0, .i .u8 0, .i .u8 0, .i .u8 0, .i .u8 0, .i .u8 0, .i .u8 0, .i .u8 0, .i .u8 0, .i .u8 0, .i .u8 0, .i .u8 0, .i .u8 0, .i .u8 0, .i .u8 0, .i .u8 0, .i .u8 0, .i .u8 0, .i .u8 0, .i .u8 0, .i .u8 0, .i .u8 0, .i .u8 0, .i .u8 0, .i .u8 0, .i .u8 0, .i .u8 0, .i .u8 0, .i .u8 0, .i .u8 0, .i .u8 0, .i .u8 0, .i .u8 0, .i .u8 0, .i .u8 0, .i .u8 0, .i .u8 0, .i .u8 0, .i .u8 0, .i .u8 0, .i .u8 0, .i .u8 0, .i .u8 0, .i .u8 0, .i .u8 0, .i .u8 0, .i .u8 0, .i .u8 0, .i .u8 0, .i .u8 0, .i .u8 0, .i .u8 0, .i .u8 0, .i .u8 0, .i .u8 0, .i .u8 0, .i .u8 0, .i .u8 0, .i .u8 0, .i .u8 0, .i .u8 0, .i .u8 0, .i .u8 0, .i .u8 0, .i .u8 0, .i .u8 0, .i .u8 0, .i .u8 0, .i .u8 0, .i .u8 0, .i .u8 0, .i .u8 0, .i .u8 0, .i .u8 0, .i .u8 0, .i .u8 0, .i .u8 0, .i .u8 0, .i .u8 0, .i .u8 0, .i .u8 0, .i .u8 0, .i .u8 0, .i .u8 0, .i .u8 0, .i .u8 0, .i .u8 0, .i .u8 0, .i .u8 0, .i .u8 0, .i .u8 0, .i .u8 0, .i .u8 0, .i .u8 0, .i .u8 0, .i .u8 0, .i .u8 0, .i .u8 0, .i .u8 0, .i .u8 0, .i .u8 0, .i .u8 0, .i .u8 0, .i .u8 0, .i .u8 0, .i .u8 0, .i .u8 0, .i .u8 0, .i .u8 0, .i .u8 0, .i .u8 0, .i .u8 0, .i .u8 0, .i .u8 0, .i .u8 0, .i .u8 0, .i .u8 0, .i .u8 0, .i .u8 0] else none
abbrev G1 : Nat → Option (List D) := fun g => bif g == 5 then some [.i .u64 1, .i .u64 10, .i .u64 100, .i .u64 1000, .i .u64 10000, .i .u64 100000, .i .u64 1000000, .i .u64 10000000, .i .u64 100000000, .i .u64 1000000000, .i .u64 10000000000, .i .u64 100000000000, .i .u64 1000000000000, .i .u64 10000000000000, .i .u64 100000000000000, .i .u64 1000000000000000, .i .u64 10000000000000000, .i .u64 100000000000000000, .i .u64 1000000000000000000, .i .u64 10000000000000000000] else bif g == 0 then some [.i .u8 0, .i .u8 0, .i .u8 0, .i .u8 0, .i .u8 0, .i .u8 0, .i .u8 0, .i .u8 0, .i .u8 0, .i .u8 1, .i .u8 1, .i .u8 1, .i .u8 1, .i .u8 1, .i .u8 0, .i .u8 0, .i .u8 0, .i .u8 0, .i .u8 0, .i .u8 0, .i .u8 0, .i .u8 0, .i .u8 0, .i .u8 0, .i .u8 0, .i .u8 0, .i .u8 0, .i .u8 0, .i .u8 0, .i .u8 0, .i .u8 0, .i .u8 0, .i .u8 1, .i .u8 0, .i .u8 0, .i .u8 0, .i .u8 0, .i .u8 0, .i .u8 0, .i .u8 0, .i .u8 0, .i .u8 0, .i .u8 0, .i .u8 0, .i .u8 0, .i .u8 0, .i .u8 0, .i .u8 0, .i .u8 0, .i .u8 0, .i .u8 0, .i .u8 0, .i .u8 0, .i .u8 0, .i .u8 0, .i .u8 0, .i .u8 0, .i .u8 0, .i .u8 0, .i .u8 0, .i .u8 0, .i .u8 0, .i .u8 0, .i .u8 0, .i .u8 0, .i .u8 0, .i .u8 0, .i .u8 0, .i .u8 0, .i .u8 0, .i .u8 0, .i .u8 0, .i .u8 0, .i .u8 0, .i .u8 0, .i .u8 0, .i .u8 0, .i .u8 0, .i .u8 0, .i .u8 0, .i .u8 0, .i .u8 0, .i .u8 0, .i .u8 0, .i .u8 0, .i .u8 0, .i .u8 0, .i .u8 0, .i .u8 0, .i .u8 0, .i .u8 0, .i .u8 0, .i .u8 0, .i .u8 0, .i .u8 0, .i .u8 0, .i .u8 0, .i .u8 0, .i .u8 0, .i .u8 0, .i .u8 0, .i .u8 0, .i .u8 0, .i .u8 0, .i .u8 0, .i .u8 0, .i .u8 0, .i .u8 0, .i .u8 0, .i .u8 0, .i .u8 0, .i .u8 0, .i .u8 0, .i .u8 0, .i .u8 0, .i .u8 0, .i .u8 0, .i .u8 0, .i .u8 0, .i .u8 0, .i .u8 0, .i .u8 0, .i .u8 0, .i .u8 0, .i .u8 0, .i .u8 0, .i .u8 0, .i .u8 0, .i .u8 0, .i .u8 0, .i .u8 0, .i .u8 0, .i .u8 0, .i .u8 0, .i .u8 0, .i .u8 0, .i .u8 0, .i .u8 0, .i .u8 0, .i .u8 0, .i .u8 0, .i .u8 0, .i .u8 0, .i .u8 0, .i .u8 0, .i .u8 0, .i .u8 0, .i .u8 0, .i .u8 0, .i .u8 0, .i .u8 0, .i .u8 0, .i .u8 0, .i .u8 0, .i .u8 0, .i .u8 0, .i .u8 0, .i .u8 0, .i .u8 0, .i .u8 0, .i .u8 0, .i .u8 0, .i .u8 0, .i .u8 0, .i .u8 0, .i .u8 0, .i .u8 0, .i .u8 0, .i .u8 0, .i .u8 0, .i .u8 0, .i .u8 0, .i .u8 0, .i .u8 0, .i .u8 0, .i .u8 0, .i .u8 0, .i .u8 0, .i .u8 0, .i .u8 0, .i .u8 0, .i .u8 0, .i .u8 0, .i .u8 0, .i .u8 0, .i .u8 0, .i .u8 0, .i .u8 0, .i .u8 0, .i .u8 0, .i .u8 0, .i .u8 0, .i .u8 0, .i .u8 0, .i .u8 0, .i .u8 0, .i .u8 0, .i .u8 0, .i .u8 0, .i .u8 0, .i .u8 0, .i .u8 0, .i .u8 0, .i .u8 0, .i .u8 0, .i .u8 0, .i .u8 0, .i .u8 0, .i .u8 0, .i .u8 0, .i .u8 0, .i .u8 0, .i .u8 0, .i .u8 0, .i .u8 0, .i .u8 0, .i .u8 0, .i .u8 0, .i .u8 0, .i .u8 0, .i .u8 0, .i .u8 0, .i .u8 0, .i .u8 0, .i .u8 0, .i .u8 0, .i .u8 0, .i .u8 0, .i .u8 0, .i .u8 0, .i .u8 0, .i .u8 0, .i .u8 0, .i .u8 0, .i .u8 0, .i .u8 0, .i .u8 0, .i .u8 0, .i .u8 0, .i .u8 0, .i .u8 0, .i .u8 0, .i .u8 0, .i .u8 0, .i .u8 0, .i .u8 0, .i .u8 0, .i .u8 0, .i .u8 0, .i .u8 0, .i .u8 0, .i .u8 0, .i .u8 0, .i .u8 0, .i .u8 0, .i .u8 0] else bif g == 3 then some [.er true] else bif g == 4 then some [.er true] else none
abbrev G2 : Nat → Option (List D) := fun g => bif g == 5 then some [.i .u64 1, .i .u64 10, .i .u64 100, .i .u64 1000, .i .u64 10000, .i .u64 100000, .i .u64 1000000, .i .u64 10000000, .i .u64 100000000, .i .u64 1000000000, .i .u64 10000000000, .i .u64 100000000000, .i .u64 1000000000000, .i .u64 10000000000000, .i .u64 100000000000000, .i .u64 1000000000000000, .i .u64 10000000000000000, .i .u64 100000000000000000, .i .u64 1000000000000000000, .i .u64 10000000000000000000] else bif g == 0 then some [.i .u8 0, .i .u8 0, .i .u8 0, .i .u8 0, .i .u8 0, .i .u8 0, .i .u8 0, .i .u8 0, .i .u8 0, .i .u8 1, .i .u8 1, .i .u8 1, .i .u8 1, .i .u8 1, .i .u8 0, .i .u8 0, .i .u8 0, .i .u8 0, .i .u8 0, .i .u8 0, .i .u8 0, .i .u8 0, .i .u8 0, .i .u8 0, .i .u8 0, .i .u8 0, .i .u8 0, .i .u8 0, .i .u8 0, .i .u8 0, .i .u8 0, .i .u8 0, .i .u8 1, .i .u8 0, .i .u8 0, .i .u8 0, .i .u8 0, .i .u8 0, .i .u8 0, .i .u8 0, .i .u8 0, .i .u8 0, .i .u8 0, .i .u8 0, .i .u8 0, .i .u8 0, .i .u8 0, .i .u8 0, .i .u8 0, .i .u8 0, .i .u8 0, .i .u8 0, .i .u8 0, .i .u8 0, .i .u8 0, .i .u8 0, .i .u8 0, .i .u8 0, .i .u8 0, .i .u8 0, .i .u8 0, .i .u8 0, .i .u8 0, .i .u8 0, .i .u8 0, .i .u8 0, .i .u8 0, .i .u8 0, .i .u8 0, .i .u8 0, .i .u8 0, .i .u8 0, .i .u8 0, .i .u8 0, .i .u8 0, .i .u8 0, .i .u8 0, .i .u8 0, .i .u8 0, .i .u8 0, .i .u8 0, .i .u8 0, .i .u8 0, .i .u8 0, .i .u8 0, .i .u8 0, .i .u8 0, .i .u8 0, .i .u8 0, .i .u8 0, .i .u8 0, .i .u8 0, .i .u8 0, .i .u8 0, .i .u8 0, .i .u8 0, .i .u8 0, .i .u8 0, .i .u8 0, .i .u8 0, .i .u8 0, .i .u8 0, .i .u8 0, .i .u8 0, .i .u8 0, .i .u8 0, .i .u8 0, .i .u8 0, .i .u8 0, .i .u8 0, .i .u8 0, .i .u8 0, .i .u8 0, .i .u8 0, .i .u8 0, .i .u8 0, .i .u8 0, .i .u8 0, .i .u8 0, .i .u8 0, .i .u8 0, .i .u8 0, .i .u8 0, .i .u8 0, .i .u8 0, .i .u8 0, .i .u8 0, .i .u8 0, .i .u8 0, .i .u8 0, .i .u8 0, .i .u8 0, .i .u8 0, .i .u8 0, .i .u8 0, .i .u8 0, .i .u8 0, .i .u8 0, .i .u8 0, .i .u8 0, .i .u8 0, .i .u8 0, .i .u8 0, .i .u8 0, .i .u8 0, .i .u8 0, .i .u8 0, .i .u8 0, .i .u8 0, .i .u8 0, .i .u8 0, .i .u8 0, .i .u8 0, .i .u8 0, .i .u8 0, .i .u8 0, .i .u8 0, .i .u8 0, .i .u8 0, .i .u8 0, .i .u8 0, .i .u8 0, .i .u8 0, .i .u8 0, .i .u8 0, .i .u8 0, .i .u8 0, .i .u8 0, .i .u8 0, .i .u8 0, .i .u8 0, .i .u8 0, .i .u8 0, .i .u8 0, .i .u8 0, .i .u8 0, .i .u8 0, .i .u8 0, .i .u8 0, .i .u8 0, .i .u8 0, .i .u8 0, .i .u8 0, .i .u8 0, .i .u8 0, .i .u8 0, .i .u8 0, .i .u8 0, .i .u8 0, .i .u8 0, .i .u8 0, .i .u8 0, .i .u8 0, .i .u8 0, .i .u8 0, .i .u8 0, .i .u8 0, .i .u8 0, .i .u8 0, .i .u8 0, .i .u8 0, .i .u8 0, .i .u8 0, .i .u8 0, .i .u8 0, .i .u8 0, .i .u8 0, .i .u8 0, .i .u8 0, .i .u8 0, .i .u8 0, .i .u8 0, .i .u8 0, .i .u8 0, .i .u8 0, .i .u8 0, .i .u8 0, .i .u8 0, .i .u8 0, .i .u8 0, .i .u8 0, .i .u8 0, .i .u8 0, .i .u8 0, .i .u8 0, .i .u8 0, .i .u8 0, .i .u8 0, .i .u8 0, .i .u8 0, .i .u8 0, .i .u8 0, .i .u8 0, .i .u8 0, .i .u8 0, .i .u8 0, .i .u8 0, .i .u8 0, .i .u8 0, .i .u8 0, .i .u8 0, .i .u8 0, .i .u8 0, .i .u8 0, .i .u8 0, .i .u8 0, .i .u8 0, .i .u8 0, .i .u8 0, .i .u8 0, .i .u8 0, .i .u8 0, .i .u8 0, .i .u8 0, .i .u8 0, .i .u8 0] else bif g == 3 then some [.er true] else bif g == 4 then some [.er true] else bif g == 7 then some [.i .u8 128, .i .u8 191, .i .u8 160, .i .u8 191, .i .u8 128, .i .u8 159, .i .u8 144, .i .u8 191, .i .u8 128, .i .u8 143, .i .u8 0, .i .u8 0, .i .u8 0, .i .u8 0, .i .u8 0, .i .u8 0, .i .u8 0, .i .u8 0, .i .u8 0, .i .u8 0, .i .u8 0, .i .u8 0, .i .u8 0, .i .u8 0, .i .u8 0, .i .u8 0, .i .u8 0, .i .u8 0, .i .u8 0, .i .u8 0, .i .u8 0, .i .u8 0] else none
theorem g01 : ∀ g cs, G0 g = some cs → G1 g = some cs := pick_le (pick_le (fun _ _ h => by cases h))
theorem g02 : ∀ g cs, G0 g = some cs → G2 g = some cs := pick_le (pick_le (fun _ _ h => by cases h))
theorem g12 : ∀ g cs, G1 g = some cs → G2 g = some cs := pick_le (pick_le (pick_le (pick_le (fun _ _ h => by cases h))))
abbrev T_utf8_acceptRange : Ty := (.g (.p (.i .u8) (.i .u8)))
abbrev T_api_Spec : Ty := (.g (.p (.i .i64) (.p (.i .i64) (.i .i64))))
def cntB : List D → Option (Bool × D) := fun ds => match ds with
  | [.s x, .i .u8 y] => some (true, .i .i64 (((Lib.countByte x.data.toList y.toNat.toUInt8 : Nat) : Int)))
  | _ => none
theorem cntB_ok : ExtOK P 40 (bare cntB) := by
  intro ds r h w I vs hsz hv
  unfold bare cntB at h
  split at h
  · rename_i b q hq
    obtain ⟨hb, h⟩ := cond_some h
    injection h with h
    subst h
    split at hq
    · rename_i x y
      injection hq with hq
      injection hq with hq1 hq2
      subst hq2
      have e0 := hv 0 _ rfl
      have e1 := hv 1 _ rfl
      have hvs : vs = #[vs.getD 0 undef, vs.getD 1 undef] := by
        apply Array.ext
        · simpa using hsz
        · intro i hi hi'
          simp at hi'
          have : i = 0 ∨ i = 1 := by omega
          rcases this with rfl | rfl <;> simp [Array.getD_eq_getD_getElem?, Array.getElem?_eq_getElem hi]
      generalize vs.getD 0 undef = a0 at e0 hvs
      generalize vs.getD 1 undef = a1 at e1 hvs
      cases e0; cases e1
      refine ⟨_, by rw [hvs, run_callFunc_extern Tryd.func40 (by kernel_rfl) (by kernel_rfl) (by kernel_rfl) (e := Extern.BytealgCount.count) (by kernel_rfl), Lib.run_countString]; rfl, ?_⟩
      exact .i _ _
    · cases hq
  · cases h
def idxB : List D → Option (Bool × D) := fun ds => match ds with
  | [.s x, .i .u8 y] => some (true, .i .i64 (Lib.indexByte x.data.toList y.toNat.toUInt8))
  | _ => none
theorem idxB_ok : ExtOK P 64 (bare idxB) := by
  intro ds r h w I vs hsz hv
  unfold bare idxB at h
  split at h
  · rename_i b q hq
    obtain ⟨hb, h⟩ := cond_some h
    injection h with h
    subst h
    split at hq
    · rename_i x y
      injection hq with hq
      injection hq with hq1 hq2
      subst hq2
      have e0 := hv 0 _ rfl
      have e1 := hv 1 _ rfl
      have hvs : vs = #[vs.getD 0 undef, vs.getD 1 undef] := by
        apply Array.ext
        · simpa using hsz
        · intro i hi hi'
          simp at hi'
          have : i = 0 ∨ i = 1 := by omega
          rcases this with rfl | rfl <;> simp [Array.getD_eq_getD_getElem?, Array.getElem?_eq_getElem hi]
      generalize vs.getD 0 undef = a0 at e0 hvs
      generalize vs.getD 1 undef = a1 at e1 hvs
      cases e0; cases e1
      refine ⟨_, by rw [hvs, run_callFunc_extern Tryd.func64 (by kernel_rfl) (by kernel_rfl) (by kernel_rfl) (e := Extern.BytealgIndexByte.indexByte) (by kernel_rfl), Lib.run_indexByteString]; rfl, ?_⟩
      exact .i _ _
    · cases hq
  · cases h
abbrev E0 : FuncId → Option (List D → Option (Bool × D)) := fun g => bif g == 40 then some cntB else bif g == 64 then some idxB else none
theorem e0_ok : ∀ g f, E0 g = some f → ExtOK P g (bare f) := by
  intro g f h
  unfold E0 at h
  cases hg40 : (g == 40) with
  | true =>
    rw [hg40] at h
    injection h with h
    subst h
    have : g = 40 := by simpa using hg40
    subst this
    exact cntB_ok
  | false =>
  rw [hg40] at h
  simp only [cond_false] at h
  cases hg64 : (g == 64) with
  | true =>
    rw [hg64] at h
    injection h with h
    subst h
    have : g = 64 := by simpa using hg64
    subst this
    exact idxB_ok
  | false =>
  rw [hg64] at h
  simp only [cond_false] at h
  cases h
abbrev J0 : FuncId → Option TypeId := fun g => none
theorem j0_ok : InsAll P J0 := by
  intro g e h
  unfold J0 at h
  cases h
end Go.Proofs.YtpoiijkodpnobaaDoor
end
section
/- Small things about the library's contracts. By this session. -/
set_option linter.unusedVariables false
namespace Go.Proofs.YtpoiijkodpnobaaDoor
open Go Go.Fw Go.RowKit
theorem grow_below (w : World) (k : Nat) (os : Array Obj) : Below w.heap.size w (Sort.grow (w.drewN k) os) := by
  have h : Below w.heap.size w (w.drewN k) := by
    induction k with
    | zero => rw [World.drewN_zero]; exact .refl _ _
    | succ k ih => exact ⟨rfl, rfl, rfl, Nat.le_refl _, fun _ _ => rfl⟩
  exact h.trans ⟨rfl, rfl, rfl, by simp [Sort.grow], fun i hi => by
    show ((w.drewN k).heap ++ os)[i]? = _
    rw [Array.getElem?_append, if_pos (Nat.lt_of_lt_of_le hi h.size)]⟩
theorem ent_of {g : FuncId} {fn : Func} (h : P.funcs[g]? = some fn) (hn : (fn.name == "runtime.NumGoroutine") = false) (hb : fn.body.isNone = false) : Fw.Enters P g := ⟨fn, h, hn, hb⟩
/-- a call that leaves what was there as it was, and what is known of the memory -/
theorem pcall_belowI {G : Nat → Option (List D)} {g : FuncId} {ds : List D} {r : D}
    (h : ∀ (w : World) (I K : Mem) (vs : Array Value), Glob ⟨w, I, K, fun _ => 0, fun _ => 0, G⟩ → (∀ b, I b → b < w.heap.size) → (∀ b, K b → b < w.heap.size) → vs.size = ds.length → (∀ (j : Nat) (d : D), ds[j]? = some d → RelD w I d (vs.getD j undef)) →
      Calls P g vs w fun e w' => ∃ v, e = .returned v ∧ Below w.heap.size w w' ∧ RelX w' I K r v) : PCall P G g ds r := by
  intro w I K vs hg hI hK hd hsz hargs
  refine (h w I K vs hg hI hK hsz hargs).mono ?_
  rintro e w' ⟨v, rfl, hb, hx⟩
  refine ⟨v, I, rfl, hb.size, fun b hb' => ⟨hb', hb.block b (hI b hb')⟩, fun b hb' => hb.block b (hK b hb'), fun b hb' => ⟨Nat.lt_of_lt_of_le (hI b hb') hb.size, hd b hb'⟩, fun b cs e fz hc => ⟨cs, ?_, rfl⟩, hb.os, hb.tape, hb.output, hx⟩
  rw [hb.block b (Array.getElem?_eq_some_iff.1 hc).1]
  exact hc
theorem alloc_below (w : World) (o : Obj) : Below w.heap.size w (w.alloc o) := ⟨rfl, rfl, rfl, by show w.heap.size ≤ (w.heap.push _).size; simp, fun i hi => by
  show (w.heap.push o)[i]? = _
  rw [Array.getElem?_push, if_neg (by omega)]⟩
/-- a row of one-cell data in a new block -/
theorem frOK_alloc {w : World} {I K : Mem} {xs : List D} {vs : List Value} {t : TypeId} (hI : ∀ b, I b → b < w.heap.size) (hK : ∀ b, K b → b < w.heap.size) (hl : xs.length = vs.length) (hw : ∀ x ∈ xs, x.cells = [x]) (h1 : ∀ v ∈ vs, v.oneCell' = true)
    (h : ∀ (j : Nat) (d : D), xs[j]? = some d → RelD (w.alloc (.cells vs.toArray t)) I d (vs.toArray.getD j undef)) : FrOK (w.alloc (.cells vs.toArray t)) I K 1 xs (.slice (some ⟨w.heap.size, 0, none⟩) xs.length xs.length) := by
  have hh : (w.alloc (.cells vs.toArray t)).heap[w.heap.size]? = some (.cells vs.toArray t) := by
    show (w.heap.push _)[w.heap.size]? = _
    rw [Array.getElem?_push, if_pos rfl]
  refine ⟨_, _, rfl, Nat.le_refl _, rfl, .inl rfl, fun hb => Nat.lt_irrefl _ (hI _ hb), fun hb => Nat.lt_irrefl _ (hK _ hb), ⟨rfl, vs.toArray, t, _, hh, fun o _ ho => by omega, fun x hx => by simp [D.width, hw x hx], by omega, by simp [hl], fun j hj => ?_, fun j k x d hx hd => ?_⟩, _, _, _, hh, by simp [hl], by simp⟩
  · have hj' : j < vs.length := by omega
    rw [Array.getD_eq_getD_getElem?]
    simp only [List.getElem?_toArray, List.getElem?_eq_getElem hj', Option.getD_some]
    exact h1 _ (List.getElem_mem hj')
  · have hm : x ∈ xs := List.mem_of_getElem? hx
    rw [hw x hm] at hd
    cases k with
    | zero =>
      simp only [List.getElem?_cons_zero, Option.some.injEq] at hd
      subst hd
      have := h j x hx
      rw [show j * 1 + 0 = j by omega]
      exact this
    | succ k => simp at hd
end Go.Proofs.YtpoiijkodpnobaaDoor
end
section
/- Contracts of the library at this program, in plain words. Written by a tool of the kit.
-/
namespace Go.Proofs
open Go.Shelf
def Tryd.lays157_ren : Go.Shelf.Ren := ⟨fun | 157 => 13 | 229 => 19 | 199 => 20 | 261 => 28 | 311 => 48 | 312 => 49 | n => n, fun | 9 => 9 | 31 => 40 | 3 => 3 | 5 => 5 | 4 => 4 | 119 => 51 | 0 => 0 | 40 => 53 | 152 => 62 | 21 => 21 | 154 => 64 | 51 => 65 | 141 => 67 | 196 => 88 | 193 => 85 | 198 => 91 | 49 => 89 | 194 => 86 | 201 => 94 | 226 => 113 | 46 => 97 | 227 => 114 | n => n, fun | 0 => 0 | 6 => 1 | n => n⟩
theorem Tryd.lays157 : Go.Proofs.Lays.n157 Tryd.prog Tryd.lays157_ren := {
  mixed := by kernel_rfl
  f157 := Tryd.func13.trans (congrArg some (by kernel_rfl))
  f199 := Tryd.func20.trans (congrArg some (by kernel_rfl))
  f229 := Tryd.func19.trans (congrArg some (by kernel_rfl))
  f261 := Tryd.func28.trans (congrArg some (by kernel_rfl))
  f311 := Tryd.func48.trans (congrArg some (by kernel_rfl))
  f312 := Tryd.func49.trans (congrArg some (by kernel_rfl))
  t0 := Tryd.underlying0
  a0 := Tryd.isAgg0
  z0 := Tryd.sizeOf0
  v0 := Tryd.zeroValue0
  t3 := Tryd.underlying3
  a3 := Tryd.isAgg3
  z3 := Tryd.sizeOf3
  v3 := Tryd.zeroValue3
  t4 := Tryd.underlying4
  a4 := Tryd.isAgg4
  z4 := Tryd.sizeOf4
  v4 := Tryd.zeroValue4
  t5 := Tryd.underlying5
  a5 := Tryd.isAgg5
  z5 := Tryd.sizeOf5
  v5 := Tryd.zeroValue5
  t9 := Tryd.underlying9
  a9 := Tryd.isAgg9
  z9 := Tryd.sizeOf9
  v9 := Tryd.zeroValue9
  t21 := Tryd.underlying21
  a21 := Tryd.isAgg21
  z21 := Tryd.sizeOf21
  v21 := Tryd.zeroValue21
  t31 := Tryd.underlying40
  a31 := Tryd.isAgg40
  z31 := Tryd.sizeOf40
  v31 := Tryd.zeroValue40
  t40 := Tryd.underlying53
  a40 := Tryd.isAgg53
  z40 := Tryd.sizeOf53
  v40 := Tryd.zeroValue53
  t46 := Tryd.underlying97
  a46 := Tryd.isAgg97
  z46 := Tryd.sizeOf97
  v46 := Tryd.zeroValue97
  t49 := Tryd.underlying89
  a49 := Tryd.isAgg89
  z49 := Tryd.sizeOf89
  v49 := Tryd.zeroValue89
  t51 := Tryd.underlying65
  a51 := Tryd.isAgg65
  z51 := Tryd.sizeOf65
  v51 := Tryd.zeroValue65
  t119 := Tryd.underlying51
  a119 := Tryd.isAgg51
  z119 := Tryd.sizeOf51
  t141 := Tryd.underlying67
  a141 := Tryd.isAgg67
  z141 := Tryd.sizeOf67
  v141 := Tryd.zeroValue67
  t152 := Tryd.underlying62
  a152 := Tryd.isAgg62
  z152 := Tryd.sizeOf62
  v152 := Tryd.zeroValue62
  t154 := Tryd.underlying64
  a154 := Tryd.isAgg64
  z154 := Tryd.sizeOf64
  v154 := Tryd.zeroValue64
  t193 := Tryd.underlying85
  a193 := Tryd.isAgg85
  z193 := Tryd.sizeOf85
  v193 := Tryd.zeroValue85
  t194 := Tryd.underlying86
  a194 := Tryd.isAgg86
  z194 := Tryd.sizeOf86
  v194 := Tryd.zeroValue86
  t196 := Tryd.underlying88
  a196 := Tryd.isAgg88
  z196 := Tryd.sizeOf88
  v196 := Tryd.zeroValue88
  t198 := Tryd.underlying91
  a198 := Tryd.isAgg91
  z198 := Tryd.sizeOf91
  v198 := Tryd.zeroValue91
  t201 := Tryd.underlying94
  a201 := Tryd.isAgg94
  z201 := Tryd.sizeOf94
  v201 := Tryd.zeroValue94
  t226 := Tryd.underlying113
  a226 := Tryd.isAgg113
  z226 := Tryd.sizeOf113
  v226 := Tryd.zeroValue113
  t227 := Tryd.underlying114
  a227 := Tryd.isAgg114
  z227 := Tryd.sizeOf114
  v227 := Tryd.zeroValue114
  g0 := by kernel_rfl
  g6 := by kernel_rfl }
end Go.Proofs
end
section
/- strings.Fields, on texts below 128, as a row, by the library's contract. By this session. -/
set_option linter.unusedVariables false
namespace Go.Proofs.YtpoiijkodpnobaaDoor
open Go Go.Fw Go.RowKit Go.Shelf
abbrev strings_Fields.As : Shs := .cons (.x .s) .nil
abbrev strings_Fields.m : Back := [(true, .l .s)]
abbrev strings_Fields.f (a : ByteArray) : Option (List ByteArray) := bif decide (a.size < 4294967281) && a.data.toList.all (fun b => decide (b.toNat < 128)) then some ((Lib.fields a.data.toList).map fun l => bs l) else none
noncomputable abbrev strings_Fields.row : Row := fnRow 13 strings_Fields.As strings_Fields.m strings_Fields.f
theorem strings_Fields.row_ok : RowOK P G0 strings_Fields.row := by
  have key : ∀ (ds : List D) (a : ByteArray) (q : List ByteArray), decArgs strings_Fields.As ds = some a → strings_Fields.f a = some q → Fw.Enters P 13 ∧ PCall P G0 13 ds (.fr 1 (.t .s q)) := by
    intro ds a q ha hq
    refine ⟨ent_of Tryd.func13 (by kernel_rfl) (by kernel_rfl), ?_⟩
    have hds := (decArgs_argD ha).symm
    refine PCall.coe (ds' := argD strings_Fields.As a) ?_ (by rw [← hds]; exact coeA_len) fun w I f hf => by rw [← hds]; exact coeA_rel hf
    refine pcall_belowI fun w I K vs hg hI hK hsz hr => ?_
    have h0 := hr 0 (.s a) rfl
    have hvs : vs = #[.string a] := by
      have hs : vs.size = 1 := hsz
      rw [Array.getD_eq_getD_getElem?, Array.getElem?_eq_getElem (by omega)] at h0
      simp only [Option.getD_some] at h0
      refine Array.ext (by simpa using hs) fun i hi hi' => ?_
      match i, hi with
      | 0, _ => cases h : vs[0] <;> rw [h] at h0 <;> cases h0; rfl
      | i + 1, hi => omega
    subst hvs
    unfold strings_Fields.f at hq
    obtain ⟨hb, hq⟩ := cond_some hq
    simp only [Bool.and_eq_true, decide_eq_true_eq, List.all_eq_true] at hb
    injection hq with hq
    subst hq
    refine (Any.strings_Fields Tryd.lays157 (by kernel_rfl) (by kernel_rfl) a w hb.1 (fun j b hj => hb.2 b (List.mem_of_getElem? hj)) (tab_of_glob hg (g := 0) (by kernel_rfl) (by kernel_rfl))).mono ?_
    rintro e w' ⟨rfl, rfl⟩
    refine ⟨_, rfl, alloc_below _ _, ?_⟩
    obtain ⟨l, hl⟩ : ∃ l, Lib.fields a.data.toList = l := ⟨_, rfl⟩
    rw [hl]
    have := frOK_alloc (w := w) (I := I) (K := K) (xs := (l.map fun l => bs l).map D.s) (vs := l.map fun l => Value.string ⟨l.toArray⟩) (t := 9) hI hK (by simp) (fun x hx => by
      obtain ⟨y, _, rfl⟩ := List.mem_map.1 hx; rfl) (fun v hv => by
      obtain ⟨y, _, rfl⟩ := List.mem_map.1 hv; rfl) (fun j d hj => by
      simp only [List.getElem?_map] at hj
      obtain ⟨y, hy, rfl⟩ := Option.map_eq_some_iff.1 hj
      obtain ⟨z, hz, rfl⟩ := Option.map_eq_some_iff.1 hy
      simp only [Array.getD_eq_getD_getElem?, List.getElem?_toArray, List.getElem?_map, hz, Option.map_some, Option.getD_some]
      exact RelD.s _)
    simp only [List.length_map] at this
    exact .inl this
  exact fun ds a q => key ds a q
end Go.Proofs.YtpoiijkodpnobaaDoor
end
section
/- Contracts of the library at this program, in plain words. Written by a tool of the kit.
-/
namespace Go.Proofs
open Go.Shelf
def Tryd.laysC172_ren : Go.Shelf.Ren := ⟨fun | 172 => 15 | 244 => 22 | 245 => 23 | 247 => 30 | 279 => 31 | 280 => 32 | 281 => 33 | 282 => 34 | 287 => 54 | 316 => 55 | 171 => 17 | 205 => 56 | 321 => 66 | 322 => 67 | 243 => 27 | 246 => 47 | 283 => 60 | 284 => 61 | 285 => 62 | 286 => 63 | 129 => 72 | 317 => 71 | 318 => 73 | 319 => 74 | 320 => 75 | 337 => 79 | 338 => 80 | n => n, fun | 9 => 9 | 3 => 3 | 75 => 45 | 76 => 46 | 4 => 4 | 5 => 5 | 167 => 68 | 37 => 69 | 0 => 0 | 85 => 70 | 2 => 2 | 168 => 72 | 53 => 98 | 175 => 99 | 46 => 97 | 210 => 103 | 127 => 119 | 145 => 122 | 143 => 120 | 21 => 21 | 171 => 108 | 173 => 111 | 212 => 125 | 51 => 65 | 20 => 20 | 213 => 126 | 232 => 132 | 233 => 133 | 80 => 134 | n => n, fun | 15 => 3 | 16 => 4 | 17 => 5 | 18 => 8 | 19 => 9 | n => n⟩
theorem Tryd.laysC172 : Go.Proofs.LaysC.n172 Tryd.prog Tryd.laysC172_ren := {
  mixed := by kernel_rfl
  f129 := Tryd.func72.trans (congrArg some (by kernel_rfl))
  f171 := Tryd.func17.trans (congrArg some (by kernel_rfl))
  f172 := Tryd.func15.trans (congrArg some (by kernel_rfl))
  f205 := Tryd.func56.trans (congrArg some (by kernel_rfl))
  f243 := Tryd.func27.trans (congrArg some (by kernel_rfl))
  f244 := Tryd.func22.trans (congrArg some (by kernel_rfl))
  f245 := Tryd.func23.trans (congrArg some (by kernel_rfl))
  f246 := Tryd.func47.trans (congrArg some (by kernel_rfl))
  f247 := Tryd.func30.trans (congrArg some (by kernel_rfl))
  f279 := Tryd.func31.trans (congrArg some (by kernel_rfl))
  f280 := Tryd.func32.trans (congrArg some (by kernel_rfl))
  f281 := Tryd.func33.trans (congrArg some (by kernel_rfl))
  f282 := Tryd.func34.trans (congrArg some (by kernel_rfl))
  f283 := Tryd.func60.trans (congrArg some (by kernel_rfl))
  f284 := Tryd.func61.trans (congrArg some (by kernel_rfl))
  f285 := Tryd.func62.trans (congrArg some (by kernel_rfl))
  f286 := Tryd.func63.trans (congrArg some (by kernel_rfl))
  f287 := Tryd.func54.trans (congrArg some (by kernel_rfl))
  f316 := Tryd.func55.trans (congrArg some (by kernel_rfl))
  f317 := Tryd.func71.trans (congrArg some (by kernel_rfl))
  f318 := Tryd.func73.trans (congrArg some (by kernel_rfl))
  f319 := Tryd.func74.trans (congrArg some (by kernel_rfl))
  f320 := Tryd.func75.trans (congrArg some (by kernel_rfl))
  f321 := Tryd.func66.trans (congrArg some (by kernel_rfl))
  f322 := Tryd.func67.trans (congrArg some (by kernel_rfl))
  f337 := Tryd.func79.trans (congrArg some (by kernel_rfl))
  f338 := Tryd.func80.trans (congrArg some (by kernel_rfl))
  t0 := Tryd.underlying0
  a0 := Tryd.isAgg0
  z0 := Tryd.sizeOf0
  v0 := Tryd.zeroValue0
  t2 := Tryd.underlying2
  a2 := Tryd.isAgg2
  z2 := Tryd.sizeOf2
  v2 := Tryd.zeroValue2
  t3 := Tryd.underlying3
  a3 := Tryd.isAgg3
  z3 := Tryd.sizeOf3
  v3 := Tryd.zeroValue3
  t4 := Tryd.underlying4
  a4 := Tryd.isAgg4
  z4 := Tryd.sizeOf4
  v4 := Tryd.zeroValue4
  t5 := Tryd.underlying5
  a5 := Tryd.isAgg5
  z5 := Tryd.sizeOf5
  v5 := Tryd.zeroValue5
  t9 := Tryd.underlying9
  a9 := Tryd.isAgg9
  z9 := Tryd.sizeOf9
  v9 := Tryd.zeroValue9
  t20 := Tryd.underlying20
  a20 := Tryd.isAgg20
  z20 := Tryd.sizeOf20
  v20 := Tryd.zeroValue20
  t21 := Tryd.underlying21
  a21 := Tryd.isAgg21
  z21 := Tryd.sizeOf21
  v21 := Tryd.zeroValue21
  t37 := Tryd.underlying69
  a37 := Tryd.isAgg69
  z37 := Tryd.sizeOf69
  v37 := Tryd.zeroValue69
  t46 := Tryd.underlying97
  a46 := Tryd.isAgg97
  z46 := Tryd.sizeOf97
  v46 := Tryd.zeroValue97
  t51 := Tryd.underlying65
  a51 := Tryd.isAgg65
  z51 := Tryd.sizeOf65
  v51 := Tryd.zeroValue65
  t53 := Tryd.underlying98
  a53 := Tryd.isAgg98
  z53 := Tryd.sizeOf98
  v53 := Tryd.zeroValue98
  t75 := Tryd.underlying45
  a75 := Tryd.isAgg45
  z75 := Tryd.sizeOf45
  v75 := Tryd.zeroValue45
  t76 := Tryd.underlying46
  a76 := Tryd.isAgg46
  z76 := Tryd.sizeOf46
  v76 := Tryd.zeroValue46
  t85 := Tryd.underlying70
  a85 := Tryd.isAgg70
  z85 := Tryd.sizeOf70
  v85 := Tryd.zeroValue70
  t127 := Tryd.underlying119
  a127 := Tryd.isAgg119
  z127 := Tryd.sizeOf119
  v127 := Tryd.zeroValue119
  t143 := Tryd.underlying120
  a143 := Tryd.isAgg120
  z143 := Tryd.sizeOf120
  v143 := Tryd.zeroValue120
  t145 := Tryd.underlying122
  a145 := Tryd.isAgg122
  z145 := Tryd.sizeOf122
  v145 := Tryd.zeroValue122
  t167 := Tryd.underlying68
  a167 := Tryd.isAgg68
  z167 := Tryd.sizeOf68
  v167 := Tryd.zeroValue68
  t168 := Tryd.underlying72
  a168 := Tryd.isAgg72
  z168 := Tryd.sizeOf72
  v168 := Tryd.zeroValue72
  t171 := Tryd.underlying108
  a171 := Tryd.isAgg108
  z171 := Tryd.sizeOf108
  v171 := Tryd.zeroValue108
  t173 := Tryd.underlying111
  a173 := Tryd.isAgg111
  z173 := Tryd.sizeOf111
  v173 := Tryd.zeroValue111
  t175 := Tryd.underlying99
  a175 := Tryd.isAgg99
  z175 := Tryd.sizeOf99
  v175 := Tryd.zeroValue99
  t210 := Tryd.underlying103
  a210 := Tryd.isAgg103
  z210 := Tryd.sizeOf103
  v210 := Tryd.zeroValue103
  t212 := Tryd.underlying125
  a212 := Tryd.isAgg125
  z212 := Tryd.sizeOf125
  v212 := Tryd.zeroValue125
  t213 := Tryd.underlying126
  a213 := Tryd.isAgg126
  z213 := Tryd.sizeOf126
  t232 := Tryd.underlying132
  a232 := Tryd.isAgg132
  z232 := Tryd.sizeOf132
  v232 := Tryd.zeroValue132
  t233 := Tryd.underlying133
  a233 := Tryd.isAgg133
  z233 := Tryd.sizeOf133
  v233 := Tryd.zeroValue133
  g15 := by kernel_rfl
  g16 := by kernel_rfl
  g17 := by kernel_rfl
  g18 := by kernel_rfl
  g19 := by kernel_rfl
  t80 := Tryd.underlying134
  a80 := Tryd.isAgg134
  z80 := Tryd.sizeOf134
  v80 := Tryd.zeroValue134
  i0 := by kernel_rfl
  i2 := by kernel_rfl
  i3 := by kernel_rfl
  i4 := by kernel_rfl
  i5 := by kernel_rfl
  i9 := by kernel_rfl
  i20 := by kernel_rfl
  i21 := by kernel_rfl
  i37 := by kernel_rfl
  i46 := by kernel_rfl
  i51 := by kernel_rfl
  i53 := by kernel_rfl
  i75 := by kernel_rfl
  i76 := by kernel_rfl
  i80 := by kernel_rfl
  i85 := by kernel_rfl
  i127 := by kernel_rfl
  i143 := by kernel_rfl
  i145 := by kernel_rfl
  i167 := by kernel_rfl
  i168 := by kernel_rfl
  i171 := by kernel_rfl
  i173 := by kernel_rfl
  i175 := by kernel_rfl
  i210 := by kernel_rfl
  i212 := by kernel_rfl
  i232 := by kernel_rfl
  i233 := by kernel_rfl
  m15 := by kernel_rfl
  m16 := by kernel_rfl
  m17 := by kernel_rfl
  m18 := by kernel_rfl
  m19 := by kernel_rfl
  c0 := by kernel_rfl
  c2 := by kernel_rfl
  c3 := by kernel_rfl
  c4 := by kernel_rfl
  c5 := by kernel_rfl
  c9 := by kernel_rfl
  c20 := by kernel_rfl
  c21 := by kernel_rfl
  c37 := by kernel_rfl
  c46 := by kernel_rfl
  c51 := by kernel_rfl
  c53 := by kernel_rfl
  c75 := by kernel_rfl
  c76 := by kernel_rfl
  c80 := by kernel_rfl
  c85 := by kernel_rfl
  c127 := by kernel_rfl
  c143 := by kernel_rfl
  c145 := by kernel_rfl
  c167 := by kernel_rfl
  c168 := by kernel_rfl
  c171 := by kernel_rfl
  c173 := by kernel_rfl
  c175 := by kernel_rfl
  c210 := by kernel_rfl
  c212 := by kernel_rfl
  c213 := by kernel_rfl
  c232 := by kernel_rfl
  c233 := by kernel_rfl }
end Go.Proofs
end
section
/- strconv.Atoi, as a row, by the library's contracts. By this session. -/
set_option linter.unusedVariables false
namespace Go.Proofs.YtpoiijkodpnobaaDoor
open Go Go.Fw Go.RowKit Go.Shelf
def atoiU (l : List UInt8) : Int × Bool := match Lib.atoiAll l with
  | .ok v => (v, false)
  | .«syntax» => (0, true)
  | .range => (Lib.atoiSat l, true)
abbrev strconv_Atoi.As : Shs := .cons (.x .s) .nil
abbrev strconv_Atoi.m : Back := [(false, .i .i64), (false, .e)]
abbrev strconv_Atoi.f (a : ByteArray) : Option (Int × Bool) := bif decide (a.size ≤ 281474976710656) then some (atoiU a.data.toList) else none
noncomputable abbrev strconv_Atoi.row : Row := fnRow 15 strconv_Atoi.As strconv_Atoi.m strconv_Atoi.f
theorem atoi_bytes_below (w : World) (t : TypeId) (s : ByteArray) : Below w.heap.size w (Lib.bytesWorld w t s) := by
  unfold Lib.bytesWorld World.freeze
  rw [if_neg (by decide)]
  refine ⟨rfl, rfl, rfl, by simp, fun k hk => ?_⟩
  show ((w.heap.push _).modify _ _)[k]? = _
  rw [Array.getElem?_modify, if_neg (by show ¬ w.heap.size = k; omega), Array.getElem?_push, if_neg (by omega)]
theorem strconv_Atoi.row_ok : RowOK P G1 strconv_Atoi.row := by
  have key : ∀ (ds : List D) (a : ByteArray) (q : Int × Bool), decArgs strconv_Atoi.As ds = some a → strconv_Atoi.f a = some q → Fw.Enters P 15 ∧ PCall P G1 15 ds (.tp [.i .i64 q.1, .er q.2]) := by
    intro ds a q ha hq
    refine ⟨ent_of Tryd.func15 (by kernel_rfl) (by kernel_rfl), ?_⟩
    have hds := (decArgs_argD ha).symm
    refine PCall.coe (ds' := argD strconv_Atoi.As a) ?_ (by rw [← hds]; exact coeA_len) fun w I f hf => by rw [← hds]; exact coeA_rel hf
    refine pcall_below fun w I K vs hg hsz hr => ?_
    have h0 := hr 0 (.s a) rfl
    have hvs : vs = #[.string a] := by
      have hs : vs.size = 1 := hsz
      rw [Array.getD_eq_getD_getElem?, Array.getElem?_eq_getElem (by omega)] at h0
      simp only [Option.getD_some] at h0
      refine Array.ext (by simpa using hs) fun i hi hi' => ?_
      match i, hi with
      | 0, _ => cases h : vs[0] <;> rw [h] at h0 <;> cases h0; rfl
      | i + 1, hi => omega
    subst hvs
    unfold strconv_Atoi.f at hq
    obtain ⟨hb, hq⟩ := cond_some hq
    simp only [decide_eq_true_eq] at hb
    injection hq with hq
    subst hq
    unfold atoiU
    have tup : ∀ (w' : World) (n : Int) (b : Bool) (v : Value), RelD w' I (.er b) v → RelX w' I K (.tp [.i .i64 n, .er b]) (.tuple #[.int .i64 n, v]) := fun w' n b v hv => ⟨_, rfl, RelD.i .i64 n, ⟨hv, trivial, fun b h => by cases b <;> cases h⟩, fun b h => by cases h⟩
    cases hp : Lib.atoiAll a.data.toList with
    | ok u =>
      refine (Any.strconv_Atoi_ok Tryd.laysC172 a (by omega) u hp w).mono ?_
      rintro e w' ⟨rfl, hw⟩
      refine ⟨_, rfl, ?_, tup w' u false _ .er0⟩
      rcases hw with rfl | ⟨t, rfl⟩
      · exact .refl _ _
      · exact atoi_bytes_below _ _ _
    | «syntax» =>
      obtain ⟨tp, p, hv⟩ := err_of_glob (P := P) hg (g := 3) (name := "strconv.ErrSyntax") (by kernel_rfl) rfl
      refine (Any.strconv_Atoi_syntax_var Tryd.laysC172 a hb hp tp p w hv).mono ?_
      rintro e w' ⟨N, rfl, _, _, hb⟩
      exact ⟨_, rfl, hb, tup w' 0 true _ (.er1 _ _)⟩
    | range =>
      obtain ⟨tp, p, hv⟩ := err_of_glob (P := P) hg (g := 4) (name := "strconv.ErrRange") (by kernel_rfl) rfl
      refine (Any.strconv_Atoi_range_var Tryd.laysC172 a hb hp tp p w hv).mono ?_
      rintro e w' ⟨N, rfl, _, _, hb⟩
      exact ⟨_, rfl, hb, tup w' _ true _ (.er1 _ _)⟩
  exact fun ds a q => key ds a q
end Go.Proofs.YtpoiijkodpnobaaDoor
end
section
/- The Go function spec.kinds, as a Lean function, and that it is this one. Written by a program of this session. -/
set_option linter.unusedVariables false
set_option maxRecDepth 100000
namespace Go.Proofs.YtpoiijkodpnobaaDoor
open Go Go.Fw
abbrev spec_kinds.row : Row := closedRow 26 (.ag [.s (bs []), .nF, .s (bs [110]), .fn 42 [], .s (bs [97, 110]), .fn 43 [], .s (bs [97, 110, 115]), .fn 45 [], .s (bs [98]), .fn 46 []])
theorem spec_kinds.row_ok : RowOK P G0 spec_kinds.row := closed_ok e0_ok j0_ok (T := []) trivial 60 (by kernel_rfl)
end Go.Proofs.YtpoiijkodpnobaaDoor
end
section
/- The Go function spec.read, as a Lean function, and that it is this one. Written by a program of this session. -/
set_option linter.unusedVariables false
set_option maxRecDepth 100000
namespace Go.Proofs.YtpoiijkodpnobaaDoor
open Go Go.Fw
noncomputable abbrev spec_read.tab : List (ByteArray × Int × Int × Int) := [(bs [110, 46, 46, 49, 57], (1, 2, 19)), (bs [110, 54], (1, 0, 6)), (bs [110, 49, 50], (1, 0, 12)), (bs [110, 49, 48], (1, 0, 10)), (bs [110, 56], (1, 0, 8)), (bs [110, 52], (1, 0, 4)), (bs [110, 51], (1, 0, 3)), (bs [110, 50], (1, 0, 2)), (bs [110, 49], (1, 0, 1)), (bs [97, 110, 57], (2, 0, 9)), (bs [110, 46, 46, 49, 49], (1, 2, 11)), (bs [97, 110, 46, 46, 50, 56], (2, 2, 28)), (bs [97, 110, 115, 46, 46, 51, 55], (3, 2, 37)), (bs [97, 110, 115, 46, 46, 46, 49, 48, 52], (3, 3, 104)), (bs [97, 110, 49, 50], (2, 0, 12)), (bs [97, 110, 54], (2, 0, 6)), (bs [97, 110, 50], (2, 0, 2)), (bs [97, 110, 51], (2, 0, 3)), (bs [97, 110, 115, 56], (3, 0, 8)), (bs [97, 110, 115, 49, 53], (3, 0, 15)), (bs [97, 110, 115, 52, 48], (3, 0, 40)), (bs [97, 110, 115, 46, 46, 50, 53], (3, 2, 25)), (bs [97, 110, 115, 46, 46, 55, 54], (3, 2, 76)), (bs [97, 110, 115, 46, 46, 46, 57, 57, 57], (3, 3, 999)), (bs [98, 56], (4, 0, 8)), (bs [110, 49, 54], (1, 0, 16)), (bs [97, 110, 46, 46, 46, 49, 50, 48], (2, 3, 120)), (bs [110, 52, 50], (1, 0, 42)), (bs [97, 110, 49], (2, 0, 1)), (bs [97, 110, 53], (2, 0, 5)), (bs [97, 110, 55], (2, 0, 7)), (bs [97, 110, 52, 50], (2, 0, 42)), (bs [97, 110, 49, 55], (2, 0, 17)), (bs [97, 110, 115, 50, 53], (3, 0, 25)), (bs [97, 110, 115, 46, 46, 49, 55], (3, 2, 17)), (bs [97, 110, 115, 46, 46, 50, 56], (3, 2, 28)), (bs [97, 110, 115, 46, 46, 46, 49, 48, 48], (3, 3, 100))]
abbrev spec_read.m : Back := [(false, T_api_Spec)]
noncomputable def spec_read.f : ByteArray → Option (Int × Int × Int) := lookT spec_read.tab
noncomputable abbrev spec_read.row : Row := fnRow 16 AsT spec_read.m spec_read.f
theorem spec_read.row_ok : RowOK P G1 spec_read.row := told_texts e0_ok j0_ok (T := [strconv_Atoi.row, spec_kinds.row]) ⟨strconv_Atoi.row_ok, ⟨(spec_kinds.row_ok.more g01), trivial⟩⟩ (m := spec_read.m) spec_read.tab 60 (by kernel_rfl)
end Go.Proofs.YtpoiijkodpnobaaDoor
end
section
/- The Go function spec.table, as a Lean function, and that it is this one. Written by a program of this session. -/
set_option linter.unusedVariables false
set_option maxRecDepth 100000
namespace Go.Proofs.YtpoiijkodpnobaaDoor
open Go Go.Fw
abbrev spec_table.row : Row := closedRow 8 (.ag [.i .i64 0, .i .i64 0, .i .i64 0, .i .i64 0, .i .i64 0, .i .i64 0, .i .i64 1, .i .i64 2, .i .i64 19, .i .i64 1, .i .i64 0, .i .i64 6, .i .i64 1, .i .i64 0, .i .i64 12, .i .i64 1, .i .i64 0, .i .i64 12, .i .i64 1, .i .i64 0, .i .i64 12, .i .i64 1, .i .i64 0, .i .i64 10, .i .i64 1, .i .i64 0, .i .i64 8, .i .i64 1, .i .i64 0, .i .i64 8, .i .i64 1, .i .i64 0, .i .i64 8, .i .i64 1, .i .i64 0, .i .i64 6, .i .i64 1, .i .i64 0, .i .i64 6, .i .i64 1, .i .i64 0, .i .i64 4, .i .i64 1, .i .i64 0, .i .i64 4, .i .i64 1, .i .i64 0, .i .i64 4, .i .i64 1, .i .i64 0, .i .i64 4, .i .i64 1, .i .i64 0, .i .i64 4, .i .i64 1, .i .i64 0, .i .i64 4, .i .i64 1, .i .i64 0, .i .i64 3, .i .i64 1, .i .i64 0, .i .i64 3, .i .i64 1, .i .i64 0, .i .i64 3, .i .i64 1, .i .i64 0, .i .i64 3, .i .i64 1, .i .i64 0, .i .i64 3, .i .i64 1, .i .i64 0, .i .i64 3, .i .i64 1, .i .i64 0, .i .i64 2, .i .i64 1, .i .i64 0, .i .i64 2, .i .i64 1, .i .i64 0, .i .i64 1, .i .i64 2, .i .i64 0, .i .i64 9, .i .i64 2, .i .i64 0, .i .i64 9, .i .i64 2, .i .i64 0, .i .i64 9, .i .i64 2, .i .i64 0, .i .i64 9, .i .i64 1, .i .i64 2, .i .i64 11, .i .i64 1, .i .i64 2, .i .i64 11, .i .i64 2, .i .i64 2, .i .i64 28, .i .i64 3, .i .i64 2, .i .i64 37, .i .i64 3, .i .i64 3, .i .i64 104, .i .i64 2, .i .i64 0, .i .i64 12, .i .i64 2, .i .i64 0, .i .i64 6, .i .i64 2, .i .i64 0, .i .i64 2, .i .i64 2, .i .i64 0, .i .i64 3, .i .i64 3, .i .i64 0, .i .i64 8, .i .i64 3, .i .i64 0, .i .i64 15, .i .i64 3, .i .i64 0, .i .i64 40, .i .i64 3, .i .i64 2, .i .i64 25, .i .i64 3, .i .i64 2, .i .i64 76, .i .i64 3, .i .i64 3, .i .i64 999, .i .i64 3, .i .i64 3, .i .i64 999, .i .i64 3, .i .i64 3, .i .i64 999, .i .i64 2, .i .i64 0, .i .i64 3, .i .i64 2, .i .i64 0, .i .i64 3, .i .i64 2, .i .i64 0, .i .i64 3, .i .i64 4, .i .i64 0, .i .i64 8, .i .i64 1, .i .i64 0, .i .i64 16, .i .i64 2, .i .i64 3, .i .i64 120, .i .i64 3, .i .i64 3, .i .i64 999, .i .i64 3, .i .i64 3, .i .i64 999, .i .i64 3, .i .i64 3, .i .i64 999, .i .i64 3, .i .i64 3, .i .i64 999, .i .i64 3, .i .i64 3, .i .i64 999, .i .i64 3, .i .i64 3, .i .i64 999, .i .i64 3, .i .i64 3, .i .i64 999, .i .i64 3, .i .i64 3, .i .i64 999, .i .i64 3, .i .i64 3, .i .i64 999, .i .i64 4, .i .i64 0, .i .i64 8, .i .i64 0, .i .i64 0, .i .i64 0, .i .i64 1, .i .i64 0, .i .i64 1, .i .i64 1, .i .i64 0, .i .i64 2, .i .i64 1, .i .i64 0, .i .i64 3, .i .i64 1, .i .i64 0, .i .i64 3, .i .i64 1, .i .i64 0, .i .i64 3, .i .i64 1, .i .i64 0, .i .i64 4, .i .i64 1, .i .i64 0, .i .i64 4, .i .i64 1, .i .i64 0, .i .i64 6, .i .i64 1, .i .i64 0, .i .i64 10, .i .i64 1, .i .i64 0, .i .i64 10, .i .i64 1, .i .i64 0, .i .i64 10, .i .i64 1, .i .i64 0, .i .i64 10, .i .i64 1, .i .i64 0, .i .i64 10, .i .i64 1, .i .i64 0, .i .i64 10, .i .i64 1, .i .i64 0, .i .i64 10, .i .i64 1, .i .i64 0, .i .i64 10, .i .i64 1, .i .i64 0, .i .i64 12, .i .i64 1, .i .i64 0, .i .i64 12, .i .i64 1, .i .i64 0, .i .i64 12, .i .i64 1, .i .i64 0, .i .i64 12, .i .i64 1, .i .i64 0, .i .i64 16, .i .i64 1, .i .i64 0, .i .i64 16, .i .i64 1, .i .i64 0, .i .i64 16, .i .i64 1, .i .i64 0, .i .i64 16, .i .i64 1, .i .i64 0, .i .i64 42, .i .i64 2, .i .i64 0, .i .i64 1, .i .i64 2, .i .i64 0, .i .i64 2, .i .i64 2, .i .i64 0, .i .i64 5, .i .i64 2, .i .i64 0, .i .i64 7, .i .i64 2, .i .i64 0, .i .i64 42, .i .i64 4, .i .i64 0, .i .i64 8, .i .i64 2, .i .i64 0, .i .i64 17, .i .i64 3, .i .i64 0, .i .i64 25, .i .i64 1, .i .i64 2, .i .i64 11, .i .i64 1, .i .i64 2, .i .i64 11, .i .i64 3, .i .i64 2, .i .i64 17, .i .i64 3, .i .i64 2, .i .i64 28, .i .i64 3, .i .i64 2, .i .i64 28, .i .i64 3, .i .i64 3, .i .i64 100, .i .i64 3, .i .i64 3, .i .i64 999, .i .i64 3, .i .i64 3, .i .i64 999, .i .i64 3, .i .i64 3, .i .i64 999, .i .i64 3, .i .i64 3, .i .i64 999, .i .i64 3, .i .i64 3, .i .i64 999, .i .i64 3, .i .i64 3, .i .i64 999, .i .i64 3, .i .i64 3, .i .i64 999, .i .i64 3, .i .i64 3, .i .i64 999, .i .i64 3, .i .i64 3, .i .i64 999, .i .i64 3, .i .i64 3, .i .i64 999, .i .i64 3, .i .i64 3, .i .i64 999, .i .i64 3, .i .i64 3, .i .i64 999, .i .i64 3, .i .i64 3, .i .i64 999, .i .i64 3, .i .i64 3, .i .i64 999, .i .i64 3, .i .i64 3, .i .i64 999, .i .i64 3, .i .i64 3, .i .i64 999, .i .i64 3, .i .i64 3, .i .i64 999, .i .i64 3, .i .i64 3, .i .i64 999, .i .i64 3, .i .i64 3, .i .i64 999, .i .i64 3, .i .i64 3, .i .i64 999, .i .i64 3, .i .i64 3, .i .i64 999, .i .i64 3, .i .i64 3, .i .i64 999, .i .i64 3, .i .i64 3, .i .i64 999, .i .i64 4, .i .i64 0, .i .i64 8])
theorem spec_table.row_ok : RowOK P G1 spec_table.row := closed_ok e0_ok j0_ok (T := [strings_Fields.row, strconv_Atoi.row, spec_read.row]) ⟨(strings_Fields.row_ok.more g01), ⟨strconv_Atoi.row_ok, ⟨spec_read.row_ok, trivial⟩⟩⟩ 400 (by kernel_rfl)
end Go.Proofs.YtpoiijkodpnobaaDoor
end
section
/- The Go function spec.Of, as a Lean function, and that it is this one. Written by a program of this session. -/
set_option linter.unusedVariables false
set_option maxRecDepth 100000
namespace Go.Proofs.YtpoiijkodpnobaaDoor
open Go Go.Fw
abbrev spec_Of.As : Shs := (.cons (.x (.i .i64)) .nil)
abbrev spec_Of.m : Back := [(false, T_api_Spec), (false, (.i .i64))]
noncomputable abbrev spec_Of.H : HK := hk P G1 E0 J0 [spec_table.row] noLoops 4
theorem spec_Of.rows : TabOK P G1 (tabF [spec_table.row]) := rows_ok (ws := [spec_table.row]) ⟨spec_table.row_ok, trivial⟩
theorem spec_Of.hok : HKOK P spec_Of.H := hk_ok e0_ok j0_ok spec_Of.rows (fun g n => noLoops_ok g n) 4
noncomputable def spec_Of.f (a : Int) : Option ((Int × (Int × Int)) × Int) := (bif (decide ((a < (0 : Int)))) then (some (((0 : Int), ((0 : Int), (0 : Int))), (7 : Int))) else (bif (decide ((a > (128 : Int)))) then (some (((0 : Int), ((0 : Int), (0 : Int))), (7 : Int))) else (bif ((decide (((0 : Int) ≤ a))) && (decide ((a < (129 : Int))))) then (bif (((List.getD [((0 : Int), ((0 : Int), (0 : Int))), ((0 : Int), ((0 : Int), (0 : Int))), ((1 : Int), ((2 : Int), (19 : Int))), ((1 : Int), ((0 : Int), (6 : Int))), ((1 : Int), ((0 : Int), (12 : Int))), ((1 : Int), ((0 : Int), (12 : Int))), ((1 : Int), ((0 : Int), (12 : Int))), ((1 : Int), ((0 : Int), (10 : Int))), ((1 : Int), ((0 : Int), (8 : Int))), ((1 : Int), ((0 : Int), (8 : Int))), ((1 : Int), ((0 : Int), (8 : Int))), ((1 : Int), ((0 : Int), (6 : Int))), ((1 : Int), ((0 : Int), (6 : Int))), ((1 : Int), ((0 : Int), (4 : Int))), ((1 : Int), ((0 : Int), (4 : Int))), ((1 : Int), ((0 : Int), (4 : Int))), ((1 : Int), ((0 : Int), (4 : Int))), ((1 : Int), ((0 : Int), (4 : Int))), ((1 : Int), ((0 : Int), (4 : Int))), ((1 : Int), ((0 : Int), (3 : Int))), ((1 : Int), ((0 : Int), (3 : Int))), ((1 : Int), ((0 : Int), (3 : Int))), ((1 : Int), ((0 : Int), (3 : Int))), ((1 : Int), ((0 : Int), (3 : Int))), ((1 : Int), ((0 : Int), (3 : Int))), ((1 : Int), ((0 : Int), (2 : Int))), ((1 : Int), ((0 : Int), (2 : Int))), ((1 : Int), ((0 : Int), (1 : Int))), ((2 : Int), ((0 : Int), (9 : Int))), ((2 : Int), ((0 : Int), (9 : Int))), ((2 : Int), ((0 : Int), (9 : Int))), ((2 : Int), ((0 : Int), (9 : Int))), ((1 : Int), ((2 : Int), (11 : Int))), ((1 : Int), ((2 : Int), (11 : Int))), ((2 : Int), ((2 : Int), (28 : Int))), ((3 : Int), ((2 : Int), (37 : Int))), ((3 : Int), ((3 : Int), (104 : Int))), ((2 : Int), ((0 : Int), (12 : Int))), ((2 : Int), ((0 : Int), (6 : Int))), ((2 : Int), ((0 : Int), (2 : Int))), ((2 : Int), ((0 : Int), (3 : Int))), ((3 : Int), ((0 : Int), (8 : Int))), ((3 : Int), ((0 : Int), (15 : Int))), ((3 : Int), ((0 : Int), (40 : Int))), ((3 : Int), ((2 : Int), (25 : Int))), ((3 : Int), ((2 : Int), (76 : Int))), ((3 : Int), ((3 : Int), (999 : Int))), ((3 : Int), ((3 : Int), (999 : Int))), ((3 : Int), ((3 : Int), (999 : Int))), ((2 : Int), ((0 : Int), (3 : Int))), ((2 : Int), ((0 : Int), (3 : Int))), ((2 : Int), ((0 : Int), (3 : Int))), ((4 : Int), ((0 : Int), (8 : Int))), ((1 : Int), ((0 : Int), (16 : Int))), ((2 : Int), ((3 : Int), (120 : Int))), ((3 : Int), ((3 : Int), (999 : Int))), ((3 : Int), ((3 : Int), (999 : Int))), ((3 : Int), ((3 : Int), (999 : Int))), ((3 : Int), ((3 : Int), (999 : Int))), ((3 : Int), ((3 : Int), (999 : Int))), ((3 : Int), ((3 : Int), (999 : Int))), ((3 : Int), ((3 : Int), (999 : Int))), ((3 : Int), ((3 : Int), (999 : Int))), ((3 : Int), ((3 : Int), (999 : Int))), ((4 : Int), ((0 : Int), (8 : Int))), ((0 : Int), ((0 : Int), (0 : Int))), ((1 : Int), ((0 : Int), (1 : Int))), ((1 : Int), ((0 : Int), (2 : Int))), ((1 : Int), ((0 : Int), (3 : Int))), ((1 : Int), ((0 : Int), (3 : Int))), ((1 : Int), ((0 : Int), (3 : Int))), ((1 : Int), ((0 : Int), (4 : Int))), ((1 : Int), ((0 : Int), (4 : Int))), ((1 : Int), ((0 : Int), (6 : Int))), ((1 : Int), ((0 : Int), (10 : Int))), ((1 : Int), ((0 : Int), (10 : Int))), ((1 : Int), ((0 : Int), (10 : Int))), ((1 : Int), ((0 : Int), (10 : Int))), ((1 : Int), ((0 : Int), (10 : Int))), ((1 : Int), ((0 : Int), (10 : Int))), ((1 : Int), ((0 : Int), (10 : Int))), ((1 : Int), ((0 : Int), (10 : Int))), ((1 : Int), ((0 : Int), (12 : Int))), ((1 : Int), ((0 : Int), (12 : Int))), ((1 : Int), ((0 : Int), (12 : Int))), ((1 : Int), ((0 : Int), (12 : Int))), ((1 : Int), ((0 : Int), (16 : Int))), ((1 : Int), ((0 : Int), (16 : Int))), ((1 : Int), ((0 : Int), (16 : Int))), ((1 : Int), ((0 : Int), (16 : Int))), ((1 : Int), ((0 : Int), (42 : Int))), ((2 : Int), ((0 : Int), (1 : Int))), ((2 : Int), ((0 : Int), (2 : Int))), ((2 : Int), ((0 : Int), (5 : Int))), ((2 : Int), ((0 : Int), (7 : Int))), ((2 : Int), ((0 : Int), (42 : Int))), ((4 : Int), ((0 : Int), (8 : Int))), ((2 : Int), ((0 : Int), (17 : Int))), ((3 : Int), ((0 : Int), (25 : Int))), ((1 : Int), ((2 : Int), (11 : Int))), ((1 : Int), ((2 : Int), (11 : Int))), ((3 : Int), ((2 : Int), (17 : Int))), ((3 : Int), ((2 : Int), (28 : Int))), ((3 : Int), ((2 : Int), (28 : Int))), ((3 : Int), ((3 : Int), (100 : Int))), ((3 : Int), ((3 : Int), (999 : Int))), ((3 : Int), ((3 : Int), (999 : Int))), ((3 : Int), ((3 : Int), (999 : Int))), ((3 : Int), ((3 : Int), (999 : Int))), ((3 : Int), ((3 : Int), (999 : Int))), ((3 : Int), ((3 : Int), (999 : Int))), ((3 : Int), ((3 : Int), (999 : Int))), ((3 : Int), ((3 : Int), (999 : Int))), ((3 : Int), ((3 : Int), (999 : Int))), ((3 : Int), ((3 : Int), (999 : Int))), ((3 : Int), ((3 : Int), (999 : Int))), ((3 : Int), ((3 : Int), (999 : Int))), ((3 : Int), ((3 : Int), (999 : Int))), ((3 : Int), ((3 : Int), (999 : Int))), ((3 : Int), ((3 : Int), (999 : Int))), ((3 : Int), ((3 : Int), (999 : Int))), ((3 : Int), ((3 : Int), (999 : Int))), ((3 : Int), ((3 : Int), (999 : Int))), ((3 : Int), ((3 : Int), (999 : Int))), ((3 : Int), ((3 : Int), (999 : Int))), ((3 : Int), ((3 : Int), (999 : Int))), ((3 : Int), ((3 : Int), (999 : Int))), ((3 : Int), ((3 : Int), (999 : Int))), ((4 : Int), ((0 : Int), (8 : Int)))] (Int.toNat a) (Ty.dflt T_api_Spec)).1 == (0 : Int)) && (((List.getD [((0 : Int), ((0 : Int), (0 : Int))), ((0 : Int), ((0 : Int), (0 : Int))), ((1 : Int), ((2 : Int), (19 : Int))), ((1 : Int), ((0 : Int), (6 : Int))), ((1 : Int), ((0 : Int), (12 : Int))), ((1 : Int), ((0 : Int), (12 : Int))), ((1 : Int), ((0 : Int), (12 : Int))), ((1 : Int), ((0 : Int), (10 : Int))), ((1 : Int), ((0 : Int), (8 : Int))), ((1 : Int), ((0 : Int), (8 : Int))), ((1 : Int), ((0 : Int), (8 : Int))), ((1 : Int), ((0 : Int), (6 : Int))), ((1 : Int), ((0 : Int), (6 : Int))), ((1 : Int), ((0 : Int), (4 : Int))), ((1 : Int), ((0 : Int), (4 : Int))), ((1 : Int), ((0 : Int), (4 : Int))), ((1 : Int), ((0 : Int), (4 : Int))), ((1 : Int), ((0 : Int), (4 : Int))), ((1 : Int), ((0 : Int), (4 : Int))), ((1 : Int), ((0 : Int), (3 : Int))), ((1 : Int), ((0 : Int), (3 : Int))), ((1 : Int), ((0 : Int), (3 : Int))), ((1 : Int), ((0 : Int), (3 : Int))), ((1 : Int), ((0 : Int), (3 : Int))), ((1 : Int), ((0 : Int), (3 : Int))), ((1 : Int), ((0 : Int), (2 : Int))), ((1 : Int), ((0 : Int), (2 : Int))), ((1 : Int), ((0 : Int), (1 : Int))), ((2 : Int), ((0 : Int), (9 : Int))), ((2 : Int), ((0 : Int), (9 : Int))), ((2 : Int), ((0 : Int), (9 : Int))), ((2 : Int), ((0 : Int), (9 : Int))), ((1 : Int), ((2 : Int), (11 : Int))), ((1 : Int), ((2 : Int), (11 : Int))), ((2 : Int), ((2 : Int), (28 : Int))), ((3 : Int), ((2 : Int), (37 : Int))), ((3 : Int), ((3 : Int), (104 : Int))), ((2 : Int), ((0 : Int), (12 : Int))), ((2 : Int), ((0 : Int), (6 : Int))), ((2 : Int), ((0 : Int), (2 : Int))), ((2 : Int), ((0 : Int), (3 : Int))), ((3 : Int), ((0 : Int), (8 : Int))), ((3 : Int), ((0 : Int), (15 : Int))), ((3 : Int), ((0 : Int), (40 : Int))), ((3 : Int), ((2 : Int), (25 : Int))), ((3 : Int), ((2 : Int), (76 : Int))), ((3 : Int), ((3 : Int), (999 : Int))), ((3 : Int), ((3 : Int), (999 : Int))), ((3 : Int), ((3 : Int), (999 : Int))), ((2 : Int), ((0 : Int), (3 : Int))), ((2 : Int), ((0 : Int), (3 : Int))), ((2 : Int), ((0 : Int), (3 : Int))), ((4 : Int), ((0 : Int), (8 : Int))), ((1 : Int), ((0 : Int), (16 : Int))), ((2 : Int), ((3 : Int), (120 : Int))), ((3 : Int), ((3 : Int), (999 : Int))), ((3 : Int), ((3 : Int), (999 : Int))), ((3 : Int), ((3 : Int), (999 : Int))), ((3 : Int), ((3 : Int), (999 : Int))), ((3 : Int), ((3 : Int), (999 : Int))), ((3 : Int), ((3 : Int), (999 : Int))), ((3 : Int), ((3 : Int), (999 : Int))), ((3 : Int), ((3 : Int), (999 : Int))), ((3 : Int), ((3 : Int), (999 : Int))), ((4 : Int), ((0 : Int), (8 : Int))), ((0 : Int), ((0 : Int), (0 : Int))), ((1 : Int), ((0 : Int), (1 : Int))), ((1 : Int), ((0 : Int), (2 : Int))), ((1 : Int), ((0 : Int), (3 : Int))), ((1 : Int), ((0 : Int), (3 : Int))), ((1 : Int), ((0 : Int), (3 : Int))), ((1 : Int), ((0 : Int), (4 : Int))), ((1 : Int), ((0 : Int), (4 : Int))), ((1 : Int), ((0 : Int), (6 : Int))), ((1 : Int), ((0 : Int), (10 : Int))), ((1 : Int), ((0 : Int), (10 : Int))), ((1 : Int), ((0 : Int), (10 : Int))), ((1 : Int), ((0 : Int), (10 : Int))), ((1 : Int), ((0 : Int), (10 : Int))), ((1 : Int), ((0 : Int), (10 : Int))), ((1 : Int), ((0 : Int), (10 : Int))), ((1 : Int), ((0 : Int), (10 : Int))), ((1 : Int), ((0 : Int), (12 : Int))), ((1 : Int), ((0 : Int), (12 : Int))), ((1 : Int), ((0 : Int), (12 : Int))), ((1 : Int), ((0 : Int), (12 : Int))), ((1 : Int), ((0 : Int), (16 : Int))), ((1 : Int), ((0 : Int), (16 : Int))), ((1 : Int), ((0 : Int), (16 : Int))), ((1 : Int), ((0 : Int), (16 : Int))), ((1 : Int), ((0 : Int), (42 : Int))), ((2 : Int), ((0 : Int), (1 : Int))), ((2 : Int), ((0 : Int), (2 : Int))), ((2 : Int), ((0 : Int), (5 : Int))), ((2 : Int), ((0 : Int), (7 : Int))), ((2 : Int), ((0 : Int), (42 : Int))), ((4 : Int), ((0 : Int), (8 : Int))), ((2 : Int), ((0 : Int), (17 : Int))), ((3 : Int), ((0 : Int), (25 : Int))), ((1 : Int), ((2 : Int), (11 : Int))), ((1 : Int), ((2 : Int), (11 : Int))), ((3 : Int), ((2 : Int), (17 : Int))), ((3 : Int), ((2 : Int), (28 : Int))), ((3 : Int), ((2 : Int), (28 : Int))), ((3 : Int), ((3 : Int), (100 : Int))), ((3 : Int), ((3 : Int), (999 : Int))), ((3 : Int), ((3 : Int), (999 : Int))), ((3 : Int), ((3 : Int), (999 : Int))), ((3 : Int), ((3 : Int), (999 : Int))), ((3 : Int), ((3 : Int), (999 : Int))), ((3 : Int), ((3 : Int), (999 : Int))), ((3 : Int), ((3 : Int), (999 : Int))), ((3 : Int), ((3 : Int), (999 : Int))), ((3 : Int), ((3 : Int), (999 : Int))), ((3 : Int), ((3 : Int), (999 : Int))), ((3 : Int), ((3 : Int), (999 : Int))), ((3 : Int), ((3 : Int), (999 : Int))), ((3 : Int), ((3 : Int), (999 : Int))), ((3 : Int), ((3 : Int), (999 : Int))), ((3 : Int), ((3 : Int), (999 : Int))), ((3 : Int), ((3 : Int), (999 : Int))), ((3 : Int), ((3 : Int), (999 : Int))), ((3 : Int), ((3 : Int), (999 : Int))), ((3 : Int), ((3 : Int), (999 : Int))), ((3 : Int), ((3 : Int), (999 : Int))), ((3 : Int), ((3 : Int), (999 : Int))), ((3 : Int), ((3 : Int), (999 : Int))), ((3 : Int), ((3 : Int), (999 : Int))), ((4 : Int), ((0 : Int), (8 : Int)))] (Int.toNat a) (Ty.dflt T_api_Spec)).2.1 == (0 : Int)) && (((List.getD [((0 : Int), ((0 : Int), (0 : Int))), ((0 : Int), ((0 : Int), (0 : Int))), ((1 : Int), ((2 : Int), (19 : Int))), ((1 : Int), ((0 : Int), (6 : Int))), ((1 : Int), ((0 : Int), (12 : Int))), ((1 : Int), ((0 : Int), (12 : Int))), ((1 : Int), ((0 : Int), (12 : Int))), ((1 : Int), ((0 : Int), (10 : Int))), ((1 : Int), ((0 : Int), (8 : Int))), ((1 : Int), ((0 : Int), (8 : Int))), ((1 : Int), ((0 : Int), (8 : Int))), ((1 : Int), ((0 : Int), (6 : Int))), ((1 : Int), ((0 : Int), (6 : Int))), ((1 : Int), ((0 : Int), (4 : Int))), ((1 : Int), ((0 : Int), (4 : Int))), ((1 : Int), ((0 : Int), (4 : Int))), ((1 : Int), ((0 : Int), (4 : Int))), ((1 : Int), ((0 : Int), (4 : Int))), ((1 : Int), ((0 : Int), (4 : Int))), ((1 : Int), ((0 : Int), (3 : Int))), ((1 : Int), ((0 : Int), (3 : Int))), ((1 : Int), ((0 : Int), (3 : Int))), ((1 : Int), ((0 : Int), (3 : Int))), ((1 : Int), ((0 : Int), (3 : Int))), ((1 : Int), ((0 : Int), (3 : Int))), ((1 : Int), ((0 : Int), (2 : Int))), ((1 : Int), ((0 : Int), (2 : Int))), ((1 : Int), ((0 : Int), (1 : Int))), ((2 : Int), ((0 : Int), (9 : Int))), ((2 : Int), ((0 : Int), (9 : Int))), ((2 : Int), ((0 : Int), (9 : Int))), ((2 : Int), ((0 : Int), (9 : Int))), ((1 : Int), ((2 : Int), (11 : Int))), ((1 : Int), ((2 : Int), (11 : Int))), ((2 : Int), ((2 : Int), (28 : Int))), ((3 : Int), ((2 : Int), (37 : Int))), ((3 : Int), ((3 : Int), (104 : Int))), ((2 : Int), ((0 : Int), (12 : Int))), ((2 : Int), ((0 : Int), (6 : Int))), ((2 : Int), ((0 : Int), (2 : Int))), ((2 : Int), ((0 : Int), (3 : Int))), ((3 : Int), ((0 : Int), (8 : Int))), ((3 : Int), ((0 : Int), (15 : Int))), ((3 : Int), ((0 : Int), (40 : Int))), ((3 : Int), ((2 : Int), (25 : Int))), ((3 : Int), ((2 : Int), (76 : Int))), ((3 : Int), ((3 : Int), (999 : Int))), ((3 : Int), ((3 : Int), (999 : Int))), ((3 : Int), ((3 : Int), (999 : Int))), ((2 : Int), ((0 : Int), (3 : Int))), ((2 : Int), ((0 : Int), (3 : Int))), ((2 : Int), ((0 : Int), (3 : Int))), ((4 : Int), ((0 : Int), (8 : Int))), ((1 : Int), ((0 : Int), (16 : Int))), ((2 : Int), ((3 : Int), (120 : Int))), ((3 : Int), ((3 : Int), (999 : Int))), ((3 : Int), ((3 : Int), (999 : Int))), ((3 : Int), ((3 : Int), (999 : Int))), ((3 : Int), ((3 : Int), (999 : Int))), ((3 : Int), ((3 : Int), (999 : Int))), ((3 : Int), ((3 : Int), (999 : Int))), ((3 : Int), ((3 : Int), (999 : Int))), ((3 : Int), ((3 : Int), (999 : Int))), ((3 : Int), ((3 : Int), (999 : Int))), ((4 : Int), ((0 : Int), (8 : Int))), ((0 : Int), ((0 : Int), (0 : Int))), ((1 : Int), ((0 : Int), (1 : Int))), ((1 : Int), ((0 : Int), (2 : Int))), ((1 : Int), ((0 : Int), (3 : Int))), ((1 : Int), ((0 : Int), (3 : Int))), ((1 : Int), ((0 : Int), (3 : Int))), ((1 : Int), ((0 : Int), (4 : Int))), ((1 : Int), ((0 : Int), (4 : Int))), ((1 : Int), ((0 : Int), (6 : Int))), ((1 : Int), ((0 : Int), (10 : Int))), ((1 : Int), ((0 : Int), (10 : Int))), ((1 : Int), ((0 : Int), (10 : Int))), ((1 : Int), ((0 : Int), (10 : Int))), ((1 : Int), ((0 : Int), (10 : Int))), ((1 : Int), ((0 : Int), (10 : Int))), ((1 : Int), ((0 : Int), (10 : Int))), ((1 : Int), ((0 : Int), (10 : Int))), ((1 : Int), ((0 : Int), (12 : Int))), ((1 : Int), ((0 : Int), (12 : Int))), ((1 : Int), ((0 : Int), (12 : Int))), ((1 : Int), ((0 : Int), (12 : Int))), ((1 : Int), ((0 : Int), (16 : Int))), ((1 : Int), ((0 : Int), (16 : Int))), ((1 : Int), ((0 : Int), (16 : Int))), ((1 : Int), ((0 : Int), (16 : Int))), ((1 : Int), ((0 : Int), (42 : Int))), ((2 : Int), ((0 : Int), (1 : Int))), ((2 : Int), ((0 : Int), (2 : Int))), ((2 : Int), ((0 : Int), (5 : Int))), ((2 : Int), ((0 : Int), (7 : Int))), ((2 : Int), ((0 : Int), (42 : Int))), ((4 : Int), ((0 : Int), (8 : Int))), ((2 : Int), ((0 : Int), (17 : Int))), ((3 : Int), ((0 : Int), (25 : Int))), ((1 : Int), ((2 : Int), (11 : Int))), ((1 : Int), ((2 : Int), (11 : Int))), ((3 : Int), ((2 : Int), (17 : Int))), ((3 : Int), ((2 : Int), (28 : Int))), ((3 : Int), ((2 : Int), (28 : Int))), ((3 : Int), ((3 : Int), (100 : Int))), ((3 : Int), ((3 : Int), (999 : Int))), ((3 : Int), ((3 : Int), (999 : Int))), ((3 : Int), ((3 : Int), (999 : Int))), ((3 : Int), ((3 : Int), (999 : Int))), ((3 : Int), ((3 : Int), (999 : Int))), ((3 : Int), ((3 : Int), (999 : Int))), ((3 : Int), ((3 : Int), (999 : Int))), ((3 : Int), ((3 : Int), (999 : Int))), ((3 : Int), ((3 : Int), (999 : Int))), ((3 : Int), ((3 : Int), (999 : Int))), ((3 : Int), ((3 : Int), (999 : Int))), ((3 : Int), ((3 : Int), (999 : Int))), ((3 : Int), ((3 : Int), (999 : Int))), ((3 : Int), ((3 : Int), (999 : Int))), ((3 : Int), ((3 : Int), (999 : Int))), ((3 : Int), ((3 : Int), (999 : Int))), ((3 : Int), ((3 : Int), (999 : Int))), ((3 : Int), ((3 : Int), (999 : Int))), ((3 : Int), ((3 : Int), (999 : Int))), ((3 : Int), ((3 : Int), (999 : Int))), ((3 : Int), ((3 : Int), (999 : Int))), ((3 : Int), ((3 : Int), (999 : Int))), ((3 : Int), ((3 : Int), (999 : Int))), ((4 : Int), ((0 : Int), (8 : Int)))] (Int.toNat a) (Ty.dflt T_api_Spec)).2.2 == (0 : Int)) && true))) then (some ((List.getD [((0 : Int), ((0 : Int), (0 : Int))), ((0 : Int), ((0 : Int), (0 : Int))), ((1 : Int), ((2 : Int), (19 : Int))), ((1 : Int), ((0 : Int), (6 : Int))), ((1 : Int), ((0 : Int), (12 : Int))), ((1 : Int), ((0 : Int), (12 : Int))), ((1 : Int), ((0 : Int), (12 : Int))), ((1 : Int), ((0 : Int), (10 : Int))), ((1 : Int), ((0 : Int), (8 : Int))), ((1 : Int), ((0 : Int), (8 : Int))), ((1 : Int), ((0 : Int), (8 : Int))), ((1 : Int), ((0 : Int), (6 : Int))), ((1 : Int), ((0 : Int), (6 : Int))), ((1 : Int), ((0 : Int), (4 : Int))), ((1 : Int), ((0 : Int), (4 : Int))), ((1 : Int), ((0 : Int), (4 : Int))), ((1 : Int), ((0 : Int), (4 : Int))), ((1 : Int), ((0 : Int), (4 : Int))), ((1 : Int), ((0 : Int), (4 : Int))), ((1 : Int), ((0 : Int), (3 : Int))), ((1 : Int), ((0 : Int), (3 : Int))), ((1 : Int), ((0 : Int), (3 : Int))), ((1 : Int), ((0 : Int), (3 : Int))), ((1 : Int), ((0 : Int), (3 : Int))), ((1 : Int), ((0 : Int), (3 : Int))), ((1 : Int), ((0 : Int), (2 : Int))), ((1 : Int), ((0 : Int), (2 : Int))), ((1 : Int), ((0 : Int), (1 : Int))), ((2 : Int), ((0 : Int), (9 : Int))), ((2 : Int), ((0 : Int), (9 : Int))), ((2 : Int), ((0 : Int), (9 : Int))), ((2 : Int), ((0 : Int), (9 : Int))), ((1 : Int), ((2 : Int), (11 : Int))), ((1 : Int), ((2 : Int), (11 : Int))), ((2 : Int), ((2 : Int), (28 : Int))), ((3 : Int), ((2 : Int), (37 : Int))), ((3 : Int), ((3 : Int), (104 : Int))), ((2 : Int), ((0 : Int), (12 : Int))), ((2 : Int), ((0 : Int), (6 : Int))), ((2 : Int), ((0 : Int), (2 : Int))), ((2 : Int), ((0 : Int), (3 : Int))), ((3 : Int), ((0 : Int), (8 : Int))), ((3 : Int), ((0 : Int), (15 : Int))), ((3 : Int), ((0 : Int), (40 : Int))), ((3 : Int), ((2 : Int), (25 : Int))), ((3 : Int), ((2 : Int), (76 : Int))), ((3 : Int), ((3 : Int), (999 : Int))), ((3 : Int), ((3 : Int), (999 : Int))), ((3 : Int), ((3 : Int), (999 : Int))), ((2 : Int), ((0 : Int), (3 : Int))), ((2 : Int), ((0 : Int), (3 : Int))), ((2 : Int), ((0 : Int), (3 : Int))), ((4 : Int), ((0 : Int), (8 : Int))), ((1 : Int), ((0 : Int), (16 : Int))), ((2 : Int), ((3 : Int), (120 : Int))), ((3 : Int), ((3 : Int), (999 : Int))), ((3 : Int), ((3 : Int), (999 : Int))), ((3 : Int), ((3 : Int), (999 : Int))), ((3 : Int), ((3 : Int), (999 : Int))), ((3 : Int), ((3 : Int), (999 : Int))), ((3 : Int), ((3 : Int), (999 : Int))), ((3 : Int), ((3 : Int), (999 : Int))), ((3 : Int), ((3 : Int), (999 : Int))), ((3 : Int), ((3 : Int), (999 : Int))), ((4 : Int), ((0 : Int), (8 : Int))), ((0 : Int), ((0 : Int), (0 : Int))), ((1 : Int), ((0 : Int), (1 : Int))), ((1 : Int), ((0 : Int), (2 : Int))), ((1 : Int), ((0 : Int), (3 : Int))), ((1 : Int), ((0 : Int), (3 : Int))), ((1 : Int), ((0 : Int), (3 : Int))), ((1 : Int), ((0 : Int), (4 : Int))), ((1 : Int), ((0 : Int), (4 : Int))), ((1 : Int), ((0 : Int), (6 : Int))), ((1 : Int), ((0 : Int), (10 : Int))), ((1 : Int), ((0 : Int), (10 : Int))), ((1 : Int), ((0 : Int), (10 : Int))), ((1 : Int), ((0 : Int), (10 : Int))), ((1 : Int), ((0 : Int), (10 : Int))), ((1 : Int), ((0 : Int), (10 : Int))), ((1 : Int), ((0 : Int), (10 : Int))), ((1 : Int), ((0 : Int), (10 : Int))), ((1 : Int), ((0 : Int), (12 : Int))), ((1 : Int), ((0 : Int), (12 : Int))), ((1 : Int), ((0 : Int), (12 : Int))), ((1 : Int), ((0 : Int), (12 : Int))), ((1 : Int), ((0 : Int), (16 : Int))), ((1 : Int), ((0 : Int), (16 : Int))), ((1 : Int), ((0 : Int), (16 : Int))), ((1 : Int), ((0 : Int), (16 : Int))), ((1 : Int), ((0 : Int), (42 : Int))), ((2 : Int), ((0 : Int), (1 : Int))), ((2 : Int), ((0 : Int), (2 : Int))), ((2 : Int), ((0 : Int), (5 : Int))), ((2 : Int), ((0 : Int), (7 : Int))), ((2 : Int), ((0 : Int), (42 : Int))), ((4 : Int), ((0 : Int), (8 : Int))), ((2 : Int), ((0 : Int), (17 : Int))), ((3 : Int), ((0 : Int), (25 : Int))), ((1 : Int), ((2 : Int), (11 : Int))), ((1 : Int), ((2 : Int), (11 : Int))), ((3 : Int), ((2 : Int), (17 : Int))), ((3 : Int), ((2 : Int), (28 : Int))), ((3 : Int), ((2 : Int), (28 : Int))), ((3 : Int), ((3 : Int), (100 : Int))), ((3 : Int), ((3 : Int), (999 : Int))), ((3 : Int), ((3 : Int), (999 : Int))), ((3 : Int), ((3 : Int), (999 : Int))), ((3 : Int), ((3 : Int), (999 : Int))), ((3 : Int), ((3 : Int), (999 : Int))), ((3 : Int), ((3 : Int), (999 : Int))), ((3 : Int), ((3 : Int), (999 : Int))), ((3 : Int), ((3 : Int), (999 : Int))), ((3 : Int), ((3 : Int), (999 : Int))), ((3 : Int), ((3 : Int), (999 : Int))), ((3 : Int), ((3 : Int), (999 : Int))), ((3 : Int), ((3 : Int), (999 : Int))), ((3 : Int), ((3 : Int), (999 : Int))), ((3 : Int), ((3 : Int), (999 : Int))), ((3 : Int), ((3 : Int), (999 : Int))), ((3 : Int), ((3 : Int), (999 : Int))), ((3 : Int), ((3 : Int), (999 : Int))), ((3 : Int), ((3 : Int), (999 : Int))), ((3 : Int), ((3 : Int), (999 : Int))), ((3 : Int), ((3 : Int), (999 : Int))), ((3 : Int), ((3 : Int), (999 : Int))), ((3 : Int), ((3 : Int), (999 : Int))), ((3 : Int), ((3 : Int), (999 : Int))), ((4 : Int), ((0 : Int), (8 : Int)))] (Int.toNat a) (Ty.dflt T_api_Spec)), (7 : Int))) else (some ((List.getD [((0 : Int), ((0 : Int), (0 : Int))), ((0 : Int), ((0 : Int), (0 : Int))), ((1 : Int), ((2 : Int), (19 : Int))), ((1 : Int), ((0 : Int), (6 : Int))), ((1 : Int), ((0 : Int), (12 : Int))), ((1 : Int), ((0 : Int), (12 : Int))), ((1 : Int), ((0 : Int), (12 : Int))), ((1 : Int), ((0 : Int), (10 : Int))), ((1 : Int), ((0 : Int), (8 : Int))), ((1 : Int), ((0 : Int), (8 : Int))), ((1 : Int), ((0 : Int), (8 : Int))), ((1 : Int), ((0 : Int), (6 : Int))), ((1 : Int), ((0 : Int), (6 : Int))), ((1 : Int), ((0 : Int), (4 : Int))), ((1 : Int), ((0 : Int), (4 : Int))), ((1 : Int), ((0 : Int), (4 : Int))), ((1 : Int), ((0 : Int), (4 : Int))), ((1 : Int), ((0 : Int), (4 : Int))), ((1 : Int), ((0 : Int), (4 : Int))), ((1 : Int), ((0 : Int), (3 : Int))), ((1 : Int), ((0 : Int), (3 : Int))), ((1 : Int), ((0 : Int), (3 : Int))), ((1 : Int), ((0 : Int), (3 : Int))), ((1 : Int), ((0 : Int), (3 : Int))), ((1 : Int), ((0 : Int), (3 : Int))), ((1 : Int), ((0 : Int), (2 : Int))), ((1 : Int), ((0 : Int), (2 : Int))), ((1 : Int), ((0 : Int), (1 : Int))), ((2 : Int), ((0 : Int), (9 : Int))), ((2 : Int), ((0 : Int), (9 : Int))), ((2 : Int), ((0 : Int), (9 : Int))), ((2 : Int), ((0 : Int), (9 : Int))), ((1 : Int), ((2 : Int), (11 : Int))), ((1 : Int), ((2 : Int), (11 : Int))), ((2 : Int), ((2 : Int), (28 : Int))), ((3 : Int), ((2 : Int), (37 : Int))), ((3 : Int), ((3 : Int), (104 : Int))), ((2 : Int), ((0 : Int), (12 : Int))), ((2 : Int), ((0 : Int), (6 : Int))), ((2 : Int), ((0 : Int), (2 : Int))), ((2 : Int), ((0 : Int), (3 : Int))), ((3 : Int), ((0 : Int), (8 : Int))), ((3 : Int), ((0 : Int), (15 : Int))), ((3 : Int), ((0 : Int), (40 : Int))), ((3 : Int), ((2 : Int), (25 : Int))), ((3 : Int), ((2 : Int), (76 : Int))), ((3 : Int), ((3 : Int), (999 : Int))), ((3 : Int), ((3 : Int), (999 : Int))), ((3 : Int), ((3 : Int), (999 : Int))), ((2 : Int), ((0 : Int), (3 : Int))), ((2 : Int), ((0 : Int), (3 : Int))), ((2 : Int), ((0 : Int), (3 : Int))), ((4 : Int), ((0 : Int), (8 : Int))), ((1 : Int), ((0 : Int), (16 : Int))), ((2 : Int), ((3 : Int), (120 : Int))), ((3 : Int), ((3 : Int), (999 : Int))), ((3 : Int), ((3 : Int), (999 : Int))), ((3 : Int), ((3 : Int), (999 : Int))), ((3 : Int), ((3 : Int), (999 : Int))), ((3 : Int), ((3 : Int), (999 : Int))), ((3 : Int), ((3 : Int), (999 : Int))), ((3 : Int), ((3 : Int), (999 : Int))), ((3 : Int), ((3 : Int), (999 : Int))), ((3 : Int), ((3 : Int), (999 : Int))), ((4 : Int), ((0 : Int), (8 : Int))), ((0 : Int), ((0 : Int), (0 : Int))), ((1 : Int), ((0 : Int), (1 : Int))), ((1 : Int), ((0 : Int), (2 : Int))), ((1 : Int), ((0 : Int), (3 : Int))), ((1 : Int), ((0 : Int), (3 : Int))), ((1 : Int), ((0 : Int), (3 : Int))), ((1 : Int), ((0 : Int), (4 : Int))), ((1 : Int), ((0 : Int), (4 : Int))), ((1 : Int), ((0 : Int), (6 : Int))), ((1 : Int), ((0 : Int), (10 : Int))), ((1 : Int), ((0 : Int), (10 : Int))), ((1 : Int), ((0 : Int), (10 : Int))), ((1 : Int), ((0 : Int), (10 : Int))), ((1 : Int), ((0 : Int), (10 : Int))), ((1 : Int), ((0 : Int), (10 : Int))), ((1 : Int), ((0 : Int), (10 : Int))), ((1 : Int), ((0 : Int), (10 : Int))), ((1 : Int), ((0 : Int), (12 : Int))), ((1 : Int), ((0 : Int), (12 : Int))), ((1 : Int), ((0 : Int), (12 : Int))), ((1 : Int), ((0 : Int), (12 : Int))), ((1 : Int), ((0 : Int), (16 : Int))), ((1 : Int), ((0 : Int), (16 : Int))), ((1 : Int), ((0 : Int), (16 : Int))), ((1 : Int), ((0 : Int), (16 : Int))), ((1 : Int), ((0 : Int), (42 : Int))), ((2 : Int), ((0 : Int), (1 : Int))), ((2 : Int), ((0 : Int), (2 : Int))), ((2 : Int), ((0 : Int), (5 : Int))), ((2 : Int), ((0 : Int), (7 : Int))), ((2 : Int), ((0 : Int), (42 : Int))), ((4 : Int), ((0 : Int), (8 : Int))), ((2 : Int), ((0 : Int), (17 : Int))), ((3 : Int), ((0 : Int), (25 : Int))), ((1 : Int), ((2 : Int), (11 : Int))), ((1 : Int), ((2 : Int), (11 : Int))), ((3 : Int), ((2 : Int), (17 : Int))), ((3 : Int), ((2 : Int), (28 : Int))), ((3 : Int), ((2 : Int), (28 : Int))), ((3 : Int), ((3 : Int), (100 : Int))), ((3 : Int), ((3 : Int), (999 : Int))), ((3 : Int), ((3 : Int), (999 : Int))), ((3 : Int), ((3 : Int), (999 : Int))), ((3 : Int), ((3 : Int), (999 : Int))), ((3 : Int), ((3 : Int), (999 : Int))), ((3 : Int), ((3 : Int), (999 : Int))), ((3 : Int), ((3 : Int), (999 : Int))), ((3 : Int), ((3 : Int), (999 : Int))), ((3 : Int), ((3 : Int), (999 : Int))), ((3 : Int), ((3 : Int), (999 : Int))), ((3 : Int), ((3 : Int), (999 : Int))), ((3 : Int), ((3 : Int), (999 : Int))), ((3 : Int), ((3 : Int), (999 : Int))), ((3 : Int), ((3 : Int), (999 : Int))), ((3 : Int), ((3 : Int), (999 : Int))), ((3 : Int), ((3 : Int), (999 : Int))), ((3 : Int), ((3 : Int), (999 : Int))), ((3 : Int), ((3 : Int), (999 : Int))), ((3 : Int), ((3 : Int), (999 : Int))), ((3 : Int), ((3 : Int), (999 : Int))), ((3 : Int), ((3 : Int), (999 : Int))), ((3 : Int), ((3 : Int), (999 : Int))), ((3 : Int), ((3 : Int), (999 : Int))), ((4 : Int), ((0 : Int), (8 : Int)))] (Int.toNat a) (Ty.dflt T_api_Spec)), (0 : Int)))) else none)))
theorem spec_Of.ok : ∀ a : Vals spec_Of.As.tys, fnK P spec_Of.H (lp []) 4 spec_Of.As spec_Of.m a some = spec_Of.f a := fun a => by kernel_rfl
noncomputable abbrev spec_Of.row : Row := fnRow 4 spec_Of.As spec_Of.m spec_Of.f
theorem spec_Of.row_ok : RowOK P G1 spec_Of.row := row_told spec_Of.hok (lp_of (l := []) trivial) (fun _ => rfl) spec_Of.ok
end Go.Proofs.YtpoiijkodpnobaaDoor
end
section
/- The Go function bursarref16.in, as a Lean function, and that it is this one. Written by a program of this session. -/
set_option linter.unusedVariables false
set_option maxRecDepth 100000
namespace Go.Proofs.YtpoiijkodpnobaaDoor
open Go Go.Fw
abbrev bursarref16_in.As : Shs := (.cons (.x (.i .i64)) (.cons (.x (.i .i64)) (.cons (.x (.i .i64)) .nil)))
abbrev bursarref16_in.m : Back := [(false, .b)]
noncomputable abbrev bursarref16_in.H : HK := hk P G0 E0 J0 [] noLoops 4
theorem bursarref16_in.rows : TabOK P G0 (tabF []) := rows_ok (ws := []) trivial
theorem bursarref16_in.hok : HKOK P bursarref16_in.H := hk_ok e0_ok j0_ok bursarref16_in.rows (fun g n => noLoops_ok g n) 4
noncomputable def bursarref16_in.f (a : (Int × (Int × Int))) : Option Bool := (bif (decide ((a.2.1 ≤ a.1))) then (some (decide ((a.1 ≤ a.2.2)))) else (some false))
theorem bursarref16_in.ok : ∀ a : Vals bursarref16_in.As.tys, fnK P bursarref16_in.H (lp []) 9 bursarref16_in.As bursarref16_in.m a some = bursarref16_in.f a := fun a => by kernel_rfl
noncomputable abbrev bursarref16_in.row : Row := fnRow 9 bursarref16_in.As bursarref16_in.m bursarref16_in.f
theorem bursarref16_in.row_ok : RowOK P G0 bursarref16_in.row := row_told bursarref16_in.hok (lp_of (l := []) trivial) (fun _ => rfl) bursarref16_in.ok
end Go.Proofs.YtpoiijkodpnobaaDoor
end
section
/- The Go function bursarref16.Of, as a Lean function, and that it is this one. Written by a program of this session. -/
set_option linter.unusedVariables false
set_option maxRecDepth 100000
namespace Go.Proofs.YtpoiijkodpnobaaDoor
open Go Go.Fw
abbrev bursarref16_Of.As : Shs := (.cons (.x (.i .i64)) .nil)
abbrev bursarref16_Of.m : Back := [(false, T_api_Spec)]
noncomputable abbrev bursarref16_Of.H : HK := hk P G0 E0 J0 [bursarref16_in.row] noLoops 4
theorem bursarref16_Of.rows : TabOK P G0 (tabF [bursarref16_in.row]) := rows_ok (ws := [bursarref16_in.row]) ⟨bursarref16_in.row_ok, trivial⟩
theorem bursarref16_Of.hok : HKOK P bursarref16_Of.H := hk_ok e0_ok j0_ok bursarref16_Of.rows (fun g n => noLoops_ok g n) 4
noncomputable def bursarref16_Of.f (a : Int) : Option (Int × (Int × Int)) := (bif (a == (2 : Int)) then (some ((1 : Int), ((2 : Int), (19 : Int)))) else (bif (a == (3 : Int)) then (some ((1 : Int), ((0 : Int), (6 : Int)))) else (bif (a == (11 : Int)) then (some ((1 : Int), ((0 : Int), (6 : Int)))) else (bif (a == (12 : Int)) then (some ((1 : Int), ((0 : Int), (6 : Int)))) else (bif (a == (73 : Int)) then (some ((1 : Int), ((0 : Int), (6 : Int)))) else (((bursarref16_in.f (a, ((4 : Int), (6 : Int))))).bind fun (x1 : Bool) => (bif x1 then (some ((1 : Int), ((0 : Int), (12 : Int)))) else (((bursarref16_in.f (a, ((82 : Int), (85 : Int))))).bind fun (x2 : Bool) => (bif x2 then (some ((1 : Int), ((0 : Int), (12 : Int)))) else (bif (a == (7 : Int)) then (some ((1 : Int), ((0 : Int), (10 : Int)))) else (((bursarref16_in.f (a, ((74 : Int), (81 : Int))))).bind fun (x3 : Bool) => (bif x3 then (some ((1 : Int), ((0 : Int), (10 : Int)))) else (((bursarref16_in.f (a, ((8 : Int), (10 : Int))))).bind fun (x4 : Bool) => (bif x4 then (some ((1 : Int), ((0 : Int), (8 : Int)))) else (((bursarref16_in.f (a, ((13 : Int), (18 : Int))))).bind fun (x5 : Bool) => (bif x5 then (some ((1 : Int), ((0 : Int), (4 : Int)))) else (bif (a == (71 : Int)) then (some ((1 : Int), ((0 : Int), (4 : Int)))) else (bif (a == (72 : Int)) then (some ((1 : Int), ((0 : Int), (4 : Int)))) else (((bursarref16_in.f (a, ((19 : Int), (24 : Int))))).bind fun (x6 : Bool) => (bif x6 then (some ((1 : Int), ((0 : Int), (3 : Int)))) else (((bursarref16_in.f (a, ((68 : Int), (70 : Int))))).bind fun (x7 : Bool) => (bif x7 then (some ((1 : Int), ((0 : Int), (3 : Int)))) else (bif (a == (25 : Int)) then (some ((1 : Int), ((0 : Int), (2 : Int)))) else (bif (a == (26 : Int)) then (some ((1 : Int), ((0 : Int), (2 : Int)))) else (bif (a == (67 : Int)) then (some ((1 : Int), ((0 : Int), (2 : Int)))) else (bif (a == (27 : Int)) then (some ((1 : Int), ((0 : Int), (1 : Int)))) else (bif (a == (66 : Int)) then (some ((1 : Int), ((0 : Int), (1 : Int)))) else (((bursarref16_in.f (a, ((28 : Int), (31 : Int))))).bind fun (x8 : Bool) => (bif x8 then (some ((2 : Int), ((0 : Int), (9 : Int)))) else (bif (a == (32 : Int)) then (some ((1 : Int), ((2 : Int), (11 : Int)))) else (bif (a == (33 : Int)) then (some ((1 : Int), ((2 : Int), (11 : Int)))) else (bif (a == (99 : Int)) then (some ((1 : Int), ((2 : Int), (11 : Int)))) else (bif (a == (100 : Int)) then (some ((1 : Int), ((2 : Int), (11 : Int)))) else (bif (a == (34 : Int)) then (some ((2 : Int), ((2 : Int), (28 : Int)))) else (bif (a == (35 : Int)) then (some ((3 : Int), ((2 : Int), (37 : Int)))) else (bif (a == (36 : Int)) then (some ((3 : Int), ((3 : Int), (104 : Int)))) else (bif (a == (37 : Int)) then (some ((2 : Int), ((0 : Int), (12 : Int)))) else (bif (a == (38 : Int)) then (some ((2 : Int), ((0 : Int), (6 : Int)))) else (bif (a == (39 : Int)) then (some ((2 : Int), ((0 : Int), (2 : Int)))) else (bif (a == (92 : Int)) then (some ((2 : Int), ((0 : Int), (2 : Int)))) else (bif (a == (40 : Int)) then (some ((2 : Int), ((0 : Int), (3 : Int)))) else (((bursarref16_in.f (a, ((49 : Int), (51 : Int))))).bind fun (x9 : Bool) => (bif x9 then (some ((2 : Int), ((0 : Int), (3 : Int)))) else (bif (a == (41 : Int)) then (some ((3 : Int), ((0 : Int), (8 : Int)))) else (bif (a == (42 : Int)) then (some ((3 : Int), ((0 : Int), (15 : Int)))) else (bif (a == (43 : Int)) then (some ((3 : Int), ((0 : Int), (40 : Int)))) else (bif (a == (44 : Int)) then (some ((3 : Int), ((2 : Int), (25 : Int)))) else (bif (a == (45 : Int)) then (some ((3 : Int), ((2 : Int), (76 : Int)))) else (((bursarref16_in.f (a, ((46 : Int), (48 : Int))))).bind fun (x10 : Bool) => (bif x10 then (some ((3 : Int), ((3 : Int), (999 : Int)))) else (((bursarref16_in.f (a, ((55 : Int), (63 : Int))))).bind fun (x11 : Bool) => (bif x11 then (some ((3 : Int), ((3 : Int), (999 : Int)))) else (((bursarref16_in.f (a, ((105 : Int), (127 : Int))))).bind fun (x12 : Bool) => (bif x12 then (some ((3 : Int), ((3 : Int), (999 : Int)))) else (bif (a == (52 : Int)) then (some ((4 : Int), ((0 : Int), (8 : Int)))) else (bif (a == (64 : Int)) then (some ((4 : Int), ((0 : Int), (8 : Int)))) else (bif (a == (96 : Int)) then (some ((4 : Int), ((0 : Int), (8 : Int)))) else (bif (a == (128 : Int)) then (some ((4 : Int), ((0 : Int), (8 : Int)))) else (bif (a == (53 : Int)) then (some ((1 : Int), ((0 : Int), (16 : Int)))) else (((bursarref16_in.f (a, ((86 : Int), (89 : Int))))).bind fun (x13 : Bool) => (bif x13 then (some ((1 : Int), ((0 : Int), (16 : Int)))) else (bif (a == (54 : Int)) then (some ((2 : Int), ((3 : Int), (120 : Int)))) else (bif (a == (90 : Int)) then (some ((1 : Int), ((0 : Int), (42 : Int)))) else (bif (a == (91 : Int)) then (some ((2 : Int), ((0 : Int), (1 : Int)))) else (bif (a == (93 : Int)) then (some ((2 : Int), ((0 : Int), (5 : Int)))) else (bif (a == (94 : Int)) then (some ((2 : Int), ((0 : Int), (7 : Int)))) else (bif (a == (95 : Int)) then (some ((2 : Int), ((0 : Int), (42 : Int)))) else (bif (a == (97 : Int)) then (some ((2 : Int), ((0 : Int), (17 : Int)))) else (bif (a == (98 : Int)) then (some ((3 : Int), ((0 : Int), (25 : Int)))) else (bif (a == (101 : Int)) then (some ((3 : Int), ((2 : Int), (17 : Int)))) else (bif (a == (102 : Int)) then (some ((3 : Int), ((2 : Int), (28 : Int)))) else (bif (a == (103 : Int)) then (some ((3 : Int), ((2 : Int), (28 : Int)))) else (bif (a == (104 : Int)) then (some ((3 : Int), ((3 : Int), (100 : Int)))) else (some ((0 : Int), ((0 : Int), (0 : Int)))))))))))))))))))))))))))))))))))))))))))))))))))))))))))))))))))))))))))))
theorem bursarref16_Of.ok : ∀ a : Vals bursarref16_Of.As.tys, fnK P bursarref16_Of.H (lp []) 5 bursarref16_Of.As bursarref16_Of.m a some = bursarref16_Of.f a := fun a => by kernel_rfl
noncomputable abbrev bursarref16_Of.row : Row := fnRow 5 bursarref16_Of.As bursarref16_Of.m bursarref16_Of.f
theorem bursarref16_Of.row_ok : RowOK P G0 bursarref16_Of.row := row_told bursarref16_Of.hok (lp_of (l := []) trivial) (fun _ => rfl) bursarref16_Of.ok
end Go.Proofs.YtpoiijkodpnobaaDoor
end
section
/- What fields are, and of which octets: plain laws. By this session. -/
set_option linter.unusedVariables false
set_option linter.unusedSimpArgs false
namespace Go.Proofs.YtpoiijkodpnobaaDoor
open Go Go.Fw
/-! ### the table -/
def okSpec (k v l : Int) : Bool := (decide (k = 0) && (decide (v = 0) && decide (l = 0))) || (decide (1 ≤ k) && (decide (k ≤ 4) && ((decide (v = 0) || (decide (v = 2) && decide (l ≤ 99)) || decide (v = 3)) && (decide (1 ≤ l) && decide (l ≤ 999)))))
noncomputable def tabCheck (n : Nat) : Bool := match bursarref16_Of.f (n : Int), spec_Of.f (n : Int) with
  | some (k, v, l), some ((k', v', l'), e) => (decide (k = k') && (decide (v = v') && decide (l = l'))) && (decide (e = bif decide (k = 0) then 7 else 0) && okSpec k v l)
  | _, _ => false
theorem tab_all : (List.range 129).all tabCheck = true := by kernel_rfl
theorem of_out {n : Int} (h : ¬ (0 ≤ n ∧ n ≤ 128)) : bursarref16_Of.f n = some (0, 0, 0) ∧ spec_Of.f n = some ((0, 0, 0), 7) := by
  constructor
  · have e : ∀ k : Int, 0 ≤ k → k ≤ 128 → (n == k) = false := fun k h0 h1 => by rw [beq_eq_false_iff_ne]; omega
    have i : ∀ lo hi : Int, 0 ≤ lo → hi ≤ 128 → bursarref16_in.f (n, lo, hi) = some false := fun lo hi h0 h1 => by
      unfold bursarref16_in.f
      by_cases hl : lo ≤ n
      · have : ¬ n ≤ hi := by omega
        simp [hl, this]
      · simp [hl]
    unfold bursarref16_Of.f
    simp [e, i]
  · unfold spec_Of.f
    by_cases h0 : n < 0
    · simp [h0]
    · have h1 : n > 128 := by omega
      simp [h0, h1]
theorem of_is (n : Int) : ∃ k v l : Int, bursarref16_Of.f n = some (k, v, l) ∧ spec_Of.f n = some ((k, v, l), bif decide (k = 0) then 7 else 0) ∧ okSpec k v l = true := by
  by_cases h : 0 ≤ n ∧ n ≤ 128
  · have := List.all_eq_true.1 tab_all n.toNat (List.mem_range.2 (by omega))
    unfold tabCheck at this
    rw [show ((n.toNat : Nat) : Int) = n by omega] at this
    split at this
    · rename_i k v l k' v' l' e h1 h2
      simp only [Bool.and_eq_true, decide_eq_true_eq] at this
      obtain ⟨⟨rfl, rfl, rfl⟩, rfl, h3⟩ := this
      exact ⟨k, v, l, h1, h2, h3⟩
    · cases this
  · obtain ⟨h1, h2⟩ := of_out h
    exact ⟨0, 0, 0, h1, h2, rfl⟩
/-! ### octets of a kind -/
def okN (c : UInt8) : Bool := decide (48 ≤ c.toNat) && decide (c.toNat ≤ 57)
def okA (c : UInt8) : Bool := okN c || (decide (65 ≤ c.toNat) && decide (c.toNat ≤ 90)) || (decide (97 ≤ c.toNat) && decide (c.toNat ≤ 122)) || decide (c.toNat = 32)
def okS (c : UInt8) : Bool := decide (32 ≤ c.toNat) && decide (c.toNat ≤ 126)
def okC (k : Int) (c : UInt8) : Bool := bif k == 1 then okN c else bif k == 2 then okA c else bif k == 3 then okS c else true
theorem or32 : (List.range 256).all (fun c => (decide (97 ≤ bitsOp .or .u8 (c : Int) 32) && decide (bitsOp .or .u8 (c : Int) 32 ≤ 122)) == ((decide (65 ≤ c) && decide (c ≤ 90)) || (decide (97 ≤ c) && decide (c ≤ 122)))) = true := by kernel_rfl
theorem or32_is (c : UInt8) : (decide (97 ≤ bitsOp .or .u8 (c.toNat : Int) 32) && decide (bitsOp .or .u8 (c.toNat : Int) 32 ≤ 122)) = ((decide (65 ≤ c.toNat) && decide (c.toNat ≤ 90)) || (decide (97 ≤ c.toNat) && decide (c.toNat ≤ 122))) := by
  have := List.all_eq_true.1 or32 c.toNat (List.mem_range.2 c.toNat_lt)
  exact eq_of_beq this
/-- rounds over a text, while each octet is right -/
theorem text_rounds {S R : Type} {t : S → Option (S ⊕ R)} (st : Nat → S) (s : ByteArray) (ok : UInt8 → Bool) (out fin : R)
    (h : ∀ i, i < s.size → t (st i) = some (bif ok (s.data.toList.getD i 0) then .inl (st (i + 1)) else .inr out)) (hf : t (st s.size) = some (.inr fin)) : rounds t (st 0) = some (bif s.data.toList.all ok then fin else out) := by
  have := rounds_all st (fun i => ok (s.data.toList.getD i 0)) out fin s.size h hf
  rw [this]
  have e := range_all ok 0 s.data.toList
  rw [show s.data.toList.length = s.size from rfl] at e
  rw [e]
theorem ge0 (i : Nat) : decide ((0 : Int) ≤ (i : Int)) = true := by simp
theorem okC_bt (k : Int) (c : UInt8) : okC k c = (bif k == 1 then decide ((48 : Int) ≤ (c.toNat : Int)) && decide ((c.toNat : Int) ≤ 57) else bif k == 2 then (decide ((48 : Int) ≤ (c.toNat : Int)) && decide ((c.toNat : Int) ≤ 57)) || ((decide ((65 : Int) ≤ (c.toNat : Int)) && decide ((c.toNat : Int) ≤ 90)) || (decide ((97 : Int) ≤ (c.toNat : Int)) && decide ((c.toNat : Int) ≤ 122)) || ((c.toNat : Int) == 32)) else bif k == 3 then decide ((32 : Int) ≤ (c.toNat : Int)) && decide ((c.toNat : Int) ≤ 126) else true) := by
  have e : ∀ a b : Nat, decide ((a : Int) ≤ (b : Int)) = decide (a ≤ b) := fun a b => by rw [Bool.eq_iff_iff]; simp
  have e0 : ((c.toNat : Int) == 32) = decide (c.toNat = 32) := by rw [Bool.eq_iff_iff]; simp; omega
  have e1 := e 48 c.toNat; have e2 := e c.toNat 57; have e3 := e 65 c.toNat; have e4 := e c.toNat 90; have e5 := e 97 c.toNat; have e6 := e c.toNat 122; have e7 := e 32 c.toNat; have e8 := e c.toNat 126
  simp only [Int.cast_ofNat_Int] at e1 e2 e3 e4 e5 e6 e7 e8
  simp only [okC, okA, okN, okS, e0, e1, e2, e3, e4, e5, e6, e7, e8, Bool.or_assoc]
end Go.Proofs.YtpoiijkodpnobaaDoor
end
